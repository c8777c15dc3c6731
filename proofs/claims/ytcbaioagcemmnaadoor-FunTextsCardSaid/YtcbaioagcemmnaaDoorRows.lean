/-
  NARROWER THAN 'FOR EVERY INPUT', by the rows' own cells (each row's printed sentence says how): FunSums: laid · FunIf: laid · FunTexts: laid · FunMod: laid · FunLogic: laid · FunNothing: laid.
  DERIVED. THE GIVEN ROWS OF THIS SEAT. 6 by the template 'for every input the law returns true; each argument reads behind the call as it read before'; 0 by the template 'total and deterministic' (their statements: YtcbaioagcemmnaaDoorTotals.lean).
  GIVEN WITH THE SEED: the statements are not yours to turn. If you find one false, say at which input.
  Laid BY PROGRAM, IN A SANDBOX (cutbox-rows.mjs): the forced cells as the released guide's own fill.sh prints them over the translation e08fd039751eccaa… (all of the seat's roots in one cut). By AI agents, Wed Nov 11 2026. No macro, syntax, notation, axiom, sorry.
-/
import Derived.Test.YtcbaioagcemmnaaDoorChecked
import GoSem.Claim
import GoSem.ClaimJoined
import GoSem.ClaimMapViews
import Derived.JoinedTies
import Derived.KernelRfl
namespace Go.Proofs.YtcbaioagcemmnaaDoor
/- THE CELL 'sum', in the pinned program and in every row, IS THE sha256 OF THE DUMP (.gsa) THAT YtcbaioagcemmnaaDoorProg.lean LOADS. Nothing in Lean hashes anything: it is a label: what it is worth is what the hold of that sum in a sandbox is worth. -/
noncomputable def Tryd.pinned : Pinned := { name := "ytcbaioagcemmnaadoor", sum := "e08fd039751eccaaeea5aaa9f98c82c932372a4eb47120cd0bc12fc3585799c5", checked := Tryd.checked }
namespace Rows
def none {H : Type} : Left H := { results := [], args := [] }

/- WHAT THE LISTED PACKAGE-LEVEL VARIABLES READ AS WHEN THE CALL BEGINS. Each datum BY PROGRAM (the guide's laid-datum.mjs) off the statement by which the dump's own 'gosem.cut.vars' lays the variable. In a bare row this is a premise. The card (YtcbaioagcemmnaaDoorCards.lean) ties it to the program's text. -/
def laid_math_bits_deBruijn32tab {H : Type} : DataW H := .agg [.lit (.int .u8 0), .lit (.int .u8 1), .lit (.int .u8 28), .lit (.int .u8 2), .lit (.int .u8 29), .lit (.int .u8 14), .lit (.int .u8 24), .lit (.int .u8 3), .lit (.int .u8 30), .lit (.int .u8 22), .lit (.int .u8 20), .lit (.int .u8 15), .lit (.int .u8 25), .lit (.int .u8 17), .lit (.int .u8 4), .lit (.int .u8 8), .lit (.int .u8 31), .lit (.int .u8 27), .lit (.int .u8 13), .lit (.int .u8 23), .lit (.int .u8 21), .lit (.int .u8 19), .lit (.int .u8 16), .lit (.int .u8 7), .lit (.int .u8 26), .lit (.int .u8 12), .lit (.int .u8 18), .lit (.int .u8 6), .lit (.int .u8 11), .lit (.int .u8 5), .lit (.int .u8 10), .lit (.int .u8 9)]
def laid_math_bits_deBruijn64tab {H : Type} : DataW H := .agg [.lit (.int .u8 0), .lit (.int .u8 1), .lit (.int .u8 56), .lit (.int .u8 2), .lit (.int .u8 57), .lit (.int .u8 49), .lit (.int .u8 28), .lit (.int .u8 3), .lit (.int .u8 61), .lit (.int .u8 58), .lit (.int .u8 42), .lit (.int .u8 50), .lit (.int .u8 38), .lit (.int .u8 29), .lit (.int .u8 17), .lit (.int .u8 4), .lit (.int .u8 62), .lit (.int .u8 47), .lit (.int .u8 59), .lit (.int .u8 36), .lit (.int .u8 45), .lit (.int .u8 43), .lit (.int .u8 51), .lit (.int .u8 22), .lit (.int .u8 53), .lit (.int .u8 39), .lit (.int .u8 33), .lit (.int .u8 30), .lit (.int .u8 24), .lit (.int .u8 18), .lit (.int .u8 12), .lit (.int .u8 5), .lit (.int .u8 63), .lit (.int .u8 55), .lit (.int .u8 48), .lit (.int .u8 27), .lit (.int .u8 60), .lit (.int .u8 41), .lit (.int .u8 37), .lit (.int .u8 16), .lit (.int .u8 46), .lit (.int .u8 35), .lit (.int .u8 44), .lit (.int .u8 21), .lit (.int .u8 52), .lit (.int .u8 32), .lit (.int .u8 23), .lit (.int .u8 11), .lit (.int .u8 54), .lit (.int .u8 26), .lit (.int .u8 40), .lit (.int .u8 15), .lit (.int .u8 34), .lit (.int .u8 20), .lit (.int .u8 31), .lit (.int .u8 10), .lit (.int .u8 25), .lit (.int .u8 14), .lit (.int .u8 19), .lit (.int .u8 9), .lit (.int .u8 13), .lit (.int .u8 8), .lit (.int .u8 7), .lit (.int .u8 6)]
def laid_internal_strconv_uint64pow10 {H : Type} : DataW H := .agg [.lit (.int .u64 1), .lit (.int .u64 10), .lit (.int .u64 100), .lit (.int .u64 1000), .lit (.int .u64 10000), .lit (.int .u64 100000), .lit (.int .u64 1000000), .lit (.int .u64 10000000), .lit (.int .u64 100000000), .lit (.int .u64 1000000000), .lit (.int .u64 10000000000), .lit (.int .u64 100000000000), .lit (.int .u64 1000000000000), .lit (.int .u64 10000000000000), .lit (.int .u64 100000000000000), .lit (.int .u64 1000000000000000), .lit (.int .u64 10000000000000000), .lit (.int .u64 100000000000000000), .lit (.int .u64 1000000000000000000), .lit (.int .u64 10000000000000000000)]

/-- 'chequerlaw8.FunSums': WHATEVER THE INPUT: true; the input reads as it did. -/
def funSumsSpec : ChangeSpec := { name := "funSums", fn := fun _ => fun
  | [d1, d2, d3] => { results := [.lit (.bool true)], args := [d1, d2, d3] }
  | _ => none }
def funSumsRow : OpenClaim := { program := "ytcbaioagcemmnaadoor", sum := "e08fd039751eccaaeea5aaa9f98c82c932372a4eb47120cd0bc12fc3585799c5", func := "chequer/chequerlaw8.FunSums", spec := "funSums", unfollowed := true, recurses := true, named := ["internal/strconv.uint64pow10", "math/bits.deBruijn32tab", "math/bits.deBruijn64tab"], apart := false, laid := [("math/bits.deBruijn32tab", laid_math_bits_deBruijn32tab), ("math/bits.deBruijn64tab", laid_math_bits_deBruijn64tab), ("internal/strconv.uint64pow10", laid_internal_strconv_uint64pow10)] }
def FunSumsSaid : Prop := funSumsRow.holds Tryd.pinned (OpenSpec.ofChange funSumsSpec)

/-- ITS FALSE NEIGHBOUR: 'it returns false'. Refute it at one input. -/
def funSumsWrong : ChangeSpec := { name := "funSums", fn := fun _ => fun
  | [d1, d2, d3] => { results := [.lit (.bool false)], args := [d1, d2, d3] }
  | _ => none }
def FunSumsWrongFalsely : Prop := funSumsRow.holds Tryd.pinned (OpenSpec.ofChange funSumsWrong)

/-- 'chequerlaw8.FunIf': WHATEVER THE INPUT: true; the input reads as it did. -/
def funIfSpec : ChangeSpec := { name := "funIf", fn := fun _ => fun
  | [d1, d2, d3, d4] => { results := [.lit (.bool true)], args := [d1, d2, d3, d4] }
  | _ => none }
def funIfRow : OpenClaim := { program := "ytcbaioagcemmnaadoor", sum := "e08fd039751eccaaeea5aaa9f98c82c932372a4eb47120cd0bc12fc3585799c5", func := "chequer/chequerlaw8.FunIf", spec := "funIf", unfollowed := true, recurses := true, named := ["internal/strconv.uint64pow10", "math/bits.deBruijn32tab", "math/bits.deBruijn64tab"], apart := false, laid := [("math/bits.deBruijn32tab", laid_math_bits_deBruijn32tab), ("math/bits.deBruijn64tab", laid_math_bits_deBruijn64tab), ("internal/strconv.uint64pow10", laid_internal_strconv_uint64pow10)] }
def FunIfSaid : Prop := funIfRow.holds Tryd.pinned (OpenSpec.ofChange funIfSpec)

/-- ITS FALSE NEIGHBOUR: 'it returns false'. Refute it at one input. -/
def funIfWrong : ChangeSpec := { name := "funIf", fn := fun _ => fun
  | [d1, d2, d3, d4] => { results := [.lit (.bool false)], args := [d1, d2, d3, d4] }
  | _ => none }
def FunIfWrongFalsely : Prop := funIfRow.holds Tryd.pinned (OpenSpec.ofChange funIfWrong)

/-- 'chequerlaw8.FunTexts': WHATEVER THE INPUT: true; the input reads as it did. -/
def funTextsSpec : ChangeSpec := { name := "funTexts", fn := fun _ => fun
  | [d1, d2, d3] => { results := [.lit (.bool true)], args := [d1, d2, d3] }
  | _ => none }
def funTextsRow : OpenClaim := { program := "ytcbaioagcemmnaadoor", sum := "e08fd039751eccaaeea5aaa9f98c82c932372a4eb47120cd0bc12fc3585799c5", func := "chequer/chequerlaw8.FunTexts", spec := "funTexts", unfollowed := true, recurses := true, named := ["internal/strconv.uint64pow10", "math/bits.deBruijn32tab", "math/bits.deBruijn64tab"], apart := false, laid := [("math/bits.deBruijn32tab", laid_math_bits_deBruijn32tab), ("math/bits.deBruijn64tab", laid_math_bits_deBruijn64tab), ("internal/strconv.uint64pow10", laid_internal_strconv_uint64pow10)] }
def FunTextsSaid : Prop := funTextsRow.holds Tryd.pinned (OpenSpec.ofChange funTextsSpec)

/-- ITS FALSE NEIGHBOUR: 'it returns false'. Refute it at one input. -/
def funTextsWrong : ChangeSpec := { name := "funTexts", fn := fun _ => fun
  | [d1, d2, d3] => { results := [.lit (.bool false)], args := [d1, d2, d3] }
  | _ => none }
def FunTextsWrongFalsely : Prop := funTextsRow.holds Tryd.pinned (OpenSpec.ofChange funTextsWrong)

/-- 'chequerlaw8.FunMod': WHATEVER THE INPUT: true; the input reads as it did. -/
def funModSpec : ChangeSpec := { name := "funMod", fn := fun _ => fun
  | [d1, d2] => { results := [.lit (.bool true)], args := [d1, d2] }
  | _ => none }
def funModRow : OpenClaim := { program := "ytcbaioagcemmnaadoor", sum := "e08fd039751eccaaeea5aaa9f98c82c932372a4eb47120cd0bc12fc3585799c5", func := "chequer/chequerlaw8.FunMod", spec := "funMod", unfollowed := true, recurses := true, named := ["internal/strconv.uint64pow10", "math/bits.deBruijn32tab", "math/bits.deBruijn64tab"], apart := false, laid := [("math/bits.deBruijn32tab", laid_math_bits_deBruijn32tab), ("math/bits.deBruijn64tab", laid_math_bits_deBruijn64tab), ("internal/strconv.uint64pow10", laid_internal_strconv_uint64pow10)] }
def FunModSaid : Prop := funModRow.holds Tryd.pinned (OpenSpec.ofChange funModSpec)

/-- ITS FALSE NEIGHBOUR: 'it returns false'. Refute it at one input. -/
def funModWrong : ChangeSpec := { name := "funMod", fn := fun _ => fun
  | [d1, d2] => { results := [.lit (.bool false)], args := [d1, d2] }
  | _ => none }
def FunModWrongFalsely : Prop := funModRow.holds Tryd.pinned (OpenSpec.ofChange funModWrong)

/-- 'chequerlaw8.FunLogic': WHATEVER THE INPUT: true; the input reads as it did. -/
def funLogicSpec : ChangeSpec := { name := "funLogic", fn := fun _ => fun
  | [d1, d2] => { results := [.lit (.bool true)], args := [d1, d2] }
  | _ => none }
def funLogicRow : OpenClaim := { program := "ytcbaioagcemmnaadoor", sum := "e08fd039751eccaaeea5aaa9f98c82c932372a4eb47120cd0bc12fc3585799c5", func := "chequer/chequerlaw8.FunLogic", spec := "funLogic", unfollowed := true, recurses := true, named := ["internal/strconv.uint64pow10", "math/bits.deBruijn32tab", "math/bits.deBruijn64tab"], apart := false, laid := [("math/bits.deBruijn32tab", laid_math_bits_deBruijn32tab), ("math/bits.deBruijn64tab", laid_math_bits_deBruijn64tab), ("internal/strconv.uint64pow10", laid_internal_strconv_uint64pow10)] }
def FunLogicSaid : Prop := funLogicRow.holds Tryd.pinned (OpenSpec.ofChange funLogicSpec)

/-- ITS FALSE NEIGHBOUR: 'it returns false'. Refute it at one input. -/
def funLogicWrong : ChangeSpec := { name := "funLogic", fn := fun _ => fun
  | [d1, d2] => { results := [.lit (.bool false)], args := [d1, d2] }
  | _ => none }
def FunLogicWrongFalsely : Prop := funLogicRow.holds Tryd.pinned (OpenSpec.ofChange funLogicWrong)

/-- 'chequerlaw8.FunNothing': WHATEVER THE INPUT: true; the input reads as it did. -/
def funNothingSpec : ChangeSpec := { name := "funNothing", fn := fun _ => fun
  | [d1, d2, d3, d4] => { results := [.lit (.bool true)], args := [d1, d2, d3, d4] }
  | _ => none }
def funNothingRow : OpenClaim := { program := "ytcbaioagcemmnaadoor", sum := "e08fd039751eccaaeea5aaa9f98c82c932372a4eb47120cd0bc12fc3585799c5", func := "chequer/chequerlaw8.FunNothing", spec := "funNothing", unfollowed := true, recurses := true, named := ["internal/strconv.uint64pow10", "math/bits.deBruijn32tab", "math/bits.deBruijn64tab"], apart := false, laid := [("math/bits.deBruijn32tab", laid_math_bits_deBruijn32tab), ("math/bits.deBruijn64tab", laid_math_bits_deBruijn64tab), ("internal/strconv.uint64pow10", laid_internal_strconv_uint64pow10)] }
def FunNothingSaid : Prop := funNothingRow.holds Tryd.pinned (OpenSpec.ofChange funNothingSpec)

/-- ITS FALSE NEIGHBOUR: 'it returns false'. Refute it at one input. -/
def funNothingWrong : ChangeSpec := { name := "funNothing", fn := fun _ => fun
  | [d1, d2, d3, d4] => { results := [.lit (.bool false)], args := [d1, d2, d3, d4] }
  | _ => none }
def FunNothingWrongFalsely : Prop := funNothingRow.holds Tryd.pinned (OpenSpec.ofChange funNothingWrong)

/- THE SECOND FORM. 'bulk': how many values and letters a reading holds, each counted each time it is reached (what is shared counts as often as it is met; a slice's spare places count too). A statement '..UptoSaid' is the law's where the arguments, and the package variables that the reading takes, are together of bulk at most 1048576: NARROWER than '..Said'. Prove '..Said' where nothing that the law and all that it calls make is longer than what came in: it says more and counts as full. Else prove '..UptoSaid'. A law counts once. -/
mutual
def uptoBulk {H : Type} : DataW H → Nat
  | .lit (.string bytes) => bytes.length + 1
  | .lit _ => 1
  | .nil => 1
  | .ptr d => uptoBulk d + 1
  | .slice elems spare => uptoBulkAll elems + uptoBulkAll spare + 1
  | .agg parts => uptoBulkAll parts + 1
  | .iface _ d => uptoBulk d + 1
  | .map entries => uptoBulkEntries entries + 1
  | .held _ => 1
def uptoBulkAll {H : Type} : List (DataW H) → Nat
  | [] => 0
  | d :: r => uptoBulk d + uptoBulkAll r
def uptoBulkEntries {H : Type} : List (Lit × DataW H) → Nat
  | [] => 0
  | x :: r => uptoBulkEntry x + uptoBulkEntries r
def uptoBulkEntry {H : Type} : Lit × DataW H → Nat
  | (.string bytes, d) => bytes.length + uptoBulk d + 1
  | (_, d) => uptoBulk d + 1
 end
def uptoSmall : (H : Type) → List (DataW H) → Bool := fun _ ds => decide (uptoBulkAll ds ≤ 1048576)
def OpenSpec.upto (s : _root_.Go.ChangeSpec) : _root_.Go.OpenSpec := { _root_.Go.OpenSpec.ofChange s with cond := some uptoSmall }

/-- 'chequerlaw8.FunSums', WHERE WHAT IT READS IS OF BULK AT MOST 1048576: true; the input reads as it did. -/
def funSumsUptoRow : OpenClaim := { program := "ytcbaioagcemmnaadoor", sum := "e08fd039751eccaaeea5aaa9f98c82c932372a4eb47120cd0bc12fc3585799c5", func := "chequer/chequerlaw8.FunSums", spec := "funSums", unfollowed := true, recurses := true, named := ["internal/strconv.uint64pow10", "math/bits.deBruijn32tab", "math/bits.deBruijn64tab"], apart := false, laid := [("math/bits.deBruijn32tab", laid_math_bits_deBruijn32tab), ("math/bits.deBruijn64tab", laid_math_bits_deBruijn64tab), ("internal/strconv.uint64pow10", laid_internal_strconv_uint64pow10)], narrowed := true }
def FunSumsUptoSaid : Prop := funSumsUptoRow.holds Tryd.pinned (OpenSpec.upto funSumsSpec)

/-- 'chequerlaw8.FunIf', WHERE WHAT IT READS IS OF BULK AT MOST 1048576: true; the input reads as it did. -/
def funIfUptoRow : OpenClaim := { program := "ytcbaioagcemmnaadoor", sum := "e08fd039751eccaaeea5aaa9f98c82c932372a4eb47120cd0bc12fc3585799c5", func := "chequer/chequerlaw8.FunIf", spec := "funIf", unfollowed := true, recurses := true, named := ["internal/strconv.uint64pow10", "math/bits.deBruijn32tab", "math/bits.deBruijn64tab"], apart := false, laid := [("math/bits.deBruijn32tab", laid_math_bits_deBruijn32tab), ("math/bits.deBruijn64tab", laid_math_bits_deBruijn64tab), ("internal/strconv.uint64pow10", laid_internal_strconv_uint64pow10)], narrowed := true }
def FunIfUptoSaid : Prop := funIfUptoRow.holds Tryd.pinned (OpenSpec.upto funIfSpec)

/-- 'chequerlaw8.FunTexts', WHERE WHAT IT READS IS OF BULK AT MOST 1048576: true; the input reads as it did. -/
def funTextsUptoRow : OpenClaim := { program := "ytcbaioagcemmnaadoor", sum := "e08fd039751eccaaeea5aaa9f98c82c932372a4eb47120cd0bc12fc3585799c5", func := "chequer/chequerlaw8.FunTexts", spec := "funTexts", unfollowed := true, recurses := true, named := ["internal/strconv.uint64pow10", "math/bits.deBruijn32tab", "math/bits.deBruijn64tab"], apart := false, laid := [("math/bits.deBruijn32tab", laid_math_bits_deBruijn32tab), ("math/bits.deBruijn64tab", laid_math_bits_deBruijn64tab), ("internal/strconv.uint64pow10", laid_internal_strconv_uint64pow10)], narrowed := true }
def FunTextsUptoSaid : Prop := funTextsUptoRow.holds Tryd.pinned (OpenSpec.upto funTextsSpec)

/-- 'chequerlaw8.FunMod', WHERE WHAT IT READS IS OF BULK AT MOST 1048576: true; the input reads as it did. -/
def funModUptoRow : OpenClaim := { program := "ytcbaioagcemmnaadoor", sum := "e08fd039751eccaaeea5aaa9f98c82c932372a4eb47120cd0bc12fc3585799c5", func := "chequer/chequerlaw8.FunMod", spec := "funMod", unfollowed := true, recurses := true, named := ["internal/strconv.uint64pow10", "math/bits.deBruijn32tab", "math/bits.deBruijn64tab"], apart := false, laid := [("math/bits.deBruijn32tab", laid_math_bits_deBruijn32tab), ("math/bits.deBruijn64tab", laid_math_bits_deBruijn64tab), ("internal/strconv.uint64pow10", laid_internal_strconv_uint64pow10)], narrowed := true }
def FunModUptoSaid : Prop := funModUptoRow.holds Tryd.pinned (OpenSpec.upto funModSpec)

/-- 'chequerlaw8.FunLogic', WHERE WHAT IT READS IS OF BULK AT MOST 1048576: true; the input reads as it did. -/
def funLogicUptoRow : OpenClaim := { program := "ytcbaioagcemmnaadoor", sum := "e08fd039751eccaaeea5aaa9f98c82c932372a4eb47120cd0bc12fc3585799c5", func := "chequer/chequerlaw8.FunLogic", spec := "funLogic", unfollowed := true, recurses := true, named := ["internal/strconv.uint64pow10", "math/bits.deBruijn32tab", "math/bits.deBruijn64tab"], apart := false, laid := [("math/bits.deBruijn32tab", laid_math_bits_deBruijn32tab), ("math/bits.deBruijn64tab", laid_math_bits_deBruijn64tab), ("internal/strconv.uint64pow10", laid_internal_strconv_uint64pow10)], narrowed := true }
def FunLogicUptoSaid : Prop := funLogicUptoRow.holds Tryd.pinned (OpenSpec.upto funLogicSpec)

/-- 'chequerlaw8.FunNothing', WHERE WHAT IT READS IS OF BULK AT MOST 1048576: true; the input reads as it did. -/
def funNothingUptoRow : OpenClaim := { program := "ytcbaioagcemmnaadoor", sum := "e08fd039751eccaaeea5aaa9f98c82c932372a4eb47120cd0bc12fc3585799c5", func := "chequer/chequerlaw8.FunNothing", spec := "funNothing", unfollowed := true, recurses := true, named := ["internal/strconv.uint64pow10", "math/bits.deBruijn32tab", "math/bits.deBruijn64tab"], apart := false, laid := [("math/bits.deBruijn32tab", laid_math_bits_deBruijn32tab), ("math/bits.deBruijn64tab", laid_math_bits_deBruijn64tab), ("internal/strconv.uint64pow10", laid_internal_strconv_uint64pow10)], narrowed := true }
def FunNothingUptoSaid : Prop := funNothingUptoRow.holds Tryd.pinned (OpenSpec.upto funNothingSpec)

end Rows
end Go.Proofs.YtcbaioagcemmnaaDoor
