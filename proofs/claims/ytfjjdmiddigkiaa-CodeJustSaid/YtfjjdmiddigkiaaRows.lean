/-
  No cell of these rows narrows 'for every input' (looked for: loops, veiled, ifaces, maps, wideKeys, modest, calm, conditions, laid).
  DERIVED. THE GIVEN ROWS OF THIS SEAT. 3 by the template 'for every input the law returns true; each argument reads behind the call as it read before'; 0 by the template 'total and deterministic' (their statements: YtfjjdmiddigkiaaTotals.lean).
  GIVEN WITH THE SEED: the statements are not yours to turn. If you find one false, say at which input.
  Laid BY PROGRAM, IN A SANDBOX (cutbox-rows.mjs): the forced cells as the released guide's own fill.sh prints them over the translation 816d6cd30b39d9e2… (all of the seat's roots in one cut). By AI agents, Wed Nov 11 2026. No macro, syntax, notation, axiom, sorry.
-/
import Derived.Test.YtfjjdmiddigkiaaChecked
import GoSem.Claim
import GoSem.ClaimJoined
import GoSem.ClaimMapViews
import Derived.JoinedTies
import Derived.KernelRfl
namespace Go.Proofs.Ytfjjdmiddigkiaa
/- THE CELL 'sum', in the pinned program and in every row, IS THE sha256 OF THE DUMP (.gsa) THAT YtfjjdmiddigkiaaProg.lean LOADS. Nothing in Lean hashes anything: it is a label: what it is worth is what the hold of that sum in a sandbox is worth. -/
noncomputable def Try.pinned : Pinned := { name := "ytfjjdmiddigkiaa", sum := "816d6cd30b39d9e2eb12a2c06002850611bbf6fd5169d60883c992a76c65634f", checked := Try.checked }
namespace Rows
def none {H : Type} : Left H := { results := [], args := [] }

/-- 'chequerlaw2.CodeAll': WHATEVER THE INPUT: true; the input reads as it did. -/
def codeAllSpec : ChangeSpec := { name := "codeAll", fn := fun _ => fun
  | [d1, d2, d3, d4, d5] => { results := [.lit (.bool true)], args := [d1, d2, d3, d4, d5] }
  | _ => none }
def codeAllRow : OpenClaim := { program := "ytfjjdmiddigkiaa", sum := "816d6cd30b39d9e2eb12a2c06002850611bbf6fd5169d60883c992a76c65634f", func := "chequer/chequerlaw2.CodeAll", spec := "codeAll", apart := false }
def CodeAllSaid : Prop := codeAllRow.holds Try.pinned (OpenSpec.ofChange codeAllSpec)

/-- ITS FALSE NEIGHBOUR: 'it returns false'. Refute it at one input. -/
def codeAllWrong : ChangeSpec := { name := "codeAll", fn := fun _ => fun
  | [d1, d2, d3, d4, d5] => { results := [.lit (.bool false)], args := [d1, d2, d3, d4, d5] }
  | _ => none }
def CodeAllWrongFalsely : Prop := codeAllRow.holds Try.pinned (OpenSpec.ofChange codeAllWrong)

/-- 'chequerlaw2.CodeBack': WHATEVER THE INPUT: true; the input reads as it did. -/
def codeBackSpec : ChangeSpec := { name := "codeBack", fn := fun _ => fun
  | [d1, d2, d3, d4] => { results := [.lit (.bool true)], args := [d1, d2, d3, d4] }
  | _ => none }
def codeBackRow : OpenClaim := { program := "ytfjjdmiddigkiaa", sum := "816d6cd30b39d9e2eb12a2c06002850611bbf6fd5169d60883c992a76c65634f", func := "chequer/chequerlaw2.CodeBack", spec := "codeBack", apart := false }
def CodeBackSaid : Prop := codeBackRow.holds Try.pinned (OpenSpec.ofChange codeBackSpec)

/-- ITS FALSE NEIGHBOUR: 'it returns false'. Refute it at one input. -/
def codeBackWrong : ChangeSpec := { name := "codeBack", fn := fun _ => fun
  | [d1, d2, d3, d4] => { results := [.lit (.bool false)], args := [d1, d2, d3, d4] }
  | _ => none }
def CodeBackWrongFalsely : Prop := codeBackRow.holds Try.pinned (OpenSpec.ofChange codeBackWrong)

/-- 'chequerlaw2.CodeJust': WHATEVER THE INPUT: true; the input reads as it did. -/
def codeJustSpec : ChangeSpec := { name := "codeJust", fn := fun _ => fun
  | [d1, d2] => { results := [.lit (.bool true)], args := [d1, d2] }
  | _ => none }
def codeJustRow : OpenClaim := { program := "ytfjjdmiddigkiaa", sum := "816d6cd30b39d9e2eb12a2c06002850611bbf6fd5169d60883c992a76c65634f", func := "chequer/chequerlaw2.CodeJust", spec := "codeJust", apart := false }
def CodeJustSaid : Prop := codeJustRow.holds Try.pinned (OpenSpec.ofChange codeJustSpec)

/-- ITS FALSE NEIGHBOUR: 'it returns false'. Refute it at one input. -/
def codeJustWrong : ChangeSpec := { name := "codeJust", fn := fun _ => fun
  | [d1, d2] => { results := [.lit (.bool false)], args := [d1, d2] }
  | _ => none }
def CodeJustWrongFalsely : Prop := codeJustRow.holds Try.pinned (OpenSpec.ofChange codeJustWrong)

/- THE SECOND FORM. 'bulk': how many values and letters a reading holds, each counted each time it is reached (what is shared counts as often as it is met; a slice's spare places count too). A statement '..UptoSaid' is the law's where the arguments, and the package variables that the reading takes, are together of bulk at most 1048576: NARROWER than '..Said'. Prove '..Said' where nothing that the law and all that it calls make is longer than what came in: it says more and counts as full. Else prove '..UptoSaid'. A law counts once. -/
mutual
def uptoBulk {H : Type} : DataW H → Nat
  | .lit (.string bytes) => bytes.length + 1
  | .lit _ => 1
  | .nil => 1
  | .ptr d => uptoBulk d + 1
  | .slice elems spare => uptoBulkAll elems + uptoBulkAll spare + 1
  | .agg parts => uptoBulkAll parts + 1
  | .iface _ d => uptoBulk d + 1
  | .map entries => uptoBulkEntries entries + 1
  | .held _ => 1
def uptoBulkAll {H : Type} : List (DataW H) → Nat
  | [] => 0
  | d :: r => uptoBulk d + uptoBulkAll r
def uptoBulkEntries {H : Type} : List (Lit × DataW H) → Nat
  | [] => 0
  | x :: r => uptoBulkEntry x + uptoBulkEntries r
def uptoBulkEntry {H : Type} : Lit × DataW H → Nat
  | (.string bytes, d) => bytes.length + uptoBulk d + 1
  | (_, d) => uptoBulk d + 1
 end
def uptoSmall : (H : Type) → List (DataW H) → Bool := fun _ ds => decide (uptoBulkAll ds ≤ 1048576)
def OpenSpec.upto (s : _root_.Go.ChangeSpec) : _root_.Go.OpenSpec := { _root_.Go.OpenSpec.ofChange s with cond := some uptoSmall }

/-- 'chequerlaw2.CodeAll', WHERE WHAT IT READS IS OF BULK AT MOST 1048576: true; the input reads as it did. -/
def codeAllUptoRow : OpenClaim := { program := "ytfjjdmiddigkiaa", sum := "816d6cd30b39d9e2eb12a2c06002850611bbf6fd5169d60883c992a76c65634f", func := "chequer/chequerlaw2.CodeAll", spec := "codeAll", apart := false, narrowed := true }
def CodeAllUptoSaid : Prop := codeAllUptoRow.holds Try.pinned (OpenSpec.upto codeAllSpec)

/-- 'chequerlaw2.CodeBack', WHERE WHAT IT READS IS OF BULK AT MOST 1048576: true; the input reads as it did. -/
def codeBackUptoRow : OpenClaim := { program := "ytfjjdmiddigkiaa", sum := "816d6cd30b39d9e2eb12a2c06002850611bbf6fd5169d60883c992a76c65634f", func := "chequer/chequerlaw2.CodeBack", spec := "codeBack", apart := false, narrowed := true }
def CodeBackUptoSaid : Prop := codeBackUptoRow.holds Try.pinned (OpenSpec.upto codeBackSpec)

/-- 'chequerlaw2.CodeJust', WHERE WHAT IT READS IS OF BULK AT MOST 1048576: true; the input reads as it did. -/
def codeJustUptoRow : OpenClaim := { program := "ytfjjdmiddigkiaa", sum := "816d6cd30b39d9e2eb12a2c06002850611bbf6fd5169d60883c992a76c65634f", func := "chequer/chequerlaw2.CodeJust", spec := "codeJust", apart := false, narrowed := true }
def CodeJustUptoSaid : Prop := codeJustUptoRow.holds Try.pinned (OpenSpec.upto codeJustSpec)

end Rows
end Go.Proofs.Ytfjjdmiddigkiaa
