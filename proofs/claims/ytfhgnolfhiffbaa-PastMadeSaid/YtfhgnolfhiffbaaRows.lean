/-
  No cell of these rows narrows 'for every input' (looked for: loops, veiled, ifaces, maps, wideKeys, modest, calm, conditions, laid).
  DERIVED. THE GIVEN ROWS OF THIS SEAT. 5 by the template 'for every input the law returns true; each argument reads behind the call as it read before'; 0 by the template 'total and deterministic' (their statements: YtfhgnolfhiffbaaTotals.lean).
  GIVEN WITH THE SEED: the statements are not yours to turn. If you find one false, say at which input.
  Laid BY PROGRAM, IN A SANDBOX (cutbox-rows.mjs): the forced cells as the released guide's own fill.sh prints them over the translation 36d48f062341ed8a… (all of the seat's roots in one cut). By AI agents, Wed Nov 11 2026. No macro, syntax, notation, axiom, sorry.
-/
import Derived.Test.YtfhgnolfhiffbaaChecked
import GoSem.Claim
import GoSem.ClaimJoined
import GoSem.ClaimMapViews
import Derived.JoinedTies
import Derived.KernelRfl
namespace Go.Proofs.Ytfhgnolfhiffbaa
/- THE CELL 'sum', in the pinned program and in every row, IS THE sha256 OF THE DUMP (.gsa) THAT YtfhgnolfhiffbaaProg.lean LOADS. Nothing in Lean hashes anything: it is a label: what it is worth is what the hold of that sum in a sandbox is worth. -/
noncomputable def Try.pinned : Pinned := { name := "ytfhgnolfhiffbaa", sum := "36d48f062341ed8a9ec673309ce0429297924bb4ee2567a7d25310c53e84882a", checked := Try.checked }
namespace Rows
def none {H : Type} : Left H := { results := [], args := [] }

/-- 'chequerlaw25.PastLog': WHATEVER THE INPUT: true; the input reads as it did. -/
def pastLogSpec : ChangeSpec := { name := "pastLog", fn := fun _ => fun
  | [d1, d2] => { results := [.lit (.bool true)], args := [d1, d2] }
  | _ => none }
def pastLogRow : OpenClaim := { program := "ytfhgnolfhiffbaa", sum := "36d48f062341ed8a9ec673309ce0429297924bb4ee2567a7d25310c53e84882a", func := "chequer/chequerlaw25.PastLog", spec := "pastLog", unfollowed := true, recurses := true, apart := false }
def PastLogSaid : Prop := pastLogRow.holds Try.pinned (OpenSpec.ofChange pastLogSpec)

/-- ITS FALSE NEIGHBOUR: 'it returns false'. Refute it at one input. -/
def pastLogWrong : ChangeSpec := { name := "pastLog", fn := fun _ => fun
  | [d1, d2] => { results := [.lit (.bool false)], args := [d1, d2] }
  | _ => none }
def PastLogWrongFalsely : Prop := pastLogRow.holds Try.pinned (OpenSpec.ofChange pastLogWrong)

/-- 'chequerlaw25.PastBase': WHATEVER THE INPUT: true; the input reads as it did. -/
def pastBaseSpec : ChangeSpec := { name := "pastBase", fn := fun _ => fun
  | [d1, d2, d3] => { results := [.lit (.bool true)], args := [d1, d2, d3] }
  | _ => none }
def pastBaseRow : OpenClaim := { program := "ytfhgnolfhiffbaa", sum := "36d48f062341ed8a9ec673309ce0429297924bb4ee2567a7d25310c53e84882a", func := "chequer/chequerlaw25.PastBase", spec := "pastBase", unfollowed := true, recurses := true, apart := false }
def PastBaseSaid : Prop := pastBaseRow.holds Try.pinned (OpenSpec.ofChange pastBaseSpec)

/-- ITS FALSE NEIGHBOUR: 'it returns false'. Refute it at one input. -/
def pastBaseWrong : ChangeSpec := { name := "pastBase", fn := fun _ => fun
  | [d1, d2, d3] => { results := [.lit (.bool false)], args := [d1, d2, d3] }
  | _ => none }
def PastBaseWrongFalsely : Prop := pastBaseRow.holds Try.pinned (OpenSpec.ofChange pastBaseWrong)

/-- 'chequerlaw25.PastLine': WHATEVER THE INPUT: true; the input reads as it did. -/
def pastLineSpec : ChangeSpec := { name := "pastLine", fn := fun _ => fun
  | [d1, d2] => { results := [.lit (.bool true)], args := [d1, d2] }
  | _ => none }
def pastLineRow : OpenClaim := { program := "ytfhgnolfhiffbaa", sum := "36d48f062341ed8a9ec673309ce0429297924bb4ee2567a7d25310c53e84882a", func := "chequer/chequerlaw25.PastLine", spec := "pastLine", unfollowed := true, recurses := true, apart := false }
def PastLineSaid : Prop := pastLineRow.holds Try.pinned (OpenSpec.ofChange pastLineSpec)

/-- ITS FALSE NEIGHBOUR: 'it returns false'. Refute it at one input. -/
def pastLineWrong : ChangeSpec := { name := "pastLine", fn := fun _ => fun
  | [d1, d2] => { results := [.lit (.bool false)], args := [d1, d2] }
  | _ => none }
def PastLineWrongFalsely : Prop := pastLineRow.holds Try.pinned (OpenSpec.ofChange pastLineWrong)

/-- 'chequerlaw25.PastAll': WHATEVER THE INPUT: true; the input reads as it did. -/
def pastAllSpec : ChangeSpec := { name := "pastAll", fn := fun _ => fun
  | [d1, d2, d3] => { results := [.lit (.bool true)], args := [d1, d2, d3] }
  | _ => none }
def pastAllRow : OpenClaim := { program := "ytfhgnolfhiffbaa", sum := "36d48f062341ed8a9ec673309ce0429297924bb4ee2567a7d25310c53e84882a", func := "chequer/chequerlaw25.PastAll", spec := "pastAll", unfollowed := true, recurses := true, apart := false }
def PastAllSaid : Prop := pastAllRow.holds Try.pinned (OpenSpec.ofChange pastAllSpec)

/-- ITS FALSE NEIGHBOUR: 'it returns false'. Refute it at one input. -/
def pastAllWrong : ChangeSpec := { name := "pastAll", fn := fun _ => fun
  | [d1, d2, d3] => { results := [.lit (.bool false)], args := [d1, d2, d3] }
  | _ => none }
def PastAllWrongFalsely : Prop := pastAllRow.holds Try.pinned (OpenSpec.ofChange pastAllWrong)

/-- 'chequerlaw25.PastMade': WHATEVER THE INPUT: true; the input reads as it did. -/
def pastMadeSpec : ChangeSpec := { name := "pastMade", fn := fun _ => fun
  | [d1, d2, d3] => { results := [.lit (.bool true)], args := [d1, d2, d3] }
  | _ => none }
def pastMadeRow : OpenClaim := { program := "ytfhgnolfhiffbaa", sum := "36d48f062341ed8a9ec673309ce0429297924bb4ee2567a7d25310c53e84882a", func := "chequer/chequerlaw25.PastMade", spec := "pastMade", unfollowed := true, recurses := true, apart := false }
def PastMadeSaid : Prop := pastMadeRow.holds Try.pinned (OpenSpec.ofChange pastMadeSpec)

/-- ITS FALSE NEIGHBOUR: 'it returns false'. Refute it at one input. -/
def pastMadeWrong : ChangeSpec := { name := "pastMade", fn := fun _ => fun
  | [d1, d2, d3] => { results := [.lit (.bool false)], args := [d1, d2, d3] }
  | _ => none }
def PastMadeWrongFalsely : Prop := pastMadeRow.holds Try.pinned (OpenSpec.ofChange pastMadeWrong)

/- THE SECOND FORM. 'bulk': how many values and letters a reading holds, each counted each time it is reached (what is shared counts as often as it is met; a slice's spare places count too). A statement '..UptoSaid' is the law's where the arguments, and the package variables that the reading takes, are together of bulk at most 1048576: NARROWER than '..Said'. Prove '..Said' where nothing that the law and all that it calls make is longer than what came in: it says more and counts as full. Else prove '..UptoSaid'. A law counts once. -/
mutual
def uptoBulk {H : Type} : DataW H → Nat
  | .lit (.string bytes) => bytes.length + 1
  | .lit _ => 1
  | .nil => 1
  | .ptr d => uptoBulk d + 1
  | .slice elems spare => uptoBulkAll elems + uptoBulkAll spare + 1
  | .agg parts => uptoBulkAll parts + 1
  | .iface _ d => uptoBulk d + 1
  | .map entries => uptoBulkEntries entries + 1
  | .held _ => 1
def uptoBulkAll {H : Type} : List (DataW H) → Nat
  | [] => 0
  | d :: r => uptoBulk d + uptoBulkAll r
def uptoBulkEntries {H : Type} : List (Lit × DataW H) → Nat
  | [] => 0
  | x :: r => uptoBulkEntry x + uptoBulkEntries r
def uptoBulkEntry {H : Type} : Lit × DataW H → Nat
  | (.string bytes, d) => bytes.length + uptoBulk d + 1
  | (_, d) => uptoBulk d + 1
 end
def uptoSmall : (H : Type) → List (DataW H) → Bool := fun _ ds => decide (uptoBulkAll ds ≤ 1048576)
def OpenSpec.upto (s : _root_.Go.ChangeSpec) : _root_.Go.OpenSpec := { _root_.Go.OpenSpec.ofChange s with cond := some uptoSmall }

/-- 'chequerlaw25.PastLog', WHERE WHAT IT READS IS OF BULK AT MOST 1048576: true; the input reads as it did. -/
def pastLogUptoRow : OpenClaim := { program := "ytfhgnolfhiffbaa", sum := "36d48f062341ed8a9ec673309ce0429297924bb4ee2567a7d25310c53e84882a", func := "chequer/chequerlaw25.PastLog", spec := "pastLog", unfollowed := true, recurses := true, apart := false, narrowed := true }
def PastLogUptoSaid : Prop := pastLogUptoRow.holds Try.pinned (OpenSpec.upto pastLogSpec)

/-- 'chequerlaw25.PastBase', WHERE WHAT IT READS IS OF BULK AT MOST 1048576: true; the input reads as it did. -/
def pastBaseUptoRow : OpenClaim := { program := "ytfhgnolfhiffbaa", sum := "36d48f062341ed8a9ec673309ce0429297924bb4ee2567a7d25310c53e84882a", func := "chequer/chequerlaw25.PastBase", spec := "pastBase", unfollowed := true, recurses := true, apart := false, narrowed := true }
def PastBaseUptoSaid : Prop := pastBaseUptoRow.holds Try.pinned (OpenSpec.upto pastBaseSpec)

/-- 'chequerlaw25.PastLine', WHERE WHAT IT READS IS OF BULK AT MOST 1048576: true; the input reads as it did. -/
def pastLineUptoRow : OpenClaim := { program := "ytfhgnolfhiffbaa", sum := "36d48f062341ed8a9ec673309ce0429297924bb4ee2567a7d25310c53e84882a", func := "chequer/chequerlaw25.PastLine", spec := "pastLine", unfollowed := true, recurses := true, apart := false, narrowed := true }
def PastLineUptoSaid : Prop := pastLineUptoRow.holds Try.pinned (OpenSpec.upto pastLineSpec)

/-- 'chequerlaw25.PastAll', WHERE WHAT IT READS IS OF BULK AT MOST 1048576: true; the input reads as it did. -/
def pastAllUptoRow : OpenClaim := { program := "ytfhgnolfhiffbaa", sum := "36d48f062341ed8a9ec673309ce0429297924bb4ee2567a7d25310c53e84882a", func := "chequer/chequerlaw25.PastAll", spec := "pastAll", unfollowed := true, recurses := true, apart := false, narrowed := true }
def PastAllUptoSaid : Prop := pastAllUptoRow.holds Try.pinned (OpenSpec.upto pastAllSpec)

/-- 'chequerlaw25.PastMade', WHERE WHAT IT READS IS OF BULK AT MOST 1048576: true; the input reads as it did. -/
def pastMadeUptoRow : OpenClaim := { program := "ytfhgnolfhiffbaa", sum := "36d48f062341ed8a9ec673309ce0429297924bb4ee2567a7d25310c53e84882a", func := "chequer/chequerlaw25.PastMade", spec := "pastMade", unfollowed := true, recurses := true, apart := false, narrowed := true }
def PastMadeUptoSaid : Prop := pastMadeUptoRow.holds Try.pinned (OpenSpec.upto pastMadeSpec)

end Rows
end Go.Proofs.Ytfhgnolfhiffbaa
