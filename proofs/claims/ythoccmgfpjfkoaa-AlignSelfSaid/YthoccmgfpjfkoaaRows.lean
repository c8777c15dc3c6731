/-
  No cell of these rows narrows 'for every input' (looked for: loops, veiled, ifaces, maps, wideKeys, modest, calm, conditions, laid).
  DERIVED. THE GIVEN ROWS OF THIS SEAT. 5 by the template 'for every input the law returns true; each argument reads behind the call as it read before'; 0 by the template 'total and deterministic' (their statements: YthoccmgfpjfkoaaTotals.lean).
  GIVEN WITH THE SEED: the statements are not yours to turn. If you find one false, say at which input.
  Laid BY PROGRAM, IN A SANDBOX (cutbox-rows.mjs): the forced cells as the released guide's own fill.sh prints them over the translation 0641a1eb65f8575c… (all of the seat's roots in one cut). By AI agents, Wed Nov 11 2026. No macro, syntax, notation, axiom, sorry.
-/
import Derived.Test.YthoccmgfpjfkoaaChecked
import GoSem.Claim
import GoSem.ClaimJoined
import GoSem.ClaimMapViews
import Derived.JoinedTies
import Derived.KernelRfl
namespace Go.Proofs.Ythoccmgfpjfkoaa
/- THE CELL 'sum', in the pinned program and in every row, IS THE sha256 OF THE DUMP (.gsa) THAT YthoccmgfpjfkoaaProg.lean LOADS. Nothing in Lean hashes anything: it is a label: what it is worth is what the hold of that sum in a sandbox is worth. -/
noncomputable def Try.pinned : Pinned := { name := "ythoccmgfpjfkoaa", sum := "0641a1eb65f8575ce3fc760180a9cfef6ebc039588852b5decedbe3d4a42c05c", checked := Try.checked }
namespace Rows
def none {H : Type} : Left H := { results := [], args := [] }

/-- 'chequerlaw16.AlignGone': WHATEVER THE INPUT: true; the input reads as it did. -/
def alignGoneSpec : ChangeSpec := { name := "alignGone", fn := fun _ => fun
  | [d1, d2, d3, d4] => { results := [.lit (.bool true)], args := [d1, d2, d3, d4] }
  | _ => none }
def alignGoneRow : OpenClaim := { program := "ythoccmgfpjfkoaa", sum := "0641a1eb65f8575ce3fc760180a9cfef6ebc039588852b5decedbe3d4a42c05c", func := "chequer/chequerlaw16.AlignGone", spec := "alignGone", unfollowed := true, recurses := true, apart := false }
def AlignGoneSaid : Prop := alignGoneRow.holds Try.pinned (OpenSpec.ofChange alignGoneSpec)

/-- ITS FALSE NEIGHBOUR: 'it returns false'. Refute it at one input. -/
def alignGoneWrong : ChangeSpec := { name := "alignGone", fn := fun _ => fun
  | [d1, d2, d3, d4] => { results := [.lit (.bool false)], args := [d1, d2, d3, d4] }
  | _ => none }
def AlignGoneWrongFalsely : Prop := alignGoneRow.holds Try.pinned (OpenSpec.ofChange alignGoneWrong)

/-- 'chequerlaw16.AlignAll': WHATEVER THE INPUT: true; the input reads as it did. -/
def alignAllSpec : ChangeSpec := { name := "alignAll", fn := fun _ => fun
  | [d1, d2, d3] => { results := [.lit (.bool true)], args := [d1, d2, d3] }
  | _ => none }
def alignAllRow : OpenClaim := { program := "ythoccmgfpjfkoaa", sum := "0641a1eb65f8575ce3fc760180a9cfef6ebc039588852b5decedbe3d4a42c05c", func := "chequer/chequerlaw16.AlignAll", spec := "alignAll", unfollowed := true, recurses := true, apart := false }
def AlignAllSaid : Prop := alignAllRow.holds Try.pinned (OpenSpec.ofChange alignAllSpec)

/-- ITS FALSE NEIGHBOUR: 'it returns false'. Refute it at one input. -/
def alignAllWrong : ChangeSpec := { name := "alignAll", fn := fun _ => fun
  | [d1, d2, d3] => { results := [.lit (.bool false)], args := [d1, d2, d3] }
  | _ => none }
def AlignAllWrongFalsely : Prop := alignAllRow.holds Try.pinned (OpenSpec.ofChange alignAllWrong)

/-- 'chequerlaw16.AlignSelf': WHATEVER THE INPUT: true; the input reads as it did. -/
def alignSelfSpec : ChangeSpec := { name := "alignSelf", fn := fun _ => fun
  | [d1, d2, d3] => { results := [.lit (.bool true)], args := [d1, d2, d3] }
  | _ => none }
def alignSelfRow : OpenClaim := { program := "ythoccmgfpjfkoaa", sum := "0641a1eb65f8575ce3fc760180a9cfef6ebc039588852b5decedbe3d4a42c05c", func := "chequer/chequerlaw16.AlignSelf", spec := "alignSelf", unfollowed := true, recurses := true, apart := false }
def AlignSelfSaid : Prop := alignSelfRow.holds Try.pinned (OpenSpec.ofChange alignSelfSpec)

/-- ITS FALSE NEIGHBOUR: 'it returns false'. Refute it at one input. -/
def alignSelfWrong : ChangeSpec := { name := "alignSelf", fn := fun _ => fun
  | [d1, d2, d3] => { results := [.lit (.bool false)], args := [d1, d2, d3] }
  | _ => none }
def AlignSelfWrongFalsely : Prop := alignSelfRow.holds Try.pinned (OpenSpec.ofChange alignSelfWrong)

/-- 'chequerlaw16.AlignCells': WHATEVER THE INPUT: true; the input reads as it did. -/
def alignCellsSpec : ChangeSpec := { name := "alignCells", fn := fun _ => fun
  | [d1, d2] => { results := [.lit (.bool true)], args := [d1, d2] }
  | _ => none }
def alignCellsRow : OpenClaim := { program := "ythoccmgfpjfkoaa", sum := "0641a1eb65f8575ce3fc760180a9cfef6ebc039588852b5decedbe3d4a42c05c", func := "chequer/chequerlaw16.AlignCells", spec := "alignCells", unfollowed := true, recurses := true, apart := false }
def AlignCellsSaid : Prop := alignCellsRow.holds Try.pinned (OpenSpec.ofChange alignCellsSpec)

/-- ITS FALSE NEIGHBOUR: 'it returns false'. Refute it at one input. -/
def alignCellsWrong : ChangeSpec := { name := "alignCells", fn := fun _ => fun
  | [d1, d2] => { results := [.lit (.bool false)], args := [d1, d2] }
  | _ => none }
def AlignCellsWrongFalsely : Prop := alignCellsRow.holds Try.pinned (OpenSpec.ofChange alignCellsWrong)

/-- 'chequerlaw16.AlignMost': WHATEVER THE INPUT: true; the input reads as it did. -/
def alignMostSpec : ChangeSpec := { name := "alignMost", fn := fun _ => fun
  | [d1, d2, d3] => { results := [.lit (.bool true)], args := [d1, d2, d3] }
  | _ => none }
def alignMostRow : OpenClaim := { program := "ythoccmgfpjfkoaa", sum := "0641a1eb65f8575ce3fc760180a9cfef6ebc039588852b5decedbe3d4a42c05c", func := "chequer/chequerlaw16.AlignMost", spec := "alignMost", unfollowed := true, recurses := true, apart := false }
def AlignMostSaid : Prop := alignMostRow.holds Try.pinned (OpenSpec.ofChange alignMostSpec)

/-- ITS FALSE NEIGHBOUR: 'it returns false'. Refute it at one input. -/
def alignMostWrong : ChangeSpec := { name := "alignMost", fn := fun _ => fun
  | [d1, d2, d3] => { results := [.lit (.bool false)], args := [d1, d2, d3] }
  | _ => none }
def AlignMostWrongFalsely : Prop := alignMostRow.holds Try.pinned (OpenSpec.ofChange alignMostWrong)

/- THE SECOND FORM. 'bulk': how many values and letters a reading holds, each counted each time it is reached (what is shared counts as often as it is met; a slice's spare places count too). A statement '..UptoSaid' is the law's where the arguments, and the package variables that the reading takes, are together of bulk at most 1048576: NARROWER than '..Said'. Prove '..Said' where nothing that the law and all that it calls make is longer than what came in: it says more and counts as full. Else prove '..UptoSaid'. A law counts once. -/
mutual
def uptoBulk {H : Type} : DataW H → Nat
  | .lit (.string bytes) => bytes.length + 1
  | .lit _ => 1
  | .nil => 1
  | .ptr d => uptoBulk d + 1
  | .slice elems spare => uptoBulkAll elems + uptoBulkAll spare + 1
  | .agg parts => uptoBulkAll parts + 1
  | .iface _ d => uptoBulk d + 1
  | .map entries => uptoBulkEntries entries + 1
  | .held _ => 1
def uptoBulkAll {H : Type} : List (DataW H) → Nat
  | [] => 0
  | d :: r => uptoBulk d + uptoBulkAll r
def uptoBulkEntries {H : Type} : List (Lit × DataW H) → Nat
  | [] => 0
  | x :: r => uptoBulkEntry x + uptoBulkEntries r
def uptoBulkEntry {H : Type} : Lit × DataW H → Nat
  | (.string bytes, d) => bytes.length + uptoBulk d + 1
  | (_, d) => uptoBulk d + 1
 end
def uptoSmall : (H : Type) → List (DataW H) → Bool := fun _ ds => decide (uptoBulkAll ds ≤ 1048576)
def OpenSpec.upto (s : _root_.Go.ChangeSpec) : _root_.Go.OpenSpec := { _root_.Go.OpenSpec.ofChange s with cond := some uptoSmall }

/-- 'chequerlaw16.AlignGone', WHERE WHAT IT READS IS OF BULK AT MOST 1048576: true; the input reads as it did. -/
def alignGoneUptoRow : OpenClaim := { program := "ythoccmgfpjfkoaa", sum := "0641a1eb65f8575ce3fc760180a9cfef6ebc039588852b5decedbe3d4a42c05c", func := "chequer/chequerlaw16.AlignGone", spec := "alignGone", unfollowed := true, recurses := true, apart := false, narrowed := true }
def AlignGoneUptoSaid : Prop := alignGoneUptoRow.holds Try.pinned (OpenSpec.upto alignGoneSpec)

/-- 'chequerlaw16.AlignAll', WHERE WHAT IT READS IS OF BULK AT MOST 1048576: true; the input reads as it did. -/
def alignAllUptoRow : OpenClaim := { program := "ythoccmgfpjfkoaa", sum := "0641a1eb65f8575ce3fc760180a9cfef6ebc039588852b5decedbe3d4a42c05c", func := "chequer/chequerlaw16.AlignAll", spec := "alignAll", unfollowed := true, recurses := true, apart := false, narrowed := true }
def AlignAllUptoSaid : Prop := alignAllUptoRow.holds Try.pinned (OpenSpec.upto alignAllSpec)

/-- 'chequerlaw16.AlignSelf', WHERE WHAT IT READS IS OF BULK AT MOST 1048576: true; the input reads as it did. -/
def alignSelfUptoRow : OpenClaim := { program := "ythoccmgfpjfkoaa", sum := "0641a1eb65f8575ce3fc760180a9cfef6ebc039588852b5decedbe3d4a42c05c", func := "chequer/chequerlaw16.AlignSelf", spec := "alignSelf", unfollowed := true, recurses := true, apart := false, narrowed := true }
def AlignSelfUptoSaid : Prop := alignSelfUptoRow.holds Try.pinned (OpenSpec.upto alignSelfSpec)

/-- 'chequerlaw16.AlignCells', WHERE WHAT IT READS IS OF BULK AT MOST 1048576: true; the input reads as it did. -/
def alignCellsUptoRow : OpenClaim := { program := "ythoccmgfpjfkoaa", sum := "0641a1eb65f8575ce3fc760180a9cfef6ebc039588852b5decedbe3d4a42c05c", func := "chequer/chequerlaw16.AlignCells", spec := "alignCells", unfollowed := true, recurses := true, apart := false, narrowed := true }
def AlignCellsUptoSaid : Prop := alignCellsUptoRow.holds Try.pinned (OpenSpec.upto alignCellsSpec)

/-- 'chequerlaw16.AlignMost', WHERE WHAT IT READS IS OF BULK AT MOST 1048576: true; the input reads as it did. -/
def alignMostUptoRow : OpenClaim := { program := "ythoccmgfpjfkoaa", sum := "0641a1eb65f8575ce3fc760180a9cfef6ebc039588852b5decedbe3d4a42c05c", func := "chequer/chequerlaw16.AlignMost", spec := "alignMost", unfollowed := true, recurses := true, apart := false, narrowed := true }
def AlignMostUptoSaid : Prop := alignMostUptoRow.holds Try.pinned (OpenSpec.upto alignMostSpec)

end Rows
end Go.Proofs.Ythoccmgfpjfkoaa
