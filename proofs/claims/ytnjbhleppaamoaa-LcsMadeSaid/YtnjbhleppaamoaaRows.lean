/-
  No cell of these rows narrows 'for every input' (looked for: loops, veiled, ifaces, maps, wideKeys, modest, calm, conditions, laid).
  DERIVED. THE GIVEN ROWS OF THIS SEAT. 4 by the template 'for every input the law returns true; each argument reads behind the call as it read before'; 0 by the template 'total and deterministic' (their statements: YtnjbhleppaamoaaTotals.lean).
  GIVEN WITH THE SEED: the statements are not yours to turn. If you find one false, say at which input.
  Laid BY PROGRAM, IN A SANDBOX (cutbox-rows.mjs): the forced cells as the released guide's own fill.sh prints them over the translation ef8c8598ce1a8cd8… (all of the seat's roots in one cut). By AI agents, Wed Nov 11 2026. No macro, syntax, notation, axiom, sorry.
-/
import Derived.Test.YtnjbhleppaamoaaChecked
import GoSem.Claim
import GoSem.ClaimJoined
import GoSem.ClaimMapViews
import Derived.JoinedTies
import Derived.KernelRfl
namespace Go.Proofs.Ytnjbhleppaamoaa
/- THE CELL 'sum', in the pinned program and in every row, IS THE sha256 OF THE DUMP (.gsa) THAT YtnjbhleppaamoaaProg.lean LOADS. Nothing in Lean hashes anything: it is a label: what it is worth is what the hold of that sum in a sandbox is worth. -/
noncomputable def Try.pinned : Pinned := { name := "ytnjbhleppaamoaa", sum := "ef8c8598ce1a8cd85021e785fc05c69e051b92f46496efb0ad28cff02c0f9913", checked := Try.checked }
namespace Rows
def none {H : Type} : Left H := { results := [], args := [] }

/-- 'chequerlaw15.LcsWithin': WHATEVER THE INPUT: true; the input reads as it did. -/
def lcsWithinSpec : ChangeSpec := { name := "lcsWithin", fn := fun _ => fun
  | [d1, d2, d3] => { results := [.lit (.bool true)], args := [d1, d2, d3] }
  | _ => none }
def lcsWithinRow : OpenClaim := { program := "ytnjbhleppaamoaa", sum := "ef8c8598ce1a8cd85021e785fc05c69e051b92f46496efb0ad28cff02c0f9913", func := "chequer/chequerlaw15.LcsWithin", spec := "lcsWithin", unfollowed := true, recurses := true, apart := false }
def LcsWithinSaid : Prop := lcsWithinRow.holds Try.pinned (OpenSpec.ofChange lcsWithinSpec)

/-- ITS FALSE NEIGHBOUR: 'it returns false'. Refute it at one input. -/
def lcsWithinWrong : ChangeSpec := { name := "lcsWithin", fn := fun _ => fun
  | [d1, d2, d3] => { results := [.lit (.bool false)], args := [d1, d2, d3] }
  | _ => none }
def LcsWithinWrongFalsely : Prop := lcsWithinRow.holds Try.pinned (OpenSpec.ofChange lcsWithinWrong)

/-- 'chequerlaw15.LcsAll': WHATEVER THE INPUT: true; the input reads as it did. -/
def lcsAllSpec : ChangeSpec := { name := "lcsAll", fn := fun _ => fun
  | [d1, d2] => { results := [.lit (.bool true)], args := [d1, d2] }
  | _ => none }
def lcsAllRow : OpenClaim := { program := "ytnjbhleppaamoaa", sum := "ef8c8598ce1a8cd85021e785fc05c69e051b92f46496efb0ad28cff02c0f9913", func := "chequer/chequerlaw15.LcsAll", spec := "lcsAll", unfollowed := true, recurses := true, apart := false }
def LcsAllSaid : Prop := lcsAllRow.holds Try.pinned (OpenSpec.ofChange lcsAllSpec)

/-- ITS FALSE NEIGHBOUR: 'it returns false'. Refute it at one input. -/
def lcsAllWrong : ChangeSpec := { name := "lcsAll", fn := fun _ => fun
  | [d1, d2] => { results := [.lit (.bool false)], args := [d1, d2] }
  | _ => none }
def LcsAllWrongFalsely : Prop := lcsAllRow.holds Try.pinned (OpenSpec.ofChange lcsAllWrong)

/-- 'chequerlaw15.LcsMade': WHATEVER THE INPUT: true; the input reads as it did. -/
def lcsMadeSpec : ChangeSpec := { name := "lcsMade", fn := fun _ => fun
  | [d1, d2] => { results := [.lit (.bool true)], args := [d1, d2] }
  | _ => none }
def lcsMadeRow : OpenClaim := { program := "ytnjbhleppaamoaa", sum := "ef8c8598ce1a8cd85021e785fc05c69e051b92f46496efb0ad28cff02c0f9913", func := "chequer/chequerlaw15.LcsMade", spec := "lcsMade", unfollowed := true, recurses := true, apart := false }
def LcsMadeSaid : Prop := lcsMadeRow.holds Try.pinned (OpenSpec.ofChange lcsMadeSpec)

/-- ITS FALSE NEIGHBOUR: 'it returns false'. Refute it at one input. -/
def lcsMadeWrong : ChangeSpec := { name := "lcsMade", fn := fun _ => fun
  | [d1, d2] => { results := [.lit (.bool false)], args := [d1, d2] }
  | _ => none }
def LcsMadeWrongFalsely : Prop := lcsMadeRow.holds Try.pinned (OpenSpec.ofChange lcsMadeWrong)

/-- 'chequerlaw15.LcsSelf': WHATEVER THE INPUT: true; the input reads as it did. -/
def lcsSelfSpec : ChangeSpec := { name := "lcsSelf", fn := fun _ => fun
  | [d1, d2] => { results := [.lit (.bool true)], args := [d1, d2] }
  | _ => none }
def lcsSelfRow : OpenClaim := { program := "ytnjbhleppaamoaa", sum := "ef8c8598ce1a8cd85021e785fc05c69e051b92f46496efb0ad28cff02c0f9913", func := "chequer/chequerlaw15.LcsSelf", spec := "lcsSelf", unfollowed := true, recurses := true, apart := false }
def LcsSelfSaid : Prop := lcsSelfRow.holds Try.pinned (OpenSpec.ofChange lcsSelfSpec)

/-- ITS FALSE NEIGHBOUR: 'it returns false'. Refute it at one input. -/
def lcsSelfWrong : ChangeSpec := { name := "lcsSelf", fn := fun _ => fun
  | [d1, d2] => { results := [.lit (.bool false)], args := [d1, d2] }
  | _ => none }
def LcsSelfWrongFalsely : Prop := lcsSelfRow.holds Try.pinned (OpenSpec.ofChange lcsSelfWrong)

/- THE SECOND FORM. 'bulk': how many values and letters a reading holds, each counted each time it is reached (what is shared counts as often as it is met; a slice's spare places count too). A statement '..UptoSaid' is the law's where the arguments, and the package variables that the reading takes, are together of bulk at most 1048576: NARROWER than '..Said'. Prove '..Said' where nothing that the law and all that it calls make is longer than what came in: it says more and counts as full. Else prove '..UptoSaid'. A law counts once. -/
mutual
def uptoBulk {H : Type} : DataW H → Nat
  | .lit (.string bytes) => bytes.length + 1
  | .lit _ => 1
  | .nil => 1
  | .ptr d => uptoBulk d + 1
  | .slice elems spare => uptoBulkAll elems + uptoBulkAll spare + 1
  | .agg parts => uptoBulkAll parts + 1
  | .iface _ d => uptoBulk d + 1
  | .map entries => uptoBulkEntries entries + 1
  | .held _ => 1
def uptoBulkAll {H : Type} : List (DataW H) → Nat
  | [] => 0
  | d :: r => uptoBulk d + uptoBulkAll r
def uptoBulkEntries {H : Type} : List (Lit × DataW H) → Nat
  | [] => 0
  | x :: r => uptoBulkEntry x + uptoBulkEntries r
def uptoBulkEntry {H : Type} : Lit × DataW H → Nat
  | (.string bytes, d) => bytes.length + uptoBulk d + 1
  | (_, d) => uptoBulk d + 1
 end
def uptoSmall : (H : Type) → List (DataW H) → Bool := fun _ ds => decide (uptoBulkAll ds ≤ 1048576)
def OpenSpec.upto (s : _root_.Go.ChangeSpec) : _root_.Go.OpenSpec := { _root_.Go.OpenSpec.ofChange s with cond := some uptoSmall }

/-- 'chequerlaw15.LcsWithin', WHERE WHAT IT READS IS OF BULK AT MOST 1048576: true; the input reads as it did. -/
def lcsWithinUptoRow : OpenClaim := { program := "ytnjbhleppaamoaa", sum := "ef8c8598ce1a8cd85021e785fc05c69e051b92f46496efb0ad28cff02c0f9913", func := "chequer/chequerlaw15.LcsWithin", spec := "lcsWithin", unfollowed := true, recurses := true, apart := false, narrowed := true }
def LcsWithinUptoSaid : Prop := lcsWithinUptoRow.holds Try.pinned (OpenSpec.upto lcsWithinSpec)

/-- 'chequerlaw15.LcsAll', WHERE WHAT IT READS IS OF BULK AT MOST 1048576: true; the input reads as it did. -/
def lcsAllUptoRow : OpenClaim := { program := "ytnjbhleppaamoaa", sum := "ef8c8598ce1a8cd85021e785fc05c69e051b92f46496efb0ad28cff02c0f9913", func := "chequer/chequerlaw15.LcsAll", spec := "lcsAll", unfollowed := true, recurses := true, apart := false, narrowed := true }
def LcsAllUptoSaid : Prop := lcsAllUptoRow.holds Try.pinned (OpenSpec.upto lcsAllSpec)

/-- 'chequerlaw15.LcsMade', WHERE WHAT IT READS IS OF BULK AT MOST 1048576: true; the input reads as it did. -/
def lcsMadeUptoRow : OpenClaim := { program := "ytnjbhleppaamoaa", sum := "ef8c8598ce1a8cd85021e785fc05c69e051b92f46496efb0ad28cff02c0f9913", func := "chequer/chequerlaw15.LcsMade", spec := "lcsMade", unfollowed := true, recurses := true, apart := false, narrowed := true }
def LcsMadeUptoSaid : Prop := lcsMadeUptoRow.holds Try.pinned (OpenSpec.upto lcsMadeSpec)

/-- 'chequerlaw15.LcsSelf', WHERE WHAT IT READS IS OF BULK AT MOST 1048576: true; the input reads as it did. -/
def lcsSelfUptoRow : OpenClaim := { program := "ytnjbhleppaamoaa", sum := "ef8c8598ce1a8cd85021e785fc05c69e051b92f46496efb0ad28cff02c0f9913", func := "chequer/chequerlaw15.LcsSelf", spec := "lcsSelf", unfollowed := true, recurses := true, apart := false, narrowed := true }
def LcsSelfUptoSaid : Prop := lcsSelfUptoRow.holds Try.pinned (OpenSpec.upto lcsSelfSpec)

end Rows
end Go.Proofs.Ytnjbhleppaamoaa
