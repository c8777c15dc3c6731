/- strconv.ErrSyntax stands: from what is listed. -/
import Derived.Test.YtehbfpcfbpbllaaGreatDoorCEEnv
import Derived.LaidSub
import Derived.Lay
import Derived.Test.YtehbfpcfbpbllaaGreatDoorRows
namespace Go.Proofs.YtehbfpcfbpbllaaGreatDoor
open Go Go.RowKit VM
set_option linter.unusedVariables false
set_option maxRecDepth 20000
/-- what strconv reads of its globals -/
def Tabs (W : World) : Prop := Tab W ∧ ∃ u v ty fz, W.heap[0]? = some (.cells #[.iface u v] ty fz)
/-- a listed variable that holds an interface -/
theorem iface_at (W : World) {s : String} {d : DataW Unit} (hL : laidMet Tryz.prog [("strconv.ErrSyntax", .iface s d)] W) : ∃ u v ty fz, W.heap[0]? = some (.cells #[.iface u v] ty fz) := by
  obtain ⟨ps, ⟨g, t, cs, fuel, p, q, h1, h2, h3, h4, _⟩, _⟩ := hL
  have e1 : Tryz.prog.globalNamed "strconv.ErrSyntax" = some 0 := by kernel_rfl
  have e2 : (Tryz.prog.globals[0]?).map (·.type) = some 82 := by kernel_rfl
  rw [e1] at h1
  cases h1
  rw [e2] at h2
  cases h2
  cases fuel with
  | zero => cases h4
  | succ fuel =>
    obtain ⟨ms, hu⟩ : ∃ ms, Tryz.prog.underlying 82 = some (.interface ms) := ⟨_, Tryz.underlying82⟩
    have key : ∃ u v, cs.toList = [.iface u v] := by
      generalize cs.toList = l at h4 ⊢
      unfold DataW.trod at h4
      simp only [hu] at h4
      rcases l with _ | ⟨x, _ | ⟨y, r⟩⟩
      · cases h4
      · cases x <;> first | exact ⟨_, _, rfl⟩ | (cases h4; done)
      · cases x <;> (cases h4; done)
    obtain ⟨u, v, hcs⟩ := key
    obtain rfl : cs = #[.iface u v] := Array.toList_inj.1 (by rw [hcs])
    unfold World.var? at h3
    rw [e1] at h3
    simp only [Option.bind_some] at h3
    split at h3
    · rename_i cs2 ty fz hh
      cases h3
      exact ⟨u, v, ty, fz, hh⟩
    · cases h3
theorem globOK_of {g : Nat} {obj o2 : Obj} {u : TypeId} {v : Value} {ty : TypeId} {fz : Nat × Nat} (he : o2 = .cells #[.iface u v] ty fz) : GlobOK Tryz.prog [(g, obj), (0, o2)] globs := by
  intro p hp w hw
  have hp2 := List.mem_singleton.1 hp
  subst hp2
  have h1 := hw (0, o2) (by simp)
  simp only [he] at h1
  refine ⟨.iface u v, ?_, rfl⟩
  have e3 : (isAgg 82).run Tryz.prog w = .ok false w := by
    letI := syNo
    rw [run_isAgg Tryz.underlying82]
    rfl
  simp only [loadVar, Sem.run_bind, e3, Result.andThen_ok, Bool.false_eq_true, if_false]
  simp [World.cell?, h1]
end Go.Proofs.YtehbfpcfbpbllaaGreatDoor
