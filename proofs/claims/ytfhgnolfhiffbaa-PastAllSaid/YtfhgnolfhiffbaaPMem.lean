/- The queue of nodes in memory. -/
import Derived.Test.YtfhgnolfhiffbaaPCmp
import Derived.Test.YtfhgnolfhiffbaaOwn
import Derived.Test.YtfhgnolfhiffbaaPlanT
namespace Go.Proofs.Ytfhgnolfhiffbaa
open Go.RowKit
/-- a node: a commit, its depth -/
abbrev Nd := ByteArray × Int
def cells2 (l : List Nd) : List Value := l.flatMap fun v => [.string v.1, .int .i64 v.2]
theorem cells2_len (l : List Nd) : (cells2 l).length = 2 * l.length := by
  induction l with
  | nil => rfl
  | cons x r ih => simp [cells2] at ih ⊢; omega
theorem cells2_snoc (l : List Nd) (v : Nd) : cells2 (l ++ [v]) = cells2 l ++ [.string v.1, .int .i64 v.2] := by simp [cells2]
theorem cells2_get (l : List Nd) (i : Nat) (v : Nd) (h : l[i]? = some v) : (cells2 l)[i * 2]? = some (.string v.1) ∧ (cells2 l)[i * 2 + 1]? = some (.int .i64 v.2) := by
  induction l generalizing i with
  | nil => simp at h
  | cons x r ih =>
    cases i with
    | zero => simp at h; subst h; simp [cells2]
    | succ i =>
      obtain ⟨h0, h1⟩ := ih i (by simpa using h)
      have e : cells2 (x :: r) = [.string x.1, .int .i64 x.2] ++ cells2 r := by simp [cells2]
      rw [e]
      refine ⟨?_, ?_⟩
      · rw [List.getElem?_append_right (by simp; omega)]; rw [← h0]; congr 1; simp; omega
      · rw [List.getElem?_append_right (by simp; omega)]; rw [← h1]; congr 1; simp; omega
theorem cells2_take (l : List Nd) (k : Nat) : cells2 (l.take k) = (cells2 l).take (k * 2) := by
  induction l generalizing k with
  | nil => simp [cells2]
  | cons x r ih =>
    have e : cells2 (x :: r) = [.string x.1, .int .i64 x.2] ++ cells2 r := by simp [cells2]
    cases k with
    | zero => simp [cells2]
    | succ k =>
      have e2 : cells2 ((x :: r).take (k + 1)) = [.string x.1, .int .i64 x.2] ++ cells2 (r.take k) := by simp [cells2]
      rw [e2, e, ih, show (k + 1) * 2 = k * 2 + 1 + 1 by omega]
      simp
theorem eNode : EInfo Try.prog 47 45 (.agg #[.string ⟨#[]⟩, .int .i64 0]) 2 24 := ⟨Try.underlying47, by kernel_rfl, rfl, by decide, by decide⟩
end Go.Proofs.Ytfhgnolfhiffbaa
