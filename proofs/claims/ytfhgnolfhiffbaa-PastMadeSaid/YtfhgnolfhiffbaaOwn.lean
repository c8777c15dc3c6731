/- Rows of the call's own: a cell read, a cell written; an empty literal. No program in sight. -/
import Derived.Test.YtfhgnolfhiffbaaMem2
import Derived.Deep.OwnRows
namespace Go.Proofs.Ytfhgnolfhiffbaa
open Go.RowKit

theorem own_cell {w : World} {base g n cap : Nat} {e : TypeId} {xs : List Value} (h : w.ownsRow base e 1 (.slice (some ⟨g, 0, none⟩) n cap) n xs) {i : Nat} {x : Value} (hx : xs[i]? = some x) :
    w.cell? ⟨g, i, none⟩ = some x ∧ w.frozen? ⟨g, i, none⟩ = false ∧ i < n ∧ n ≤ cap ∧ base ≤ g ∧ g < w.heap.size := by
  obtain ⟨hlen, hh⟩ := h
  rcases hh with ⟨hv, _⟩ | ⟨g', cap', cur, hv, hb, hh, h1, h2, h3, h4⟩
  · cases hv
  · injection hv with hv1 hv2 hv3
    injection hv1 with hv1
    injection hv1 with hv1
    subst hv1; subst hv3
    rw [Nat.mul_one] at *
    have hi := (List.getElem?_eq_some_iff.1 hx).1
    rw [← h4, List.getElem?_take] at hx
    split at hx
    · refine ⟨?_, ?_, by omega, h1, hb, (Array.getElem?_eq_some_iff.1 hh).1⟩
      · simp [World.cell?, hh]
        simpa using hx
      · simp [World.frozen?, hh]
    · cases hx

theorem own_set {w : World} {base g n cap : Nat} {e : TypeId} {xs : List Value} (h : w.ownsRow base e 1 (.slice (some ⟨g, 0, none⟩) n cap) n xs) {i : Nat} (u : Value) :
    (w.setCell ⟨g, i, none⟩ u).ownsRow base e 1 (.slice (some ⟨g, 0, none⟩) n cap) n (xs.set i u) := by
  obtain ⟨hlen, hh⟩ := h
  rcases hh with ⟨hv, _⟩ | ⟨g', cap', cur, hv, hb, hh, h1, h2, h3, h4⟩
  · cases hv
  · injection hv with hv1 hv2 hv3
    injection hv1 with hv1
    injection hv1 with hv1
    subst hv1; subst hv3
    refine ⟨by rw [List.length_set]; exact hlen, .inr ⟨g, cap, cur.setIfInBounds i u, rfl, hb, ?_, h1, h2, by simpa using h3, ?_⟩⟩
    · simp [World.setCell, Array.getElem?_modify, hh]
    · rw [← h4]
      simp [List.take_set]

/-- a row made -/
theorem own_made {w : World} {base n : Nat} {e : TypeId} {z : Value} (hb : base ≤ w.heap.size) (hn : n ≤ maxLen) : (w.alloc (.cells (madeCells #[z] n) e)).ownsRow base e 1 (.slice (some ⟨w.heap.size, 0, none⟩) n n) n (List.replicate n z) := by
  refine ⟨by simp, .inr ⟨w.heap.size, n, _, rfl, hb, heap_alloc_new w _, Nat.le_refl _, hn, by rw [size_madeCells]; simp, ?_⟩⟩
  apply List.ext_getElem?
  intro i
  rw [Nat.mul_one, List.getElem?_take, List.getElem?_replicate]
  split
  · simp [madeCells, *, Nat.mod_one]
  · rfl
/-- an empty literal -/
theorem own_lit0 {w : World} {base : Nat} {e : TypeId} (hb : base ≤ w.heap.size) : (w.alloc (.cells #[] e)).ownsRow base e 1 (.slice (some ⟨w.heap.size, 0, none⟩) 0 0) 0 [] :=
  ⟨rfl, .inr ⟨w.heap.size, 0, #[], rfl, hb, heap_alloc_new w _, Nat.le_refl _, Nat.zero_le _, rfl, rfl⟩⟩
end Go.Proofs.Ytfhgnolfhiffbaa
