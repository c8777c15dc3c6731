/- Rows of rows that are the call's own. -/
import Derived.Test.YthoccmgfpjfkoaaRAlike
namespace Go.Proofs.Ythoccmgfpjfkoaa
open Go.RowKit

/-- rows of the call's own: the top and each row, all apart -/
structure OwnRows (W : World) (base : Nat) (v : Value) (rs : List SRow) : Prop where
  top : W.ownsRow base 26 1 v rs.length (rs.map vRow)
  row : ∀ r ∈ rs, W.ownsRow base 9 1 (vRow r) r.l.length (r.l.map vStr)
  apart : rs.Pairwise fun r s => Apart (vRow r) (vRow s)
variable {W W' : World} {base : Nat} {v : Value} {rs : List SRow}
theorem OwnRows.nil : OwnRows W base (.slice none 0 0) [] := ⟨World.ownsRow_nil _ _ _ _, by simp, List.Pairwise.nil⟩
theorem OwnRows.keep (h : OwnRows W base v rs) (hb : Below W.heap.size W W') : OwnRows W' base v rs := ⟨own_below h.top hb, fun r hr => own_below (h.row r hr) hb, h.apart⟩
theorem OwnRows.base_ {b : Nat} (h : OwnRows W base v rs) (hb : b ≤ base) : OwnRows W b v rs := ⟨own_base h.top hb, fun r hr => own_base (h.row r hr) hb, h.apart⟩
theorem OwnRows.append {v' : Value} {r : SRow} (h : OwnRows W base v rs) (hr : W.ownsRow base 9 1 (vRow r) r.l.length (r.l.map vStr)) (ha : ∀ x ∈ rs, Apart (vRow x) (vRow r))
    (hown : W'.ownsRow base 26 1 v' (rs.length + 1) (rs.map vRow ++ [vRow r])) (hg : W.grownBy W' v.ownBlock) : OwnRows W' base v' (rs ++ [r]) := by
  have ke : ∀ x : SRow, W.ownsRow base 9 1 (vRow x) x.l.length (x.l.map vStr) → W'.ownsRow base 9 1 (vRow x) x.l.length (x.l.map vStr) := fun x hx => own_other hx (apart_kind h.top hx (by decide)) hg
  refine ⟨by rw [List.length_append, List.map_append]; exact hown, fun x hx => ?_, ?_⟩
  · rcases List.mem_append.1 hx with hx | hx
    · exact ke x (h.row x hx)
    · rw [List.mem_singleton] at hx; subst hx; exact ke x hr
  · exact List.pairwise_append.2 ⟨h.apart, List.pairwise_singleton _ _, fun x hx y hy => by rw [List.mem_singleton] at hy; subst hy; exact ha x hx⟩
/-- a store into a block of another kind -/
theorem OwnRows.setCell {g o : Nat} {cs : Array Value} {e : TypeId} {fr : Nat × Nat} (h : OwnRows W base v rs) (hg : W.heap[g]? = some (.cells cs e fr)) (h1 : e ≠ 26) (h2 : e ≠ 9) (u : Value) : OwnRows (W.setCell ⟨g, o, none⟩ u) base v rs :=
  ⟨ownsRow_setCell_other h.top (own_ne_kind h.top hg h1) u, fun r hr => ownsRow_setCell_other (h.row r hr) (own_ne_kind (h.row r hr) hg h2) u, h.apart⟩
theorem OwnRows.grid {A : Option Addr} {c : Nat} (h : OwnRows W base (.slice A rs.length c) rs) (hl : rs.length ≤ 1000) (hr : ∀ r ∈ rs, r.l.length ≤ 1000) : Grid W A rs :=
  ⟨At1.of_own h.top (by omega), fun r hx => At1.of_own (n := r.l.length) (c := r.c) (h.row r hx) (by have := hr r hx; omega)⟩
theorem OwnRows.form (h : OwnRows W base v rs) : ∃ A c, v = .slice A rs.length c := by
  obtain ⟨A, c, rfl, _⟩ := own_form h.top
  exact ⟨A, c, rfl⟩

/-- two lists of rows have the same texts -/
def Same (rs ts : List SRow) : Prop := rs.map SRow.l = ts.map SRow.l
theorem Same.len {rs ts : List SRow} (h : Same rs ts) : rs.length = ts.length := by have := congrArg List.length h; simpa using this
theorem Same.keys {rs ts : List SRow} (h : Same rs ts) : rowKeys rs = rowKeys ts := by
  have : (rs.map SRow.l).map keyOf = (ts.map SRow.l).map keyOf := by rw [show rs.map SRow.l = ts.map SRow.l from h]
  rw [List.map_map, List.map_map] at this
  exact this
theorem Same.mem {rs ts : List SRow} (h : Same rs ts) {r : SRow} (hr : r ∈ rs) : ∃ s ∈ ts, r.l = s.l := by
  have : r.l ∈ ts.map SRow.l := by rw [← show rs.map SRow.l = ts.map SRow.l from h]; exact List.mem_map.2 ⟨r, hr, rfl⟩
  obtain ⟨s, hs, e⟩ := List.mem_map.1 this
  exact ⟨s, hs, e.symm⟩
theorem Same.mild {rs ts : List SRow} (h : Same rs ts) (hm : Mild ts) : Mild rs := ⟨by rw [h.len]; exact hm.1, fun r hr => by
  obtain ⟨s, hs, e⟩ := h.mem hr
  rw [e]
  exact hm.2 s hs⟩
theorem Same.wide {rs ts : List SRow} {c : Nat} (h : Same rs ts) (hm : Wide ts c) : Wide rs c := fun r hr => by
  obtain ⟨s, hs, e⟩ := h.mem hr
  rw [e]
  exact hm s hs
end Go.Proofs.Ythoccmgfpjfkoaa
