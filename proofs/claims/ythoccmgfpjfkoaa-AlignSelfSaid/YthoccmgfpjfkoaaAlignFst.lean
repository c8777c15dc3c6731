/- What lies in memory while align.filled runs. -/
import Derived.Test.YthoccmgfpjfkoaaAlignIter
import Derived.Test.YthoccmgfpjfkoaaPlanT
namespace Go.Proofs.Ythoccmgfpjfkoaa
open Go.RowKit Go.Shelf

theorem load_ints (p : Addr) (v : Value) (W : World) (h : W.cell? p = some v) : (Instr.loadAt 25 (.pointer (some p))).run Try.prog W = .ok v W := by simp [go_sem, h]
theorem load_int (p : Addr) (v : Value) (W : World) (h : W.cell? p = some v) : (Instr.loadAt 3 (.pointer (some p))).run Try.prog W = .ok v W := by simp [go_sem, h]

theorem zfacts {w1 : World} {g : Nat} {a b : Value} {t : TypeId} (z : w1.heap[g]? = some (.cells #[a, b] t (0, 0))) :
    w1.cell? ⟨g, 0, none⟩ = some a ∧ w1.cell? ⟨g, 1, none⟩ = some b ∧ w1.frozen? ⟨g, 0, none⟩ = false ∧ w1.frozen? ⟨g, 1, none⟩ = false :=
  ⟨by simp [World.cell?, z], by simp [World.cell?, z], by simp [World.frozen?, z], by simp [World.frozen?, z]⟩

theorem blkSet {w : World} {k : Nat} {a : Addr} {v : Value} (h : k ≠ a.block) : (w.setCell a v).heap[k]? = w.heap[k]? := by
  simp [World.setCell, Array.getElem?_modify, Ne.symm h]
/-- Blocks: 'next' lies at NX, 'out' at O, the result at R; out.To is the call's own and reads o; all below B. -/
structure FSt (w : World) (R O NX B : Nat) (A2 : Option Addr) (c2 len : Nat) (N nx : Int) (o : List Int) (W : World) : Prop where
  next : W.heap[NX]? = some (.cells #[.int .i64 nx] 3 (0, 0))
  out : W.heap[O]? = some (.cells #[.slice A2 len c2, .int .i64 N] 30 (0, 0))
  res : W.heap[R]? = some (.cells #[.slice none 0 0, .int .i64 0] 30 (0, 0))
  own : W.ownsRow w.heap.size 3 1 (.slice A2 len c2) len (o.map vInt)
  below : Below w.heap.size w W
  lim : w.heap.size ≤ R ∧ w.heap.size ≤ O ∧ w.heap.size ≤ NX ∧ R ≠ O ∧ R ≠ NX ∧ O ≠ NX ∧ R < B ∧ O < B ∧ NX < B
  row : ∀ k, (Value.slice A2 len c2).ownBlock = some k → k ≠ R ∧ k ≠ O ∧ k < NX ∧ w.heap.size ≤ k
  len : o.length = len
  size : B ≤ W.heap.size

variable {w W W' : World} {R O NX B : Nat} {A2 : Option Addr} {c2 len : Nat} {N nx : Int} {o : List Int}
theorem FSt.kept {row : Option Nat} (h : FSt w R O NX B A2 c2 len N nx o W) (hg : W.grownBy W' row) (hr : ∀ r, row = some r → B ≤ r) : FSt w R O NX B A2 c2 len N nx o W' := by
  have hB := h.size
  have hb : ∀ k, k < B → W'.heap[k]? = W.heap[k]? := fun k hk => hg.block k (by omega) (fun e => by have := hr k e.symm; omega)
  obtain ⟨l1, l2, l3, l4, l5, l6, l7, l8, l9⟩ := h.lim
  refine ⟨(hb NX l9).trans h.next, (hb O l8).trans h.out, (hb R l7).trans h.res, h.own.kept hg ?_, h.below.grown hg h.below.size (fun k e => by have := hr k e; omega), h.lim, h.row, h.len, Nat.le_trans hB hg.size⟩
  by_cases hn : (Value.slice A2 len c2).ownBlock = none
  · exact .inl hn
  · refine .inr fun e => ?_
    cases hk : (Value.slice A2 len c2).ownBlock with
    | none => exact hn hk
    | some k => have := (h.row k hk).2.2.1; have := hr k (by rw [← e, hk]); omega
theorem FSt.setNext (h : FSt w R O NX B A2 c2 len N nx o W) (nx' : Int) : FSt w R O NX B A2 c2 len N nx' o (W.setCell ⟨NX, 0, none⟩ (.int .i64 nx')) := by
  obtain ⟨l1, l2, l3, l4, l5, l6, l7, l8, l9⟩ := h.lim
  refine ⟨by simp [World.setCell, Array.getElem?_modify, h.next], (blkSet l6).trans h.out, (blkSet l5).trans h.res, ownsRow_setCell_other h.own (fun e => Nat.lt_irrefl _ (h.row _ e).2.2.1) _,
    h.below.setCell (p := ⟨NX, 0, none⟩) l3 _, h.lim, h.row, h.len, by have := h.size; simpa using this⟩
theorem FSt.setOut {g : Nat} (h : FSt w R O NX B (some ⟨g, 0, none⟩) c2 len N nx o W) (i : Nat) (x : Int) : FSt w R O NX B (some ⟨g, 0, none⟩) c2 len N nx (o.set i x) (W.setCell ⟨g, i, none⟩ (.int .i64 x)) := by
  obtain ⟨r1, r2, r3, r5⟩ := h.row g rfl
  refine ⟨(blkSet (by show NX ≠ g; omega)).trans h.next, (blkSet (Ne.symm r2)).trans h.out, (blkSet (Ne.symm r1)).trans h.res, ?_,
    h.below.setCell (p := ⟨g, i, none⟩) r5 _, h.lim, h.row, by rw [List.length_set]; exact h.len, by have := h.size; simpa using this⟩
  have := own_set h.own (i := i) (.int .i64 x)
  rw [List.map_set]
  exact this
/-- where something stands the row is some block -/
theorem FSt.some_ (h : FSt w R O NX B A2 c2 len N nx o W) (hl : 0 < len) : ∃ g, A2 = some ⟨g, 0, none⟩ := by
  rcases h.own.2 with ⟨_, h0⟩ | ⟨g, cap, cur, hv, _⟩
  · omega
  · injection hv with hv; exact ⟨g, hv⟩
theorem FSt.facts (h : FSt w R O NX B A2 c2 len N nx o W) : W.cell? ⟨NX, 0, none⟩ = some (.int .i64 nx) ∧ W.frozen? ⟨NX, 0, none⟩ = false ∧ W.cell? ⟨O, 0, none⟩ = some (.slice A2 len c2) ∧ W.cell? ⟨O, 1, none⟩ = some (.int .i64 N) ∧
    W.cell? ⟨R, 0, none⟩ = some (.slice none 0 0) ∧ W.cell? ⟨R, 1, none⟩ = some (.int .i64 0) ∧ W.frozen? ⟨R, 0, none⟩ = false ∧ W.frozen? ⟨R, 1, none⟩ = false := by
  obtain ⟨o0, o1, _⟩ := zfacts h.out
  obtain ⟨r0, r1, r2, r3⟩ := zfacts h.res
  exact ⟨by simp [World.cell?, h.next], by simp [World.frozen?, h.next], o0, o1, r0, r1, r2, r3⟩

/-! the plain side of the two loops -/
theorem down_inv {zs : List Int} {pre : List (Spot zs)} {x : Spot zs} {j : Nat} (h : (pre ++ [x]).map Spot.i = (List.range' j (zs.length - j)).reverse) (hj : j ≤ zs.length) :
    j < zs.length ∧ x.i = j ∧ pre.map Spot.i = (List.range' (j + 1) (zs.length - (j + 1))).reverse := by
  by_cases hlt : j < zs.length
  · rw [show zs.length - j = (zs.length - (j + 1)) + 1 from by omega, List.range'_succ, List.reverse_cons, List.map_append] at h
    have := List.append_inj' h (by simp)
    exact ⟨hlt, by simpa using this.2, this.1⟩
  · have : zs.length - j = 0 := by omega
    rw [this] at h
    simp at h
/-- what the first loop has done when the places from j on are over -/
def Back (m : List Int) (N nx : Int) (o : List Int) (j : Nat) : Prop := nx = Al.nextOf (m.drop j) N ∧ o = m.take j ++ Al.neg (m.drop j) N
theorem back_start (m : List Int) (N : Int) : Back m N N m m.length := ⟨by simp [Al.nextOf], by simp [Al.neg]⟩
theorem back_pair {m : List Int} {N nx v : Int} {o : List Int} {j : Nat} (h : Back m N nx o (j + 1)) (hv : m[j]? = some v) (h0 : 0 ≤ v) : Back m N v o j := by
  obtain ⟨hj, rfl⟩ := List.getElem?_eq_some_iff.1 hv
  refine ⟨?_, ?_⟩
  · rw [List.drop_eq_getElem_cons hj, Al.nextOf, if_pos h0]
  · rw [h.2, List.drop_eq_getElem_cons hj, Al.neg, if_pos h0, take_snoc hj, List.append_assoc]; rfl
theorem back_free {m : List Int} {N nx v : Int} {o : List Int} {j : Nat} (h : Back m N nx o (j + 1)) (hv : m[j]? = some v) (h0 : ¬ 0 ≤ v) : Back m N nx (o.set j (-1 - nx)) j := by
  obtain ⟨hj, rfl⟩ := List.getElem?_eq_some_iff.1 hv
  refine ⟨?_, ?_⟩
  · rw [h.1, List.drop_eq_getElem_cons hj, Al.nextOf, if_neg h0]
  · rw [h.2, List.drop_eq_getElem_cons hj, Al.neg, if_neg h0, ← h.1, take_snoc hj, List.append_assoc, List.set_append_right _ _ (by simp; omega)]
    simp [Nat.min_eq_left (Nat.le_of_lt hj)]
theorem neg_at {m : List Int} {N : Int} {j : Nat} (hj : j < m.length) : (Al.neg m N)[j]? = some (if 0 ≤ m[j] then m[j] else -1 - Al.nextOf (m.drop (j + 1)) N) := by
  induction m generalizing j with
  | nil => simp at hj
  | cons t l ih =>
    cases j with
    | zero => simp [Al.neg]
    | succ j => simp only [List.length_cons] at hj; simp only [Al.neg, List.getElem?_cons_succ, List.getElem_cons_succ, List.drop_succ_cons]; exact ih (by omega)
theorem fill_at {m : List Int} {N f : Int} {j : Nat} (hj : j < m.length) : Al.fill (m.drop j) N f = if 0 ≤ m[j] then m[j] :: Al.fill (m.drop (j + 1)) N (m[j] + 1) else if f < Al.nextOf (m.drop (j + 1)) N then f :: Al.fill (m.drop (j + 1)) N (f + 1) else -1 :: Al.fill (m.drop (j + 1)) N f := by
  rw [List.drop_eq_getElem_cons hj, Al.fill]
/-- what the second loop has done when j places are over -/
def Forth (m : List Int) (N fr : Int) (o : List Int) (j : Nat) : Prop := ∃ dn : List Int, dn.length = j ∧ o = dn ++ (Al.neg m N).drop j ∧ dn ++ Al.fill (m.drop j) N fr = Al.fill m N 0
theorem forth_start (m : List Int) (N : Int) : Forth m N 0 (Al.neg m N) 0 := ⟨[], rfl, by simp, by simp⟩
theorem forth_val {m : List Int} {N fr : Int} {o : List Int} {j : Nat} (h : Forth m N fr o j) (hj : j < m.length) : o[j]? = some (if 0 ≤ m[j] then m[j] else -1 - Al.nextOf (m.drop (j + 1)) N) := by
  obtain ⟨dn, hd, rfl, _⟩ := h
  rw [List.getElem?_append_right (by omega), hd, Nat.sub_self, List.getElem?_drop, Nat.add_zero]
  exact neg_at hj
theorem forth_pair {m : List Int} {N fr : Int} {o : List Int} {j : Nat} (h : Forth m N fr o j) (hj : j < m.length) (h0 : 0 ≤ m[j]) : Forth m N (m[j] + 1) o (j + 1) := by
  obtain ⟨dn, hd, rfl, hf⟩ := h
  have hn := neg_at (N := N) hj
  rw [if_pos h0] at hn
  obtain ⟨hjn, hn⟩ := List.getElem?_eq_some_iff.1 hn
  refine ⟨dn ++ [m[j]], by simp [hd], ?_, ?_⟩
  · rw [List.drop_eq_getElem_cons hjn, hn, List.append_assoc]; rfl
  · rw [fill_at hj, if_pos h0] at hf; rw [List.append_assoc]; exact hf
theorem forth_set {m : List Int} {N fr : Int} {o : List Int} {j : Nat} (h : Forth m N fr o j) (hj : j < m.length) (x : Int) (fr' : Int) (hx : Al.fill (m.drop j) N fr = x :: Al.fill (m.drop (j + 1)) N fr') : Forth m N fr' (o.set j x) (j + 1) := by
  obtain ⟨dn, hd, rfl, hf⟩ := h
  have hjn : j < (Al.neg m N).length := by rw [Al.neg_len]; exact hj
  refine ⟨dn ++ [x], by simp [hd], ?_, ?_⟩
  · rw [List.drop_eq_getElem_cons hjn, List.set_append_right _ _ (by omega), hd, Nat.sub_self, List.set_cons_zero, List.append_assoc]; rfl
  · rw [hx] at hf; rw [List.append_assoc]; exact hf
theorem forth_free {m : List Int} {N fr : Int} {o : List Int} {j : Nat} (h : Forth m N fr o j) (hj : j < m.length) (h0 : ¬ 0 ≤ m[j]) (hx : fr < Al.nextOf (m.drop (j + 1)) N) : Forth m N (fr + 1) (o.set j fr) (j + 1) :=
  forth_set h hj fr (fr + 1) (by rw [fill_at hj, if_neg h0, if_pos hx])
theorem forth_none {m : List Int} {N fr : Int} {o : List Int} {j : Nat} (h : Forth m N fr o j) (hj : j < m.length) (h0 : ¬ 0 ≤ m[j]) (hx : ¬ fr < Al.nextOf (m.drop (j + 1)) N) : Forth m N fr (o.set j (-1)) (j + 1) :=
  forth_set h hj (-1) fr (by rw [fill_at hj, if_neg h0, if_neg hx])
theorem forth_end {m : List Int} {N fr : Int} {o : List Int} (h : Forth m N fr o m.length) : o = Al.fill m N 0 := by
  obtain ⟨dn, hd, rfl, hf⟩ := h
  rw [List.drop_eq_nil_of_le (by rw [Al.neg_len]; exact Nat.le_refl _)]
  rw [List.drop_eq_nil_of_le (Nat.le_refl _)] at hf
  simpa [Al.fill] using hf
end Go.Proofs.Ythoccmgfpjfkoaa
