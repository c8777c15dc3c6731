/- queue.Len, Less, Swap, Push, Pop. Written by pheapgen.py. -/
import Derived.Test.YtfhgnolfhiffbaaPQueue
namespace Go.Proofs.Ytfhgnolfhiffbaa
open Go.RowKit
section
variable {P : Program} {ops : Array Oper} {Q : Exit → Act → World → Prop} {a : Act} {w : World} {o : Oper} {t : PTo}
/-- a load, as it runs in every later world -/
theorem pt_loadX {T : TypeId} {x : Operand} {p : Addr} {v : Value} (hrun : ∀ W, Ext w W → (Instr.loadAt T (.pointer (some p))).run P W = .ok v W)
    (hw : Region.wanted o (yielded ops a.tmps) = true) (ho : o.op = .load T x) (hx : a.eval x = .pointer (some p)) (h2 : PlannedT P ops Q t (a.put o.dst v) w) : PlannedT P ops Q (.free o t) a w := by
  refine pt_at hw (fun W hW => ?_) h2
  unfold execOp
  rw [ho]
  simp only [hx, Sem.run_bind, hrun W hW, Result.andThen_ok]
  rfl
end
/-- the queue at Q, its nodes -/
structure QS (w : World) (Q base : Nat) (v : Value) (L : List Nd) : Prop where
  cell : w.heap[Q]? = some (.cells #[v] 47 (0, 0))
  own : w.ownsRow base 45 2 v L.length (cells2 L)
section
variable {w w' : World} {Q base : Nat} {v : Value} {L : List Nd}
theorem QS.lt (h : QS w Q base v L) : Q < w.heap.size := (Array.getElem?_eq_some_iff.1 h.cell).1
theorem QS.q0 (h : QS w Q base v L) : w.cell? ⟨Q, 0, none⟩ = some v := by simp [World.cell?, h.cell]
theorem QS.q0f (h : QS w Q base v L) : w.frozen? ⟨Q, 0, none⟩ = false := by simp [World.frozen?, h.cell]
theorem QS.form (h : QS w Q base v L) : ∃ A c, v = .slice A L.length c ∧ L.length ≤ c := by
  obtain ⟨A, c, e, h1, _⟩ := own_form h.own
  exact ⟨A, c, e, h1⟩
theorem QS.elem (h : QS w Q base v L) {i : Nat} {x : Nd} (hi : L[i]? = some x) : ∃ g c, v = .slice (some ⟨g, 0, none⟩) L.length c ∧ L.length ≤ c ∧ i < L.length ∧ g < w.heap.size ∧ g ≠ Q ∧ w.cell? ⟨g, i * 2, none⟩ = some (.string x.1) ∧ w.cell? ⟨g, i * 2 + 1, none⟩ = some (.int .i64 x.2) ∧ ∀ j, w.frozen? ⟨g, j, none⟩ = false := by
  have hl := (List.getElem?_eq_some_iff.1 hi).1
  obtain ⟨hlen, hh⟩ := h.own
  rcases hh with ⟨hv, hn⟩ | ⟨g, cap, cur, hv, hb, hg, h1, h2, h3, h4⟩
  · omega
  obtain ⟨e0, e1⟩ := cells2_get L i x hi
  have k0 : cur[i * 2]? = some (.string x.1) := by
    rw [← h4, List.getElem?_take, if_pos (by omega)] at e0
    simpa using e0
  have k1 : cur[i * 2 + 1]? = some (.int .i64 x.2) := by
    rw [← h4, List.getElem?_take, if_pos (by omega)] at e1
    simpa using e1
  refine ⟨g, cap, hv, h1, hl, (Array.getElem?_eq_some_iff.1 hg).1, ?_, by simp [World.cell?, hg, k0], by simp [World.cell?, hg, k1], fun j => by simp [World.frozen?, hg]⟩
  intro e
  subst e
  rw [h.cell] at hg
  injection hg with hg
  injection hg with _ hg
  exact absurd hg (by decide)
theorem QS.below (h : QS w Q base v L) (hb : Below w.heap.size w w') : QS w' Q base v L :=
  ⟨(hb.block _ h.lt).trans h.cell, by
    refine ⟨h.own.1, ?_⟩
    rcases h.own.2 with k | ⟨g, cap, cur, hv, hg, hh, r⟩
    · exact .inl k
    · exact .inr ⟨g, cap, cur, hv, hg, (hb.block g (Array.getElem?_eq_some_iff.1 hh).1).trans hh, r⟩⟩
end
/-- what an operation on the queue leaves: all but the queue's own cell and row -/
structure QM (Q : Nat) (w : World) (v : Value) (w' : World) (v' : Value) : Prop where
  base : ∀ B, Below B w w → True
  os : w'.os = w.os
  tape : w'.tape = w.tape
  output : w'.output = w.output
  size : w.heap.size ≤ w'.heap.size
  block : ∀ k, k < w.heap.size → k ≠ Q → v.ownBlock ≠ some k → w'.heap[k]? = w.heap[k]?
  own : v'.ownBlock = v.ownBlock ∨ ∃ g, v'.ownBlock = some g ∧ w.heap.size ≤ g
theorem QM.of_below {Q : Nat} {w w' : World} {v : Value} (h : Below w.heap.size w w') : QM Q w v w' v :=
  ⟨fun _ _ => trivial, h.os, h.tape, h.output, h.size, fun k hk _ _ => h.block k hk, .inl rfl⟩
theorem QM.trans {Q : Nat} {w w1 w2 : World} {v v1 v2 : Value} (h : QM Q w v w1 v1) (k : QM Q w1 v1 w2 v2) : QM Q w v w2 v2 := by
  refine ⟨fun _ _ => trivial, k.os.trans h.os, k.tape.trans h.tape, k.output.trans h.output, Nat.le_trans h.size k.size, fun j hj hq hv => (k.block j (Nat.lt_of_lt_of_le hj h.size) hq ?_).trans (h.block j hj hq hv), ?_⟩
  · rcases h.own with e | ⟨g, e, hg⟩
    · rw [e]; exact hv
    · rw [e]; intro e2; injection e2 with e2; omega
  · rcases k.own with e | ⟨g, e, hg⟩
    · rw [e]; exact h.own
    · exact .inr ⟨g, e, Nat.le_trans h.size hg⟩
theorem QM.below {Q : Nat} {w w1 w2 : World} {v v1 : Value} (h : QM Q w v w1 v1) (k : Below w1.heap.size w1 w2) : QM Q w v w2 v1 := h.trans (QM.of_below k)
theorem QM.set {Q : Nat} {w w1 : World} {v v1 : Value} (h : QM Q w v w1 v1) {p : Addr} (hp : p.block = Q ∨ v.ownBlock = some p.block ∨ w.heap.size ≤ p.block) (u : Value) : QM Q w v (w1.setCell p u) v1 := by
  refine ⟨fun _ _ => trivial, h.os, h.tape, h.output, by simpa [World.setCell] using h.size, fun j hj hq hv => ?_, h.own⟩
  rw [← h.block j hj hq hv]
  have hne : p.block ≠ j := by
    rcases hp with e | e | e
    · rw [e]; exact Ne.symm hq
    · intro e2; rw [e2] at e; exact hv e
    · omega
  simp [World.setCell, Array.getElem?_modify, hne]
def QPost (Q base : Nat) (w : World) (v : Value) (L' : List Nd) (r : Value) (e : Ending) (w' : World) : Prop := ∃ v', e = .returned r ∧ QS w' Q base v' L' ∧ QM Q w v w' v'
theorem own_setN {w : World} {base g n cap size : Nat} {e : TypeId} {xs : List Value} (h : w.ownsRow base e size (.slice (some ⟨g, 0, none⟩) n cap) n xs) (i : Nat) (u : Value) :
    (w.setCell ⟨g, i, none⟩ u).ownsRow base e size (.slice (some ⟨g, 0, none⟩) n cap) n (xs.set i u) := by
  obtain ⟨hlen, hh⟩ := h
  rcases hh with ⟨hv, _⟩ | ⟨g', cap', cur, hv, hb, hh, h1, h2, h3, h4⟩
  · cases hv
  · injection hv with hv1 hv2 hv3
    injection hv1 with hv1
    injection hv1 with hv1
    subst hv1; subst hv3
    refine ⟨by rw [List.length_set]; exact hlen, .inr ⟨g, cap, cur.setIfInBounds i u, rfl, hb, ?_, h1, h2, by simpa using h3, ?_⟩⟩
    · simp [World.setCell, Array.getElem?_modify, hh]
    · rw [← h4]
      simp [List.take_set]
theorem cells2_set (l : List Nd) (i : Nat) (x : Nd) (hi : i < l.length) : cells2 (l.set i x) = ((cells2 l).set (i * 2) (.string x.1)).set (i * 2 + 1) (.int .i64 x.2) := by
  induction l generalizing i with
  | nil => simp at hi
  | cons y r ih =>
    have e : ∀ (z : Nd) (t : List Nd), cells2 (z :: t) = .string z.1 :: .int .i64 z.2 :: cells2 t := fun z t => by simp [cells2]
    cases i with
    | zero => simp [e]
    | succ i =>
      rw [List.set_cons_succ, e, e, ih i (by simpa using hi), show (i + 1) * 2 = i * 2 + 1 + 1 by omega]
      simp
theorem QS.set {w : World} {Q base g n c : Nat} {L : List Nd} (h : QS w Q base (.slice (some ⟨g, 0, none⟩) n c) L) (hn : L.length = n) (hgq : g ≠ Q) {i : Nat} (hi : i < n) (x : Nd) :
    QS ((w.setCell ⟨g, i * 2, none⟩ (.string x.1)).setCell ⟨g, i * 2 + 1, none⟩ (.int .i64 x.2)) Q base (.slice (some ⟨g, 0, none⟩) n c) (L.set i x) := by
  subst hn
  refine ⟨?_, ?_⟩
  · have := h.cell
    simp [World.setCell, Array.getElem?_modify, hgq, this]
  · rw [cells2_set L i x hi, List.length_set]
    exact own_setN (own_setN h.own _ _) _ _
theorem qlen_any (w : World) (Q base : Nat) (v : Value) (L : List Nd) (h : QS w Q base v L) :
    Calls Try.prog 20 #[.pointer (some ⟨Q, 0, none⟩)] w fun e w' => e = .returned (.int .i64 L.length) ∧ w' = w := by
  obtain ⟨A, c, rfl, hc⟩ := h.form
  have hq := h.q0
  go_enter Try.func20, Try.ntmps20
  go_wp2
  go_ret
  exact ⟨rfl, rfl⟩
set_option maxRecDepth 100000 in
set_option maxHeartbeats 1000000 in
theorem qless_any (w : World) (Q base : Nat) (v : Value) (L : List Nd) (h : QS w Q base v L) (i k : Nat) (x y : Nd) (hi : L[i]? = some x) (hk : L[k]? = some y) :
    Calls Try.prog 52 #[.pointer (some ⟨Q, 0, none⟩), .int .i64 i, .int .i64 k] w fun e w' => e = .returned (.bool (decide (ndCmp x y < 0))) ∧ Below w.heap.size w w' := by
  obtain ⟨g, c, rfl, hc, hil, hgl, hgq, a0, a1, _⟩ := h.elem hi
  obtain ⟨g2, c2, e2, _, hkl, _, _, b0, b1, _⟩ := h.elem hk
  obtain rfl : g = g2 := by injection e2 with e2; injection e2 with e2; injection e2
  have hq := h.q0
  have hQl := h.lt
  clear e2 h hi hk
  obtain ⟨n, hn⟩ : ∃ n, L.length = n := ⟨_, rfl⟩
  rw [hn] at hc hil hkl hq
  clear hn
  go_enter Try.func52, Try.ntmps52
  go_wp2_with fail
  refine wp_region_tree [] (.free 0 (.free 1 (.free 2 (.free 3 (.free 4 (.free 5 (.free 6 (.free 7 (.free 8 (.free 9 (.free 10 (.free 11 (.eff 12 (.free 13 (.free 14 .nil))))))))))))))) (by kernel_rfl) (by kernel_rfl) (fun _ _ d _ _ h => by cases d <;> exact h) ?_
  obtain ⟨W, hW⟩ : ∃ W, W = w.drew := ⟨_, rfl⟩
  rw [← hW]
  have hb : Below w.heap.size w W := by rw [hW]; exact (Below.refl _ _).drew
  have hq : W.cell? ⟨Q, 0, none⟩ = some (.slice (some ⟨g, 0, none⟩) n c) := by rw [hW]; exact hq
  have a0 : W.cell? ⟨g, i * 2, none⟩ = some (.string x.1) := by rw [hW]; exact a0
  have a1 : W.cell? ⟨g, i * 2 + 1, none⟩ = some (.int .i64 x.2) := by rw [hW]; exact a1
  have b0 : W.cell? ⟨g, k * 2, none⟩ = some (.string y.1) := by rw [hW]; exact b0
  have b1 : W.cell? ⟨g, k * 2 + 1, none⟩ = some (.int .i64 y.2) := by rw [hW]; exact b1
  have hQl : Q < W.heap.size := by rw [hW]; exact hQl
  have hgl : g < W.heap.size := by rw [hW]; exact hgl
  clear hW
  conv => arg 4; whnf
  conv => arg 4; arg 1; whnf
  refine pt_free (by rfl) (fun K hK => ?_)
  go_big_quiet_op
  first | (refine hK _ ?_; clear hK K) | (refine ⟨_, fun _ _ => rfl, hK _ ?_⟩; clear hK K)
  conv => arg 4; whnf
  conv => arg 4; arg 1; whnf
  refine pt_free (by rfl) (fun K hK => ?_)
  go_big_quiet_op
  first | (refine hK _ ?_; clear hK K) | (refine ⟨_, fun _ _ => rfl, hK _ ?_⟩; clear hK K)
  conv => arg 4; whnf
  conv => arg 4; arg 1; whnf
  refine pt_load (fun W h => load_q _ _ W h) (p := ⟨Q, 0, none⟩) hq hQl (by rfl) rfl rfl ?_
  simp only [Act.put, List.setIfInBounds_toArray, List.set_cons_zero, List.set_cons_succ]
  conv => arg 4; whnf
  conv => arg 4; arg 1; whnf
  refine pt_free (by rfl) (fun K hK => ?_)
  go_big_quiet_op
  first | (refine hK _ ?_; clear hK K) | (refine ⟨_, fun _ _ => rfl, hK _ ?_⟩; clear hK K)
  conv => arg 4; whnf
  conv => arg 4; arg 1; whnf
  refine pt_free (by rfl) (fun K hK => ?_)
  go_big_quiet_op
  first | (refine hK _ ?_; clear hK K) | (refine ⟨_, fun _ _ => rfl, hK _ ?_⟩; clear hK K)
  conv => arg 4; whnf
  conv => arg 4; arg 1; whnf
  refine pt_loadX (fun W hW => load_nd _ _ _ _ W ((hW.cell hgl).trans a0) ((hW.cell hgl).trans a1)) (by rfl) rfl rfl ?_
  simp only [Act.put, List.setIfInBounds_toArray, List.set_cons_zero, List.set_cons_succ]
  conv => arg 4; whnf
  conv => arg 4; arg 1; whnf
  refine pt_free (by rfl) (fun K hK => ?_)
  go_big_quiet_op
  first | (refine hK _ ?_; clear hK K) | (refine ⟨_, fun _ _ => rfl, hK _ ?_⟩; clear hK K)
  conv => arg 4; whnf
  conv => arg 4; arg 1; whnf
  refine pt_free (by rfl) (fun K hK => ?_)
  go_big_quiet_op
  first | (refine hK _ ?_; clear hK K) | (refine ⟨_, fun _ _ => rfl, hK _ ?_⟩; clear hK K)
  conv => arg 4; whnf
  conv => arg 4; arg 1; whnf
  refine pt_load (fun W h => load_q _ _ W h) (p := ⟨Q, 0, none⟩) hq hQl (by rfl) rfl rfl ?_
  simp only [Act.put, List.setIfInBounds_toArray, List.set_cons_zero, List.set_cons_succ]
  conv => arg 4; whnf
  conv => arg 4; arg 1; whnf
  refine pt_free (by rfl) (fun K hK => ?_)
  go_big_quiet_op
  first | (refine hK _ ?_; clear hK K) | (refine ⟨_, fun _ _ => rfl, hK _ ?_⟩; clear hK K)
  conv => arg 4; whnf
  conv => arg 4; arg 1; whnf
  refine pt_free (by rfl) (fun K hK => ?_)
  go_big_quiet_op
  first | (refine hK _ ?_; clear hK K) | (refine ⟨_, fun _ _ => rfl, hK _ ?_⟩; clear hK K)
  conv => arg 4; whnf
  conv => arg 4; arg 1; whnf
  refine pt_loadX (fun W hW => load_nd _ _ _ _ W ((hW.cell hgl).trans b0) ((hW.cell hgl).trans b1)) (by rfl) rfl rfl ?_
  simp only [Act.put, List.setIfInBounds_toArray, List.set_cons_zero, List.set_cons_succ]
  clear a0 a1 b0 b1 hq
  conv => arg 4; whnf
  conv => arg 4; arg 1; whnf
  refine pt_eff (by rfl) (fun K hK => ?_)
  go_wp2_with fail
  refine (ndCmp_any _ x.1 y.1 x.2 y.2).mono ?_
  rintro e w1 ⟨rfl, h1⟩
  refine hK _ _ h1 ?_
  clear hK K
  have hb1 := hb.trans (h1.mono hb.size)
  clear h1 hb
  conv => arg 4; whnf
  conv => arg 4; arg 1; whnf
  refine pt_free (by rfl) (fun K hK => ?_)
  go_big_quiet_op
  first | (refine hK _ ?_; clear hK K) | (refine ⟨_, fun _ _ => rfl, hK _ ?_⟩; clear hK K)
  conv => arg 4; whnf
  conv => arg 4; arg 1; whnf
  refine pt_free (by rfl) (fun K hK => ?_)
  go_big_quiet_op
  first | (refine hK _ ?_; clear hK K) | (refine ⟨_, fun _ _ => rfl, hK _ ?_⟩; clear hK K)
  refine pt_nil ?_
  go_wp2
  go_ret
  exact ⟨rfl, hb1⟩
set_option maxRecDepth 100000 in
set_option maxHeartbeats 1000000 in
theorem qswap_any (w : World) (Q base : Nat) (v : Value) (L : List Nd) (h : QS w Q base v L) (i k : Nat) (x y : Nd) (hi : L[i]? = some x) (hk : L[k]? = some y) :
    Calls Try.prog 55 #[.pointer (some ⟨Q, 0, none⟩), .int .i64 i, .int .i64 k] w (QPost Q base w v ((L.set i y).set k x) (.tuple #[])) := by
  go_enter Try.func55, Try.ntmps55
  refine wp_region_tree [21, 23] (.free 0 (.free 1 (.free 2 (.free 3 (.free 4 (.free 5 (.free 6 (.free 8 (.free 9 (.free 10 (.free 11 (.free 12 (.free 13 (.free 14 (.free 15 (.free 16 (.free 17 (.free 18 (.free 19 (.free 20 (.pure 7 (.last 21 (.last 22 (.last 23 .nil)))))))))))))))))))))))) (by kernel_rfl) (by kernel_rfl) (fun _ _ d _ _ h => by cases d <;> exact h) ?_
  obtain ⟨W, hW⟩ : ∃ W, W = w.drew := ⟨_, rfl⟩
  rw [← hW]
  have hm : QM Q w v W v := by rw [hW]; exact QM.of_below (Below.refl _ _).drew
  have h : QS W Q base v L := by rw [hW]; exact ⟨h.cell, h.own⟩
  clear hW
  obtain ⟨g, c, rfl, hc, hil, hgl, hgq, a0, a1, fz⟩ := h.elem hi
  obtain ⟨g2, c2, e2, _, hkl, _, _, b0, b1, _⟩ := h.elem hk
  obtain rfl : g = g2 := by injection e2 with e2; injection e2 with e2; injection e2
  have hq := h.q0
  have hQl := h.lt
  have h1 := h.set rfl hgq hil y
  have h2 := h1.set (by rw [List.length_set]) hgq hkl x
  have H2 := Lib.hid h2
  obtain ⟨z, hz⟩ : ∃ z, (L.set i y)[k]? = some z := ⟨_, List.getElem?_eq_getElem (by rw [List.length_set]; exact hkl)⟩
  obtain ⟨g3, c3, e3, _, _, _, _, d0, d1, fz1⟩ := h1.elem hz
  obtain rfl : g = g3 := by injection e3 with e3; injection e3 with e3; injection e3
  have f0 := fz (i * 2)
  have f1 := fz (i * 2 + 1)
  have f2 := fz1 (k * 2)
  have f3 := fz1 (k * 2 + 1)
  clear e2 e3 h hi hk h1 h2 hz fz fz1
  obtain ⟨n, hn⟩ : ∃ n, L.length = n := ⟨_, rfl⟩
  rw [hn] at hc hil hkl hq H2 hm
  have HN := Lib.hid hn
  clear hn
  conv => arg 4; whnf
  conv => arg 4; arg 1; whnf
  refine pt_free (by rfl) (fun K hK => ?_)
  go_big_quiet_op
  first | (refine hK _ ?_; clear hK K) | (refine ⟨_, fun _ _ => rfl, hK _ ?_⟩; clear hK K)
  conv => arg 4; whnf
  conv => arg 4; arg 1; whnf
  refine pt_free (by rfl) (fun K hK => ?_)
  go_big_quiet_op
  first | (refine hK _ ?_; clear hK K) | (refine ⟨_, fun _ _ => rfl, hK _ ?_⟩; clear hK K)
  conv => arg 4; whnf
  conv => arg 4; arg 1; whnf
  refine pt_load (fun W h => load_q _ _ W h) (p := ⟨Q, 0, none⟩) hq hQl (by rfl) rfl rfl ?_
  simp only [Act.put, List.setIfInBounds_toArray, List.set_cons_zero, List.set_cons_succ]
  conv => arg 4; whnf
  conv => arg 4; arg 1; whnf
  refine pt_free (by rfl) (fun K hK => ?_)
  go_big_quiet_op
  first | (refine hK _ ?_; clear hK K) | (refine ⟨_, fun _ _ => rfl, hK _ ?_⟩; clear hK K)
  conv => arg 4; whnf
  conv => arg 4; arg 1; whnf
  refine pt_free (by rfl) (fun K hK => ?_)
  go_big_quiet_op
  first | (refine hK _ ?_; clear hK K) | (refine ⟨_, fun _ _ => rfl, hK _ ?_⟩; clear hK K)
  conv => arg 4; whnf
  conv => arg 4; arg 1; whnf
  refine pt_free (by rfl) (fun K hK => ?_)
  go_big_quiet_op
  first | (refine hK _ ?_; clear hK K) | (refine ⟨_, fun _ _ => rfl, hK _ ?_⟩; clear hK K)
  conv => arg 4; whnf
  conv => arg 4; arg 1; whnf
  refine pt_load (fun W h => load_q _ _ W h) (p := ⟨Q, 0, none⟩) hq hQl (by rfl) rfl rfl ?_
  simp only [Act.put, List.setIfInBounds_toArray, List.set_cons_zero, List.set_cons_succ]
  conv => arg 4; whnf
  conv => arg 4; arg 1; whnf
  refine pt_free (by rfl) (fun K hK => ?_)
  go_big_quiet_op
  first | (refine hK _ ?_; clear hK K) | (refine ⟨_, fun _ _ => rfl, hK _ ?_⟩; clear hK K)
  conv => arg 4; whnf
  conv => arg 4; arg 1; whnf
  refine pt_free (by rfl) (fun K hK => ?_)
  go_big_quiet_op
  first | (refine hK _ ?_; clear hK K) | (refine ⟨_, fun _ _ => rfl, hK _ ?_⟩; clear hK K)
  conv => arg 4; whnf
  conv => arg 4; arg 1; whnf
  refine pt_load (fun W h => load_q _ _ W h) (p := ⟨Q, 0, none⟩) hq hQl (by rfl) rfl rfl ?_
  simp only [Act.put, List.setIfInBounds_toArray, List.set_cons_zero, List.set_cons_succ]
  conv => arg 4; whnf
  conv => arg 4; arg 1; whnf
  refine pt_free (by rfl) (fun K hK => ?_)
  go_big_quiet_op
  first | (refine hK _ ?_; clear hK K) | (refine ⟨_, fun _ _ => rfl, hK _ ?_⟩; clear hK K)
  conv => arg 4; whnf
  conv => arg 4; arg 1; whnf
  refine pt_free (by rfl) (fun K hK => ?_)
  go_big_quiet_op
  first | (refine hK _ ?_; clear hK K) | (refine ⟨_, fun _ _ => rfl, hK _ ?_⟩; clear hK K)
  conv => arg 4; whnf
  conv => arg 4; arg 1; whnf
  refine pt_loadX (fun W hW => load_nd _ _ _ _ W ((hW.cell hgl).trans b0) ((hW.cell hgl).trans b1)) (by rfl) rfl rfl ?_
  simp only [Act.put, List.setIfInBounds_toArray, List.set_cons_zero, List.set_cons_succ]
  conv => arg 4; whnf
  conv => arg 4; arg 1; whnf
  refine pt_free (by rfl) (fun K hK => ?_)
  go_big_quiet_op
  first | (refine hK _ ?_; clear hK K) | (refine ⟨_, fun _ _ => rfl, hK _ ?_⟩; clear hK K)
  conv => arg 4; whnf
  conv => arg 4; arg 1; whnf
  refine pt_free (by rfl) (fun K hK => ?_)
  go_big_quiet_op
  first | (refine hK _ ?_; clear hK K) | (refine ⟨_, fun _ _ => rfl, hK _ ?_⟩; clear hK K)
  conv => arg 4; whnf
  conv => arg 4; arg 1; whnf
  refine pt_load (fun W h => load_q _ _ W h) (p := ⟨Q, 0, none⟩) hq hQl (by rfl) rfl rfl ?_
  simp only [Act.put, List.setIfInBounds_toArray, List.set_cons_zero, List.set_cons_succ]
  conv => arg 4; whnf
  conv => arg 4; arg 1; whnf
  refine pt_free (by rfl) (fun K hK => ?_)
  go_big_quiet_op
  first | (refine hK _ ?_; clear hK K) | (refine ⟨_, fun _ _ => rfl, hK _ ?_⟩; clear hK K)
  conv => arg 4; whnf
  conv => arg 4; arg 1; whnf
  refine pt_free (by rfl) (fun K hK => ?_)
  go_big_quiet_op
  first | (refine hK _ ?_; clear hK K) | (refine ⟨_, fun _ _ => rfl, hK _ ?_⟩; clear hK K)
  conv => arg 4; whnf
  conv => arg 4; arg 1; whnf
  refine pt_loadX (fun W hW => load_nd _ _ _ _ W ((hW.cell hgl).trans a0) ((hW.cell hgl).trans a1)) (by rfl) rfl rfl ?_
  simp only [Act.put, List.setIfInBounds_toArray, List.set_cons_zero, List.set_cons_succ]
  conv => arg 4; whnf
  conv => arg 4; arg 1; whnf
  refine pt_free (by rfl) (fun K hK => ?_)
  go_big_quiet_op
  first | (refine hK _ ?_; clear hK K) | (refine ⟨_, fun _ _ => rfl, hK _ ?_⟩; clear hK K)
  conv => arg 4; whnf
  conv => arg 4; arg 1; whnf
  refine pt_pure (by rfl) (fun K hK => ?_)
  go_big_quiet_op
  first | (refine hK _ ?_; clear hK K) | (refine ⟨_, fun _ _ => rfl, hK _ ?_⟩; clear hK K)
  conv => arg 4; whnf
  conv => arg 4; arg 1; whnf
  refine pt_last (by rfl) (fun K hK => ?_)
  go_wp2
  conv => arg 4; whnf
  conv => arg 4; arg 1; whnf
  refine pt_last (by rfl) (fun K hK => ?_)
  go_wp2
  conv => arg 4; whnf
  conv => arg 4; arg 1; whnf
  refine pt_last (by rfl) (fun K hK => ?_)
  go_wp2
  refine pt_nil ?_
  go_wp2
  refine bodyPost_ret (v := .tuple #[]) (by simp [results, Try.f55]) rfl ?_
  exact ⟨_, rfl, H2.out, by rw [HN.out]; exact (((hm.set (p := ⟨g, i * 2, none⟩) (.inr (.inl rfl)) _).set (p := ⟨g, i * 2 + 1, none⟩) (.inr (.inl rfl)) _).set (p := ⟨g, k * 2, none⟩) (.inr (.inl rfl)) _).set (p := ⟨g, k * 2 + 1, none⟩) (.inr (.inl rfl)) _⟩
theorem froz {w1 : World} {g : Nat} {cs : Array Value} {t : TypeId} (z : w1.heap[g]? = some (.cells cs t (0, 0))) (j : Nat) : w1.frozen? ⟨g, j, none⟩ = false := by simp [World.frozen?, z]
theorem two_store {w1 : World} {g : Nat} {a b x y : Value} {t : TypeId} {fr : Nat × Nat} (z : w1.heap[g]? = some (.cells #[a, b] t fr)) : ((w1.setCell ⟨g, 0, none⟩ x).setCell ⟨g, 1, none⟩ y).heap[g]? = some (.cells #[x, y] t fr) := by
  simp [World.setCell, Array.getElem?_modify, z]
/-- behind a store at Q -/
theorem QS.put {w : World} {Q base : Nat} {v v' : Value} {L' : List Nd} (h : w.heap[Q]? = some (.cells #[v] 47 (0, 0))) (ho : w.ownsRow base 45 2 v' L'.length (cells2 L')) : QS (w.setCell ⟨Q, 0, none⟩ v') Q base v' L' := by
  refine ⟨by simp [World.setCell, Array.getElem?_modify, h], ?_⟩
  refine ⟨ho.1, ?_⟩
  rcases ho.2 with k | ⟨g, cap, cur, hv, hg, hh, r⟩
  · exact .inl k
  · refine .inr ⟨g, cap, cur, hv, hg, ?_, r⟩
    have hne : Q ≠ g := by
      intro e
      subst e
      rw [h] at hh
      injection hh with hh
      injection hh with _ hh
      exact absurd hh (by decide)
    simp [World.setCell, Array.getElem?_modify, hne, hh]
theorem own_take2 {w : World} {base : Nat} {g n c m : Nat} {L : List Nd} (h : w.ownsRow base 45 2 (.slice (some ⟨g, 0, none⟩) n c) n (cells2 L)) (hm : m ≤ n) (hL : L.length = n) : w.ownsRow base 45 2 (.slice (some ⟨g, 0, none⟩) m c) m (cells2 (L.take m)) := by
  obtain ⟨hlen, hh⟩ := h
  rcases hh with ⟨hv, _⟩ | ⟨g', cap', cur, hv, hb, hh, h1, h2, h3, h4⟩
  · cases hv
  · injection hv with hv1 hv2 hv3
    injection hv1 with hv1
    injection hv1 with hv1
    subst hv1; subst hv3
    refine ⟨by rw [cells2_len, List.length_take]; omega, .inr ⟨g, c, cur, rfl, hb, hh, by omega, h2, h3, ?_⟩⟩
    rw [cells2_take, ← h4, List.take_take]
    congr 1
    omega
set_option maxRecDepth 100000 in
set_option maxHeartbeats 1000000 in
theorem qpop_any (w : World) (Q base : Nat) (v : Value) (L : List Nd) (h : QS w Q base v L) (m : Nat) (x : Nd) (hL : L.length = m + 1) (hx : L[m]? = some x) (hm63 : m ≤ 1000000) :
    Calls Try.prog 53 #[.pointer (some ⟨Q, 0, none⟩)] w (QPost Q base w v (L.take m) (.iface 45 (.agg #[.string x.1, .int .i64 x.2]))) := by
  go_enter Try.func53, Try.ntmps53
  go_wp2_with fail
  refine wp_region_tree [11] (.free 0 (.free 1 (.free 2 (.free 3 (.free 4 (.free 5 (.free 6 (.free 7 (.free 8 (.free 9 (.eff 10 (.last 11 .nil)))))))))))) (by kernel_rfl) (by kernel_rfl) (fun _ _ d _ _ h => by cases d <;> exact h) ?_
  obtain ⟨W, hW⟩ : ∃ W, W = w.drew := ⟨_, rfl⟩
  rw [← hW]
  have hm : QM Q w v W v := by rw [hW]; exact QM.of_below (Below.refl _ _).drew
  have h : QS W Q base v L := by rw [hW]; exact ⟨h.cell, h.own⟩
  clear hW
  obtain ⟨g, c, rfl, hc, hil, hgl, hgq, a0, a1, _⟩ := h.elem hx
  have hq := h.q0
  have hQl := h.lt
  rw [hL] at hc hil hq hm
  have HS := Lib.hid h
  have HL := Lib.hid hL
  have e1 : ((m + 1 : Nat) : Int) - 1 = (m : Int) := by omega
  clear h hx hL
  conv => arg 4; whnf
  conv => arg 4; arg 1; whnf
  refine pt_free (by rfl) (fun K hK => ?_)
  go_big_quiet_op
  first | (refine hK _ ?_; clear hK K) | (refine ⟨_, fun _ _ => rfl, hK _ ?_⟩; clear hK K)
  conv => arg 4; whnf
  conv => arg 4; arg 1; whnf
  refine pt_free (by rfl) (fun K hK => ?_)
  go_big_quiet_op
  first | (refine hK _ ?_; clear hK K) | (refine ⟨_, fun _ _ => rfl, hK _ ?_⟩; clear hK K)
  conv => arg 4; whnf
  conv => arg 4; arg 1; whnf
  refine pt_load (fun W h => load_q _ _ W h) (p := ⟨Q, 0, none⟩) hq hQl (by rfl) rfl rfl ?_
  simp only [Act.put, List.setIfInBounds_toArray, List.set_cons_zero, List.set_cons_succ]
  conv => arg 4; whnf
  conv => arg 4; arg 1; whnf
  refine pt_free (by rfl) (fun K hK => ?_)
  go_big_quiet_op
  first | (refine hK _ ?_; clear hK K) | (refine ⟨_, fun _ _ => rfl, hK _ ?_⟩; clear hK K)
  conv => arg 4; whnf
  conv => arg 4; arg 1; whnf
  refine pt_free (by rfl) (fun K hK => ?_)
  go_big_quiet_op
  first | (refine hK _ ?_; clear hK K) | (refine ⟨_, fun _ _ => rfl, hK _ ?_⟩; clear hK K)
  conv => arg 4; whnf
  conv => arg 4; arg 1; whnf
  refine pt_load (fun W h => load_q _ _ W h) (p := ⟨Q, 0, none⟩) hq hQl (by rfl) rfl rfl ?_
  simp only [Act.put, List.setIfInBounds_toArray, List.set_cons_zero, List.set_cons_succ]
  conv => arg 4; whnf
  conv => arg 4; arg 1; whnf
  refine pt_free (by rfl) (fun K hK => ?_)
  go_big_quiet_op
  first | (refine hK _ ?_; clear hK K) | (refine ⟨_, fun _ _ => rfl, hK _ ?_⟩; clear hK K)
  conv => arg 4; whnf
  conv => arg 4; arg 1; whnf
  refine pt_free (by rfl) (fun K hK => ?_)
  go_big_quiet_op
  first | (refine hK _ ?_; clear hK K) | (refine ⟨_, fun _ _ => rfl, hK _ ?_⟩; clear hK K)
  conv => arg 4; whnf
  conv => arg 4; arg 1; whnf
  refine pt_free (by rfl) (fun K hK => ?_)
  go_big_quiet_op
  first | (refine hK _ ?_; clear hK K) | (refine ⟨_, fun _ _ => rfl, hK _ ?_⟩; clear hK K)
  conv => arg 4; whnf
  conv => arg 4; arg 1; whnf
  refine pt_loadX (fun W hW => load_nd _ _ _ _ W ((hW.cell hgl).trans a0) ((hW.cell hgl).trans a1)) (by rfl) rfl rfl ?_
  simp only [Act.put, List.setIfInBounds_toArray, List.set_cons_zero, List.set_cons_succ]
  clear hq a0 a1
  conv => arg 4; whnf
  conv => arg 4; arg 1; whnf
  refine pt_eff (by rfl) (fun K hK => ?_)
  go_wp2
  refine hK _ _ ((Below.refl _ _).alloc (Nat.le_refl _) _) ?_
  clear hK K
  have hX := heap_alloc_new W (.cells #[.string ⟨#[]⟩, .int .i64 0] 45)
  obtain ⟨n0, n1⟩ := two2 hX
  have z0 := froz hX 0
  have z1 := froz hX 1
  conv => arg 4; whnf
  conv => arg 4; arg 1; whnf
  refine pt_last (by rfl) (fun K hK => ?_)
  go_wp2
  refine pt_nil ?_
  clear n0 n1 z0 z1 hX
  have hb2 : Below W.heap.size W (W.alloc (.cells #[.string x.1, .int .i64 x.2] 45)) := (Below.refl _ _).alloc (Nat.le_refl _) _
  have hX := heap_alloc_new W (.cells #[.string x.1, .int .i64 x.2] 45)
  go_wp2_with fail
  obtain ⟨X, hXe⟩ : ∃ X, W.heap.size = X := ⟨_, rfl⟩
  obtain ⟨W2, hW2⟩ : ∃ W2, W2 = W.alloc (.cells #[.string x.1, .int .i64 x.2] 45) := ⟨_, rfl⟩
  rw [← hW2] at hb2 hX ⊢
  rw [hXe] at hX ⊢
  have hQX : Q < X := by omega
  have h2 := HS.out.below hb2
  have hm2 := hm.below hb2
  clear hW2 hXe hb2 hm HS
  refine wp_region_tree [11] (.free 0 (.free 1 (.free 2 (.free 3 (.free 4 (.free 5 (.free 6 (.free 7 (.free 8 (.free 9 (.free 10 (.last 11 .nil)))))))))))) (by kernel_rfl) (by kernel_rfl) (fun _ _ d _ _ h => by cases d <;> exact h) ?_
  obtain ⟨W3, hW3⟩ : ∃ W3, W3 = W2.drew := ⟨_, rfl⟩
  rw [← hW3]
  have hm3 : QM Q w (.slice (some ⟨g, 0, none⟩) (m + 1) c) W3 (.slice (some ⟨g, 0, none⟩) (m + 1) c) := by rw [hW3]; exact hm2.below (Below.refl _ _).drew
  have h3 : QS W3 Q base (.slice (some ⟨g, 0, none⟩) L.length c) L := by rw [hW3]; exact ⟨h2.cell, h2.own⟩
  have hX3 : W3.heap[X]? = some (.cells #[.string x.1, .int .i64 x.2] 45 (0, 0)) := by rw [hW3]; exact hX
  clear hW3 hm2 h2 hX
  have h4 := QS.put (L' := L.take m) h3.cell (by rw [List.length_take, HL.out, Nat.min_eq_left (Nat.le_succ m)]; exact own_take2 h3.own (by rw [HL.out]; omega) rfl)
  have H4 := Lib.hid h4
  have hq := h3.q0
  have hqf := h3.q0f
  have hQl := h3.lt
  have hX4 : (W3.setCell ⟨Q, 0, none⟩ (.slice (some ⟨g, 0, none⟩) m c)).heap[X]? = some (.cells #[.string x.1, .int .i64 x.2] 45 (0, 0)) := by simp [World.setCell, Array.getElem?_modify, hX3, Nat.ne_of_lt hQX]
  rw [HL.out] at hq
  clear h4 h3 hX3
  conv => arg 4; whnf
  conv => arg 4; arg 1; whnf
  refine pt_free (by rfl) (fun K hK => ?_)
  go_big_quiet_op
  first | (refine hK _ ?_; clear hK K) | (refine ⟨_, fun _ _ => rfl, hK _ ?_⟩; clear hK K)
  conv => arg 4; whnf
  conv => arg 4; arg 1; whnf
  refine pt_free (by rfl) (fun K hK => ?_)
  go_big_quiet_op
  first | (refine hK _ ?_; clear hK K) | (refine ⟨_, fun _ _ => rfl, hK _ ?_⟩; clear hK K)
  conv => arg 4; whnf
  conv => arg 4; arg 1; whnf
  refine pt_free (by rfl) (fun K hK => ?_)
  go_big_quiet_op
  first | (refine hK _ ?_; clear hK K) | (refine ⟨_, fun _ _ => rfl, hK _ ?_⟩; clear hK K)
  conv => arg 4; whnf
  conv => arg 4; arg 1; whnf
  refine pt_load (fun W h => load_q _ _ W h) (p := ⟨Q, 0, none⟩) hq hQl (by rfl) rfl rfl ?_
  simp only [Act.put, List.setIfInBounds_toArray, List.set_cons_zero, List.set_cons_succ]
  conv => arg 4; whnf
  conv => arg 4; arg 1; whnf
  refine pt_free (by rfl) (fun K hK => ?_)
  go_big_quiet_op
  first | (refine hK _ ?_; clear hK K) | (refine ⟨_, fun _ _ => rfl, hK _ ?_⟩; clear hK K)
  conv => arg 4; whnf
  conv => arg 4; arg 1; whnf
  refine pt_free (by rfl) (fun K hK => ?_)
  go_big_quiet_op
  first | (refine hK _ ?_; clear hK K) | (refine ⟨_, fun _ _ => rfl, hK _ ?_⟩; clear hK K)
  conv => arg 4; whnf
  conv => arg 4; arg 1; whnf
  refine pt_load (fun W h => load_q _ _ W h) (p := ⟨Q, 0, none⟩) hq hQl (by rfl) rfl rfl ?_
  simp only [Act.put, List.setIfInBounds_toArray, List.set_cons_zero, List.set_cons_succ]
  conv => arg 4; whnf
  conv => arg 4; arg 1; whnf
  refine pt_free (by rfl) (fun K hK => ?_)
  go_big_quiet_op
  first | (refine hK _ ?_; clear hK K) | (refine ⟨_, fun _ _ => rfl, hK _ ?_⟩; clear hK K)
  conv => arg 4; whnf
  conv => arg 4; arg 1; whnf
  refine pt_free (by rfl) (fun K hK => ?_)
  go_big_quiet_op
  first | (refine hK _ ?_; clear hK K) | (refine ⟨_, fun _ _ => rfl, hK _ ?_⟩; clear hK K)
  conv => arg 4; whnf
  conv => arg 4; arg 1; whnf
  refine pt_free (by rfl) (fun K hK => ?_)
  go_big_quiet_op
  first | (refine hK _ ?_; clear hK K) | (refine ⟨_, fun _ _ => rfl, hK _ ?_⟩; clear hK K)
  conv => arg 4; whnf
  conv => arg 4; arg 1; whnf
  refine pt_free (by rfl) (fun K hK => ?_)
  go_big_quiet_op
  first | (refine hK _ ?_; clear hK K) | (refine ⟨_, fun _ _ => rfl, hK _ ?_⟩; clear hK K)
  conv => arg 4; whnf
  conv => arg 4; arg 1; whnf
  refine pt_last (by rfl) (fun K hK => ?_)
  go_wp2
  refine pt_nil ?_
  obtain ⟨n0, n1⟩ := two2 hX4
  go_wp2
  go_ret
  refine ⟨_, rfl, H4.out, ?_⟩
  rw [HL.out]
  have hm4 := hm3.set (p := ⟨Q, 0, none⟩) (.inl rfl) (.slice (some ⟨g, 0, none⟩) m c)
  exact hm4.trans ⟨fun _ _ => trivial, rfl, rfl, rfl, Nat.le_refl _, fun _ _ _ _ => rfl, .inl rfl⟩
end Go.Proofs.Ytfhgnolfhiffbaa
