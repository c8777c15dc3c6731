/- The walk of ValErrors. Written by valerrgen.py. -/
import Derived.Test.YtejpfpklgkcagaaDoorValTwo
import Derived.Test.YtejpfpklgkcagaaDoorPlanT
namespace Go.Proofs.YtejpfpklgkcagaaDoor
open Go.RowKit Go.Maps

theorem load_val (k : Nat) (W : World) (a b c : Value) (h : W.heap[k]? = some (.cells #[a, b, c] 24 (0, 0))) :
    (Instr.loadAt 24 (.pointer (some ⟨k, 0, none⟩))).run Tryd.prog W = .ok (.agg #[a, b, c]) W := by
  obtain ⟨h0, h1, h2, _⟩ := val3 h
  simp [go_sem, h0, h1, h2]
theorem pt_loadB {P : Program} {ops : Array Oper} {Q : Exit → Act → World → Prop} {a : Act} {w : World} {o : Oper} {t : PTo} {T : TypeId} {x : Operand} {k : Nat} {v : Value} (hrun : ∀ W, W.heap[k]? = w.heap[k]? → (Instr.loadAt T (.pointer (some ⟨k, 0, none⟩))).run P W = .ok v W) (hlt : k < w.heap.size)
    (hw : Region.wanted o (yielded ops a.tmps) = true) (ho : o.op = .load T x) (hx : a.eval x = .pointer (some ⟨k, 0, none⟩)) (h2 : PlannedT P ops Q t (a.put o.dst v) w) : PlannedT P ops Q (.free o t) a w := by
  refine pt_at hw (fun W hW => ?_) h2
  unfold execOp
  rw [ho]
  simp only [hx, Sem.run_bind, hrun W (hW.block k hlt), Result.andThen_ok]
  rfl

def MadePost (w : World) (p : Int → Prop) (e : Ending) (w' : World) : Prop := ∃ k n s, e = .returned (.agg #[.int .i64 k, .int .i64 n, .string s]) ∧ p k ∧ Below w.heap.size w w'
theorem and1023 : ∀ n : Nat, n < 256 → bits .and .i64 (n : Int) 1023 = n := by decide +kernel
set_option maxRecDepth 100000 in
theorem make_err (w : World) (n : Nat) (s : ByteArray) (hn : n < 256) : Calls Tryd.prog 10 #[.int .u8 4, .int .i64 n, .string s] w (MadePost w (fun k => k = 4)) := by
  have hb := and1023 n hn
  have hw : IntKind.i64.wrap (n : Int) = n := by simp [IntKind.wrap, IntKind.signed, IntKind.bits]; omega
  go_enter Tryd.func10, Tryd.ntmps10
  go_wp2
  refine bodyPost_ret (v := .agg #[.int .i64 4, .int .i64 (1 + (n : Int) % 6), .string ⟨#[]⟩]) ?_ rfl ?_
  · simp [results, Tryd.f10, go_sem]
  · exact ⟨4, _, _, rfl, rfl, (Below.refl _ _).alloc (Nat.le_refl _) _⟩
set_option maxRecDepth 100000 in
theorem make_low (w : World) (k : Nat) (n : Int) (hk : k < 4) : Calls Tryd.prog 10 #[.int .u8 k, .int .i64 n, .string ⟨#[116]⟩] w (MadePost w (fun k => k ≠ 4)) := by
  rcases (show k = 0 ∨ k = 1 ∨ k = 2 ∨ k = 3 by omega) with rfl | rfl | rfl | rfl
  · go_enter Tryd.func10, Tryd.ntmps10
    go_wp2
    refine bodyPost_ret (v := .agg #[.int .i64 0, .int .i64 0, .string ⟨#[]⟩]) ?_ rfl ?_
    · simp [results, Tryd.f10, go_sem]
    · exact ⟨0, _, _, rfl, by decide, (Below.refl _ _).alloc (Nat.le_refl _) _⟩
  · go_enter Tryd.func10, Tryd.ntmps10
    go_wp2
    refine bodyPost_ret (v := .agg #[.int .i64 1, .int .i64 n, .string ⟨#[]⟩]) ?_ rfl ?_
    · simp [results, Tryd.f10, go_sem]
    · exact ⟨1, _, _, rfl, by decide, (Below.refl _ _).alloc (Nat.le_refl _) _⟩
  · go_enter Tryd.func10, Tryd.ntmps10
    go_wp2
    refine bodyPost_ret (v := .agg #[.int .i64 2, .int .i64 0, .string ⟨#[116]⟩]) ?_ rfl ?_
    · simp [results, Tryd.f10, go_sem]
    · exact ⟨2, _, _, rfl, by decide, (Below.refl _ _).alloc (Nat.le_refl _) _⟩
  · go_enter Tryd.func10, Tryd.ntmps10
    go_wp2
    refine bodyPost_ret (v := .agg #[.int .i64 3, .int .i64 (bits .and .i64 n 1), .string ⟨#[]⟩]) ?_ rfl ?_
    · simp [results, Tryd.f10, go_sem]
    · exact ⟨3, _, _, rfl, by decide, (Below.refl _ _).alloc (Nat.le_refl _) _⟩

set_option maxRecDepth 100000 in
set_option maxHeartbeats 4000000 in
theorem valErrors_walk (w : World) (o0 e0 f0 k0 n : Int) (h1 : (Lit.int .u8 o0).wf = true) (h2 : (Lit.int .u8 e0).wf = true) (h3 : (Lit.int .u8 f0).wf = true) (h4 : (Lit.int .u8 k0).wf = true) (_ : (Lit.int .i64 n).wf = true) :
    Calls Tryd.prog 7 #[.int .u8 o0, .int .u8 e0, .int .u8 f0, .int .u8 k0, .int .i64 n] w fun e w' => e = .returned (.bool true) ∧ Below w.heap.size w w' := by
  have nat8 : ∀ z : Int, (Lit.int .u8 z).wf = true → ∃ q : Nat, z = (q : Int) ∧ q < 256 := fun z h => by
    simp [Lit.wf, IntKind.min, IntKind.max, IntKind.signed, IntKind.bits] at h; exact ⟨z.toNat, by omega, by omega⟩
  have wr8 : ∀ q : Nat, q < 256 → IntKind.i64.wrap (q : Int) = q := fun q h => by simp [IntKind.wrap, IntKind.signed, IntKind.bits]; omega
  obtain ⟨o, rfl, ho⟩ := nat8 o0 h1
  obtain ⟨e, rfl, he⟩ := nat8 e0 h2
  obtain ⟨f, rfl, hf⟩ := nat8 f0 h3
  obtain ⟨k, rfl, hk⟩ := nat8 k0 h4
  have w1 := wr8 o ho
  have w2 := wr8 e he
  have w3 := wr8 f hf
  obtain ⟨k4, hk4⟩ : ∃ k4 : Nat, k4 = k % 4 := ⟨_, rfl⟩
  have q4 : (k : Int) % 4 = (k4 : Int) := by omega
  have hk44 : k4 < 4 := by omega
  clear h1 h2 h3 h4 nat8 wr8 hk4
  go_enter Tryd.func7, Tryd.ntmps7
  go_wp2_with fail
  refine (make_err w e ⟨#[]⟩ he).mono ?_
  rintro e1 v1 ⟨ka, na, sa, rfl, rfl, hb1⟩
  go_wp2_with fail
  refine (make_err v1 f ⟨#[]⟩ hf).mono ?_
  rintro e2 v2 ⟨kb, nb, sb, rfl, rfl, hb2⟩
  go_wp2_with fail
  refine (make_low v2 k4 n hk44).mono ?_
  rintro e3 v3 ⟨kc, nc, sc, rfl, hkc, hb3⟩
  have hb4 := hb1.trans ((hb2.trans (hb3.mono hb2.size)).mono hb1.size)
  have hs4 := hb4.size
  clear hb1 hb2 hb3
  go_wp2
  obtain ⟨W, hW⟩ : ∃ W, W = ((v3.alloc (.cells #[.int .i64 4, .int .i64 na, .string sa] 24)).alloc (.cells #[.int .i64 4, .int .i64 nb, .string sb] 24)).alloc (.cells #[.int .i64 kc, .int .i64 nc, .string sc] 24) := ⟨_, rfl⟩
  have hs0 := heap_alloc_new v3 (.cells #[.int .i64 4, .int .i64 na, .string sa] 24)
  have hs1 := heap_alloc_new (v3.alloc (.cells #[.int .i64 4, .int .i64 na, .string sa] 24)) (.cells #[.int .i64 4, .int .i64 nb, .string sb] 24)
  have hs2 := heap_alloc_new ((v3.alloc (.cells #[.int .i64 4, .int .i64 na, .string sa] 24)).alloc (.cells #[.int .i64 4, .int .i64 nb, .string sb] 24)) (.cells #[.int .i64 kc, .int .i64 nc, .string sc] 24)
  rw [World.size_alloc] at hs1
  rw [World.size_alloc, World.size_alloc] at hs2
  have hX : W.heap[v3.heap.size]? = some (.cells #[.int .i64 4, .int .i64 na, .string sa] 24 (0, 0)) := by rw [hW]; exact (Below.heap_alloc _ _ _ (by simp; omega)).trans ((Below.heap_alloc _ _ _ (by simp)).trans hs0)
  have hY : W.heap[v3.heap.size + 1]? = some (.cells #[.int .i64 4, .int .i64 nb, .string sb] 24 (0, 0)) := by rw [hW]; exact (Below.heap_alloc _ _ _ (by simp)).trans hs1
  have hZ : W.heap[v3.heap.size + 1 + 1]? = some (.cells #[.int .i64 kc, .int .i64 nc, .string sc] 24 (0, 0)) := by rw [hW]; exact hs2
  have hbw : Below w.heap.size w W := by rw [hW]; exact ((hb4.alloc hs4 _).alloc (by simp; omega) _).alloc (by simp; omega) _
  obtain ⟨PX, hPX⟩ : ∃ PX, v3.heap.size = PX := ⟨_, rfl⟩
  rw [← hW]
  rw [hPX] at hX hY hZ ⊢
  clear hW hs0 hs1 hs2 hPX hb4 hs4
  have sts := str_eq_true (rfl : sa = sa)
  have stt := str_eq_true (rfl : sb = sb)
  refine wp_region_tree [] (.free 0 (.free 1 (.free 2 (.free 4 (.eff 3 (.free 5 (.free 6 (.free 7 (.free 8 (.free 9 (.free 11 (.eff 10 (.free 12 (.free 13 (.free 14 (.free 15 (.free 16 (.free 17 (.free 19 (.eff 18 (.free 20 (.free 21 (.free 22 (.free 23 (.free 25 (.eff 24 (.free 26 (.free 27 (.free 28 (.eff 29 (.free 30 (.free 31 (.nil))))))))))))))))))))))))))))))))) (by kernel_rfl) (by kernel_rfl) (fun _ _ d _ _ h => by cases d <;> exact h) ?_
  have hbw := hbw.drew
  have hX : W.drew.heap[PX]? = _ := hX
  have hY : W.drew.heap[PX + 1]? = _ := hY
  have hZ : W.drew.heap[PX + 1 + 1]? = _ := hZ
  generalize W.drew = wv at *
  have hXl : PX < wv.heap.size := (Array.getElem?_eq_some_iff.1 hX).1
  have hYl : PX + 1 < wv.heap.size := (Array.getElem?_eq_some_iff.1 hY).1
  have hZl : PX + 1 + 1 < wv.heap.size := (Array.getElem?_eq_some_iff.1 hZ).1
  conv => arg 4; whnf
  conv => arg 4; arg 1; whnf
  refine pt_free (by rfl) (fun K hK => ?_)
  go_big_quiet_op
  first | (refine hK _ ?_; clear hK K) | (refine ⟨_, fun _ _ => rfl, hK _ ?_⟩; clear hK K)
  conv => arg 4; whnf
  conv => arg 4; arg 1; whnf
  refine pt_loadB (k := PX) (fun W h => load_val _ W _ _ _ (h.trans hX)) hXl (by rfl) rfl rfl ?_
  simp only [Act.put, List.setIfInBounds_toArray, List.set_cons_zero, List.set_cons_succ]
  conv => arg 4; whnf
  conv => arg 4; arg 1; whnf
  refine pt_loadB (k := PX + 1) (fun W h => load_val _ W _ _ _ (h.trans hY)) hYl (by rfl) rfl rfl ?_
  simp only [Act.put, List.setIfInBounds_toArray, List.set_cons_zero, List.set_cons_succ]
  conv => arg 4; whnf
  conv => arg 4; arg 1; whnf
  refine pt_loadB (k := PX) (fun W h => load_val _ W _ _ _ (h.trans hX)) hXl (by rfl) rfl rfl ?_
  simp only [Act.put, List.setIfInBounds_toArray, List.set_cons_zero, List.set_cons_succ]
  conv => arg 4; whnf
  conv => arg 4; arg 1; whnf
  refine pt_eff (by rfl) (fun K hK => ?_)
  go_wp2_with fail
  refine (two_errL _ _ na _ _ sa sb).mono ?_
  rintro en wn ⟨rfl, hbn⟩
  refine hK _ _ hbn ?_
  clear hK K
  have hbw := hbw.trans (hbn.mono hbw.size)
  have hX := (hbn.block _ hXl).trans hX
  have hY := (hbn.block _ hYl).trans hY
  have hZ := (hbn.block _ hZl).trans hZ
  clear hXl hYl hZl hbn
  generalize wn = wv at *
  have hXl : PX < wv.heap.size := (Array.getElem?_eq_some_iff.1 hX).1
  have hYl : PX + 1 < wv.heap.size := (Array.getElem?_eq_some_iff.1 hY).1
  have hZl : PX + 1 + 1 < wv.heap.size := (Array.getElem?_eq_some_iff.1 hZ).1
  conv => arg 4; whnf
  conv => arg 4; arg 1; whnf
  refine pt_free (by rfl) (fun K hK => ?_)
  go_big_quiet_op
  first | (refine hK _ ?_; clear hK K) | (refine ⟨_, fun _ _ => rfl, hK _ ?_⟩; clear hK K)
  conv => arg 4; whnf
  conv => arg 4; arg 1; whnf
  refine pt_free (by rfl) (fun K hK => ?_)
  go_big_quiet_op
  first | (refine hK _ ?_; clear hK K) | (refine ⟨_, fun _ _ => rfl, hK _ ?_⟩; clear hK K)
  conv => arg 4; whnf
  conv => arg 4; arg 1; whnf
  refine pt_free (by rfl) (fun K hK => ?_)
  go_big_quiet_op
  first | (refine hK _ ?_; clear hK K) | (refine ⟨_, fun _ _ => rfl, hK _ ?_⟩; clear hK K)
  conv => arg 4; whnf
  conv => arg 4; arg 1; whnf
  refine pt_loadB (k := PX) (fun W h => load_val _ W _ _ _ (h.trans hX)) hXl (by rfl) rfl rfl ?_
  simp only [Act.put, List.setIfInBounds_toArray, List.set_cons_zero, List.set_cons_succ]
  conv => arg 4; whnf
  conv => arg 4; arg 1; whnf
  refine pt_loadB (k := PX + 1 + 1) (fun W h => load_val _ W _ _ _ (h.trans hZ)) hZl (by rfl) rfl rfl ?_
  simp only [Act.put, List.setIfInBounds_toArray, List.set_cons_zero, List.set_cons_succ]
  conv => arg 4; whnf
  conv => arg 4; arg 1; whnf
  refine pt_loadB (k := PX) (fun W h => load_val _ W _ _ _ (h.trans hX)) hXl (by rfl) rfl rfl ?_
  simp only [Act.put, List.setIfInBounds_toArray, List.set_cons_zero, List.set_cons_succ]
  conv => arg 4; whnf
  conv => arg 4; arg 1; whnf
  refine pt_eff (by rfl) (fun K hK => ?_)
  go_wp2_with fail
  refine (two_errL _ _ na _ _ sa sc).mono ?_
  rintro en wn ⟨rfl, hbn⟩
  refine hK _ _ hbn ?_
  clear hK K
  have hbw := hbw.trans (hbn.mono hbw.size)
  have hX := (hbn.block _ hXl).trans hX
  have hY := (hbn.block _ hYl).trans hY
  have hZ := (hbn.block _ hZl).trans hZ
  clear hXl hYl hZl hbn
  generalize wn = wv at *
  have hXl : PX < wv.heap.size := (Array.getElem?_eq_some_iff.1 hX).1
  have hYl : PX + 1 < wv.heap.size := (Array.getElem?_eq_some_iff.1 hY).1
  have hZl : PX + 1 + 1 < wv.heap.size := (Array.getElem?_eq_some_iff.1 hZ).1
  conv => arg 4; whnf
  conv => arg 4; arg 1; whnf
  refine pt_free (by rfl) (fun K hK => ?_)
  go_big_quiet_op
  first | (refine hK _ ?_; clear hK K) | (refine ⟨_, fun _ _ => rfl, hK _ ?_⟩; clear hK K)
  conv => arg 4; whnf
  conv => arg 4; arg 1; whnf
  refine pt_free (by rfl) (fun K hK => ?_)
  go_big_quiet_op
  first | (refine hK _ ?_; clear hK K) | (refine ⟨_, fun _ _ => rfl, hK _ ?_⟩; clear hK K)
  conv => arg 4; whnf
  conv => arg 4; arg 1; whnf
  refine pt_free (by rfl) (fun K hK => ?_)
  go_big_quiet_op
  first | (refine hK _ ?_; clear hK K) | (refine ⟨_, fun _ _ => rfl, hK _ ?_⟩; clear hK K)
  conv => arg 4; whnf
  conv => arg 4; arg 1; whnf
  refine pt_free (by rfl) (fun K hK => ?_)
  go_big_quiet_op
  first | (refine hK _ ?_; clear hK K) | (refine ⟨_, fun _ _ => rfl, hK _ ?_⟩; clear hK K)
  conv => arg 4; whnf
  conv => arg 4; arg 1; whnf
  refine pt_loadB (k := PX + 1 + 1) (fun W h => load_val _ W _ _ _ (h.trans hZ)) hZl (by rfl) rfl rfl ?_
  simp only [Act.put, List.setIfInBounds_toArray, List.set_cons_zero, List.set_cons_succ]
  conv => arg 4; whnf
  conv => arg 4; arg 1; whnf
  refine pt_loadB (k := PX + 1) (fun W h => load_val _ W _ _ _ (h.trans hY)) hYl (by rfl) rfl rfl ?_
  simp only [Act.put, List.setIfInBounds_toArray, List.set_cons_zero, List.set_cons_succ]
  conv => arg 4; whnf
  conv => arg 4; arg 1; whnf
  refine pt_loadB (k := PX + 1) (fun W h => load_val _ W _ _ _ (h.trans hY)) hYl (by rfl) rfl rfl ?_
  simp only [Act.put, List.setIfInBounds_toArray, List.set_cons_zero, List.set_cons_succ]
  conv => arg 4; whnf
  conv => arg 4; arg 1; whnf
  refine pt_eff (by rfl) (fun K hK => ?_)
  go_wp2_with fail
  refine (two_errR _ _ _ _ nb sc sb hkc).mono ?_
  rintro en wn ⟨rfl, hbn⟩
  refine hK _ _ hbn ?_
  clear hK K
  have hbw := hbw.trans (hbn.mono hbw.size)
  have hX := (hbn.block _ hXl).trans hX
  have hY := (hbn.block _ hYl).trans hY
  have hZ := (hbn.block _ hZl).trans hZ
  clear hXl hYl hZl hbn
  generalize wn = wv at *
  have hXl : PX < wv.heap.size := (Array.getElem?_eq_some_iff.1 hX).1
  have hYl : PX + 1 < wv.heap.size := (Array.getElem?_eq_some_iff.1 hY).1
  have hZl : PX + 1 + 1 < wv.heap.size := (Array.getElem?_eq_some_iff.1 hZ).1
  conv => arg 4; whnf
  conv => arg 4; arg 1; whnf
  refine pt_free (by rfl) (fun K hK => ?_)
  go_big_quiet_op
  first | (refine hK _ ?_; clear hK K) | (refine ⟨_, fun _ _ => rfl, hK _ ?_⟩; clear hK K)
  conv => arg 4; whnf
  conv => arg 4; arg 1; whnf
  refine pt_free (by rfl) (fun K hK => ?_)
  go_big_quiet_op
  first | (refine hK _ ?_; clear hK K) | (refine ⟨_, fun _ _ => rfl, hK _ ?_⟩; clear hK K)
  conv => arg 4; whnf
  conv => arg 4; arg 1; whnf
  refine pt_free (by rfl) (fun K hK => ?_)
  go_big_quiet_op
  first | (refine hK _ ?_; clear hK K) | (refine ⟨_, fun _ _ => rfl, hK _ ?_⟩; clear hK K)
  conv => arg 4; whnf
  conv => arg 4; arg 1; whnf
  refine pt_loadB (k := PX) (fun W h => load_val _ W _ _ _ (h.trans hX)) hXl (by rfl) rfl rfl ?_
  simp only [Act.put, List.setIfInBounds_toArray, List.set_cons_zero, List.set_cons_succ]
  conv => arg 4; whnf
  conv => arg 4; arg 1; whnf
  refine pt_loadB (k := PX) (fun W h => load_val _ W _ _ _ (h.trans hX)) hXl (by rfl) rfl rfl ?_
  simp only [Act.put, List.setIfInBounds_toArray, List.set_cons_zero, List.set_cons_succ]
  conv => arg 4; whnf
  conv => arg 4; arg 1; whnf
  refine pt_eff (by rfl) (fun K hK => ?_)
  go_wp2_with fail
  refine (neg_err _ na sa).mono ?_
  rintro en wn ⟨rfl, hbn⟩
  refine hK _ _ hbn ?_
  clear hK K
  have hbw := hbw.trans (hbn.mono hbw.size)
  have hX := (hbn.block _ hXl).trans hX
  have hY := (hbn.block _ hYl).trans hY
  have hZ := (hbn.block _ hZl).trans hZ
  clear hXl hYl hZl hbn
  generalize wn = wv at *
  have hXl : PX < wv.heap.size := (Array.getElem?_eq_some_iff.1 hX).1
  have hYl : PX + 1 < wv.heap.size := (Array.getElem?_eq_some_iff.1 hY).1
  have hZl : PX + 1 + 1 < wv.heap.size := (Array.getElem?_eq_some_iff.1 hZ).1
  conv => arg 4; whnf
  conv => arg 4; arg 1; whnf
  refine pt_free (by rfl) (fun K hK => ?_)
  go_big_quiet_op
  first | (refine hK _ ?_; clear hK K) | (refine ⟨_, fun _ _ => rfl, hK _ ?_⟩; clear hK K)
  conv => arg 4; whnf
  conv => arg 4; arg 1; whnf
  refine pt_free (by rfl) (fun K hK => ?_)
  go_big_quiet_op
  first | (refine hK _ ?_; clear hK K) | (refine ⟨_, fun _ _ => rfl, hK _ ?_⟩; clear hK K)
  conv => arg 4; whnf
  conv => arg 4; arg 1; whnf
  refine pt_free (by rfl) (fun K hK => ?_)
  go_big_quiet_op
  first | (refine hK _ ?_; clear hK K) | (refine ⟨_, fun _ _ => rfl, hK _ ?_⟩; clear hK K)
  conv => arg 4; whnf
  conv => arg 4; arg 1; whnf
  refine pt_eff (by rfl) (fun K hK => ?_)
  go_wp2_with fail
  refine (awake7 _).mono ?_
  rintro en wn ⟨rfl, hbn⟩
  refine hK _ _ hbn ?_
  clear hK K
  have hbw := hbw.trans (hbn.mono hbw.size)
  have hX := (hbn.block _ hXl).trans hX
  have hY := (hbn.block _ hYl).trans hY
  have hZ := (hbn.block _ hZl).trans hZ
  clear hXl hYl hZl hbn
  generalize wn = wv at *
  have hXl : PX < wv.heap.size := (Array.getElem?_eq_some_iff.1 hX).1
  have hYl : PX + 1 < wv.heap.size := (Array.getElem?_eq_some_iff.1 hY).1
  have hZl : PX + 1 + 1 < wv.heap.size := (Array.getElem?_eq_some_iff.1 hZ).1
  conv => arg 4; whnf
  conv => arg 4; arg 1; whnf
  refine pt_free (by rfl) (fun K hK => ?_)
  go_big_quiet_op
  first | (refine hK _ ?_; clear hK K) | (refine ⟨_, fun _ _ => rfl, hK _ ?_⟩; clear hK K)
  conv => arg 4; whnf
  conv => arg 4; arg 1; whnf
  refine pt_free (by rfl) (fun K hK => ?_)
  go_big_quiet_op
  first | (refine hK _ ?_; clear hK K) | (refine ⟨_, fun _ _ => rfl, hK _ ?_⟩; clear hK K)
  refine pt_nil ?_
  go_wp2
  go_ret
  exact ⟨rfl, hbw⟩
end Go.Proofs.YtejpfpklgkcagaaDoor
