/- The walk of val.Cmp, of any values. Written by valcmpd.py. -/
import Derived.Test.YtejpfpklgkcagaaDoorValSpec
namespace Go.Proofs.YtejpfpklgkcagaaDoor
open Go.RowKit Go.Maps
theorem load_intD (p : Addr) (v : Value) (W : World) (h : W.cell? p = some v) : (Instr.loadAt 3 (.pointer (some p))).run Tryd.prog W = .ok v W := by simp [go_sem, h]
theorem load_strD (p : Addr) (v : Value) (W : World) (h : W.cell? p = some v) : (Instr.loadAt 9 (.pointer (some p))).run Tryd.prog W = .ok v W := by simp [go_sem, h]
theorem blk3D {w : World} {p q : Nat} {o : Obj} {x y z : Value} (h : q ≠ p) (hq : w.heap[q]? = some o) : (((w.setCell ⟨p, 0, none⟩ x).setCell ⟨p, 1, none⟩ y).setCell ⟨p, 2, none⟩ z).heap[q]? = some o := by
  simp [World.setCell, Array.getElem?_modify, Ne.symm h, hq]
set_option maxRecDepth 100000 in
theorem like_none (w : World) (n k2 n2 : Int) (s t : ByteArray) :
    Calls Tryd.prog 39 #[.agg #[.int .i64 0, .int .i64 n, .string s], .agg #[.int .i64 k2, .int .i64 n2, .string t]] w fun e w' => e = .returned (.agg #[.int .i64 k2, .int .i64 0, .string ⟨#[]⟩]) ∧ Below w.heap.size w w' := by
  go_enter Tryd.func39, Tryd.ntmps39
  go_wp2
  refine bodyPost_ret (v := .agg #[.int .i64 k2, .int .i64 0, .string ⟨#[]⟩]) ?_ rfl ?_
  · simp [results, Tryd.f39, go_sem]
  · exact ⟨rfl, (((Below.refl _ _).alloc (Nat.le_refl _) _).alloc (by simp) _).alloc (by simp; omega) _⟩
theorem like_gen (w : World) (k n k2 n2 ka na : Int) (s t sa : ByteArray) (e : likeV (k, n, s) (k2, n2, t) = (ka, na, sa)) :
    Calls Tryd.prog 39 #[.agg #[.int .i64 k, .int .i64 n, .string s], .agg #[.int .i64 k2, .int .i64 n2, .string t]] w fun e w' => e = .returned (.agg #[.int .i64 ka, .int .i64 na, .string sa]) ∧ Below w.heap.size w w' := by
  by_cases hk : k = 0
  · subst hk
    rw [show likeV (0, n, s) (k2, n2, t) = (k2, 0, noB) from if_pos rfl] at e
    simp only [Prod.mk.injEq] at e
    obtain ⟨rfl, rfl, rfl⟩ := e
    exact like_none w n k2 n2 s t
  · rw [show likeV (k, n, s) (k2, n2, t) = (k, n, s) from if_neg hk] at e
    simp only [Prod.mk.injEq] at e
    obtain ⟨rfl, rfl, rfl⟩ := e
    exact like_any w k n k2 n2 s t hk
set_option maxRecDepth 100000 in
set_option maxHeartbeats 2000000 in
theorem cmp_gen (w : World) (k n k2 n2 ka na kb nb : Int) (s t sa sb : ByteArray) (e1 : likeV (k, n, s) (k2, n2, t) = (ka, na, sa)) (e2 : likeV (k2, n2, t) (k, n, s) = (kb, nb, sb)) :
    Calls Tryd.prog 25 #[.agg #[.int .i64 k, .int .i64 n, .string s], .agg #[.int .i64 k2, .int .i64 n2, .string t]] w fun e w' => e = .returned (.int .i64 (vcmp (ka, na, sa) (kb, nb, sb))) ∧ Below w.heap.size w w' := by
  have hpost := firstOf_vcmp (ka, na, sa) (kb, nb, sb)
  have HP := Lib.hid hpost
  have L1 := Lib.hid (fun W => like_gen W _ _ _ _ _ _ _ _ _ e1)
  have L2 := Lib.hid (fun W => like_gen W _ _ _ _ _ _ _ _ _ e2)
  clear hpost e1 e2
  go_enter Tryd.func25, Tryd.ntmps25
  go_wp2_with fail
  obtain ⟨W, hW⟩ : ∃ W, W = ((w.alloc (.cells #[.int .i64 k, .int .i64 n, .string s] 24)).alloc (.cells #[.int .i64 k2, .int .i64 n2, .string t] 24)) := ⟨_, rfl⟩
  have hs0 := heap_alloc_new w (.cells #[.int .i64 k, .int .i64 n, .string s] 24)
  have hs1 := heap_alloc_new (w.alloc (.cells #[.int .i64 k, .int .i64 n, .string s] 24)) (.cells #[.int .i64 k2, .int .i64 n2, .string t] 24)
  rw [World.size_alloc] at hs1
  have hX : W.heap[w.heap.size]? = some (.cells #[.int .i64 k, .int .i64 n, .string s] 24 (0, 0)) := by rw [hW]; exact (Below.heap_alloc _ _ _ (by simp; try omega)).trans (hs0)
  have hY : W.heap[w.heap.size + 1]? = some (.cells #[.int .i64 k2, .int .i64 n2, .string t] 24 (0, 0)) := by rw [hW]; exact hs1
  have hsW : W.heap.size = w.heap.size + 2 := by rw [hW]; simp
  have hbW : Below w.heap.size w W := by rw [hW]; exact ((Below.refl _ _).alloc (Nat.le_refl _) _).alloc (by simp; try omega) _
  rw [← hW]
  clear hW hs0 hs1
  refine wp_region_tree [6,7] (.free 0 (.free 1 (.free 3 (.free 4 (.eff 2 (.eff 5 (.last 6 (.last 7 .nil)))))))) (by kernel_rfl) (by kernel_rfl) (fun _ _ d _ _ h => by cases d <;> exact h) ?_
  have hbw := hbW.drew
  have hX : W.drew.heap[w.heap.size]? = _ := hX
  have hY : W.drew.heap[w.heap.size + 1]? = _ := hY
  clear hbW hsW
  generalize W.drew = wv at *
  have hXl : w.heap.size < wv.heap.size := (Array.getElem?_eq_some_iff.1 hX).1
  have hYl : w.heap.size + 1 < wv.heap.size := (Array.getElem?_eq_some_iff.1 hY).1
  conv => arg 4; whnf
  conv => arg 4; arg 1; whnf
  refine pt_loadB (k := w.heap.size) (fun W h => load_val _ W _ _ _ (h.trans hX)) hXl (by rfl) rfl rfl ?_
  simp only [Act.put, List.setIfInBounds_toArray, List.set_cons_zero, List.set_cons_succ]
  conv => arg 4; whnf
  conv => arg 4; arg 1; whnf
  refine pt_loadB (k := w.heap.size + 1) (fun W h => load_val _ W _ _ _ (h.trans hY)) hYl (by rfl) rfl rfl ?_
  simp only [Act.put, List.setIfInBounds_toArray, List.set_cons_zero, List.set_cons_succ]
  conv => arg 4; whnf
  conv => arg 4; arg 1; whnf
  refine pt_loadB (k := w.heap.size + 1) (fun W h => load_val _ W _ _ _ (h.trans hY)) hYl (by rfl) rfl rfl ?_
  simp only [Act.put, List.setIfInBounds_toArray, List.set_cons_zero, List.set_cons_succ]
  conv => arg 4; whnf
  conv => arg 4; arg 1; whnf
  refine pt_loadB (k := w.heap.size) (fun W h => load_val _ W _ _ _ (h.trans hX)) hXl (by rfl) rfl rfl ?_
  simp only [Act.put, List.setIfInBounds_toArray, List.set_cons_zero, List.set_cons_succ]
  conv => arg 4; whnf
  conv => arg 4; arg 1; whnf
  refine pt_eff (by rfl) (fun K hK => ?_)
  go_wp2_with fail
  refine (L1.out _).mono ?_
  rintro en wn ⟨rfl, hbn⟩
  refine hK _ _ hbn ?_
  clear hK K
  have hbw := hbw.trans (hbn.mono hbw.size)
  have hX := (hbn.block _ hXl).trans hX
  have hY := (hbn.block _ hYl).trans hY
  clear hXl hYl hbn
  generalize wn = wv at *
  have hXl : w.heap.size < wv.heap.size := (Array.getElem?_eq_some_iff.1 hX).1
  have hYl : w.heap.size + 1 < wv.heap.size := (Array.getElem?_eq_some_iff.1 hY).1
  conv => arg 4; whnf
  conv => arg 4; arg 1; whnf
  refine pt_eff (by rfl) (fun K hK => ?_)
  go_wp2_with fail
  refine (L2.out _).mono ?_
  rintro en wn ⟨rfl, hbn⟩
  refine hK _ _ hbn ?_
  clear hK K
  have hbw := hbw.trans (hbn.mono hbw.size)
  have hX := (hbn.block _ hXl).trans hX
  have hY := (hbn.block _ hYl).trans hY
  clear hXl hYl hbn
  generalize wn = wv at *
  have hXl : w.heap.size < wv.heap.size := (Array.getElem?_eq_some_iff.1 hX).1
  have hYl : w.heap.size + 1 < wv.heap.size := (Array.getElem?_eq_some_iff.1 hY).1
  obtain ⟨r0, r1, r2, z0, z1, z2⟩ := val3 hX
  conv => arg 4; whnf
  conv => arg 4; arg 1; whnf
  refine pt_last (by rfl) (fun K hK => ?_)
  go_wp2_with fail
  have hz := val_store (x := .int .i64 ka) (y := .int .i64 na) (z := .string sa) hX
  have ho := blk3D (x := .int .i64 ka) (y := .int .i64 na) (z := .string sa) (show w.heap.size + 1 ≠ w.heap.size by omega) hY
  have hbw := ((hbw.setCell (p := ⟨w.heap.size, 0, none⟩) (by show w.heap.size ≤ w.heap.size; omega) (.int .i64 ka)).setCell (p := ⟨w.heap.size, 1, none⟩) (by show w.heap.size ≤ w.heap.size; omega) (.int .i64 na)).setCell (p := ⟨w.heap.size, 2, none⟩) (by show w.heap.size ≤ w.heap.size; omega) (.string sa)
  clear r0 r1 r2 z0 z1 z2 hXl hYl hX hY
  have hX := hz
  have hY := ho
  clear hz ho
  generalize ((wv.setCell ⟨w.heap.size, 0, none⟩ (.int .i64 ka)).setCell ⟨w.heap.size, 1, none⟩ (.int .i64 na)).setCell ⟨w.heap.size, 2, none⟩ (.string sa) = wv at *
  have hXl : w.heap.size < wv.heap.size := (Array.getElem?_eq_some_iff.1 hX).1
  have hYl : w.heap.size + 1 < wv.heap.size := (Array.getElem?_eq_some_iff.1 hY).1
  obtain ⟨r0, r1, r2, z0, z1, z2⟩ := val3 hY
  conv => arg 4; whnf
  conv => arg 4; arg 1; whnf
  refine pt_last (by rfl) (fun K hK => ?_)
  go_wp2_with fail
  have hz := val_store (x := .int .i64 kb) (y := .int .i64 nb) (z := .string sb) hY
  have ho := blk3D (x := .int .i64 kb) (y := .int .i64 nb) (z := .string sb) (show w.heap.size ≠ w.heap.size + 1 by omega) hX
  have hbw := ((hbw.setCell (p := ⟨w.heap.size + 1, 0, none⟩) (by show w.heap.size ≤ w.heap.size + 1; omega) (.int .i64 kb)).setCell (p := ⟨w.heap.size + 1, 1, none⟩) (by show w.heap.size ≤ w.heap.size + 1; omega) (.int .i64 nb)).setCell (p := ⟨w.heap.size + 1, 2, none⟩) (by show w.heap.size ≤ w.heap.size + 1; omega) (.string sb)
  clear r0 r1 r2 z0 z1 z2 hXl hYl hY hX
  have hY := hz
  have hX := ho
  clear hz ho
  generalize ((wv.setCell ⟨w.heap.size + 1, 0, none⟩ (.int .i64 kb)).setCell ⟨w.heap.size + 1, 1, none⟩ (.int .i64 nb)).setCell ⟨w.heap.size + 1, 2, none⟩ (.string sb) = wv at *
  have hXl : w.heap.size < wv.heap.size := (Array.getElem?_eq_some_iff.1 hX).1
  have hYl : w.heap.size + 1 < wv.heap.size := (Array.getElem?_eq_some_iff.1 hY).1
  refine pt_nil ?_
  go_wp2_with fail
  refine wp_region_tree [] (.free 0 (.free 1 (.free 2 (.free 3 (.free 5 (.free 6 (.free 7 (.free 8 (.free 10 (.free 11 (.free 12 (.free 13 (.eff 4 (.eff 9 (.eff 14 (.eff 15 (.eff 16 (.free 17 .nil)))))))))))))))))) (by kernel_rfl) (by kernel_rfl) (fun _ _ d _ _ h => by cases d <;> exact h) ?_
  have hbw := hbw.drew
  have hX : wv.drew.heap[w.heap.size]? = _ := hX
  have hY : wv.drew.heap[w.heap.size + 1]? = _ := hY
  clear hXl hYl
  generalize wv.drew = wv at *
  have hXl : w.heap.size < wv.heap.size := (Array.getElem?_eq_some_iff.1 hX).1
  have hYl : w.heap.size + 1 < wv.heap.size := (Array.getElem?_eq_some_iff.1 hY).1
  obtain ⟨a0, a1, a2, _⟩ := val3 hX
  obtain ⟨b0, b1, b2, _⟩ := val3 hY
  conv => arg 4; whnf
  conv => arg 4; arg 1; whnf
  refine pt_free (by rfl) (fun K hK => ?_)
  go_big_quiet_op
  first | (refine hK _ ?_; clear hK K) | (refine ⟨_, fun _ _ => rfl, hK _ ?_⟩; clear hK K)
  conv => arg 4; whnf
  conv => arg 4; arg 1; whnf
  refine pt_load (fun W h => load_intD _ _ W h) (p := ⟨w.heap.size, 0, none⟩) a0 hXl (by rfl) rfl rfl ?_
  simp only [Act.put, List.setIfInBounds_toArray, List.set_cons_zero, List.set_cons_succ]
  conv => arg 4; whnf
  conv => arg 4; arg 1; whnf
  refine pt_free (by rfl) (fun K hK => ?_)
  go_big_quiet_op
  first | (refine hK _ ?_; clear hK K) | (refine ⟨_, fun _ _ => rfl, hK _ ?_⟩; clear hK K)
  conv => arg 4; whnf
  conv => arg 4; arg 1; whnf
  refine pt_load (fun W h => load_intD _ _ W h) (p := ⟨w.heap.size + 1, 0, none⟩) b0 hYl (by rfl) rfl rfl ?_
  simp only [Act.put, List.setIfInBounds_toArray, List.set_cons_zero, List.set_cons_succ]
  conv => arg 4; whnf
  conv => arg 4; arg 1; whnf
  refine pt_free (by rfl) (fun K hK => ?_)
  go_big_quiet_op
  first | (refine hK _ ?_; clear hK K) | (refine ⟨_, fun _ _ => rfl, hK _ ?_⟩; clear hK K)
  conv => arg 4; whnf
  conv => arg 4; arg 1; whnf
  refine pt_load (fun W h => load_intD _ _ W h) (p := ⟨w.heap.size, 1, none⟩) a1 hXl (by rfl) rfl rfl ?_
  simp only [Act.put, List.setIfInBounds_toArray, List.set_cons_zero, List.set_cons_succ]
  conv => arg 4; whnf
  conv => arg 4; arg 1; whnf
  refine pt_free (by rfl) (fun K hK => ?_)
  go_big_quiet_op
  first | (refine hK _ ?_; clear hK K) | (refine ⟨_, fun _ _ => rfl, hK _ ?_⟩; clear hK K)
  conv => arg 4; whnf
  conv => arg 4; arg 1; whnf
  refine pt_load (fun W h => load_intD _ _ W h) (p := ⟨w.heap.size + 1, 1, none⟩) b1 hYl (by rfl) rfl rfl ?_
  simp only [Act.put, List.setIfInBounds_toArray, List.set_cons_zero, List.set_cons_succ]
  conv => arg 4; whnf
  conv => arg 4; arg 1; whnf
  refine pt_free (by rfl) (fun K hK => ?_)
  go_big_quiet_op
  first | (refine hK _ ?_; clear hK K) | (refine ⟨_, fun _ _ => rfl, hK _ ?_⟩; clear hK K)
  conv => arg 4; whnf
  conv => arg 4; arg 1; whnf
  refine pt_load (fun W h => load_strD _ _ W h) (p := ⟨w.heap.size, 2, none⟩) a2 hXl (by rfl) rfl rfl ?_
  simp only [Act.put, List.setIfInBounds_toArray, List.set_cons_zero, List.set_cons_succ]
  conv => arg 4; whnf
  conv => arg 4; arg 1; whnf
  refine pt_free (by rfl) (fun K hK => ?_)
  go_big_quiet_op
  first | (refine hK _ ?_; clear hK K) | (refine ⟨_, fun _ _ => rfl, hK _ ?_⟩; clear hK K)
  conv => arg 4; whnf
  conv => arg 4; arg 1; whnf
  refine pt_load (fun W h => load_strD _ _ W h) (p := ⟨w.heap.size + 1, 2, none⟩) b2 hYl (by rfl) rfl rfl ?_
  simp only [Act.put, List.setIfInBounds_toArray, List.set_cons_zero, List.set_cons_succ]
  clear a0 a1 a2 b0 b1 b2 hX hY hXl hYl
  conv => arg 4; whnf
  conv => arg 4; arg 1; whnf
  refine pt_eff (by rfl) (fun K hK => ?_)
  go_wp2_with fail
  refine (cmpInt_any _ ka kb).mono ?_
  rintro en wn ⟨rfl, hbn⟩
  refine hK _ _ hbn ?_
  clear hK K
  have hbw := hbw.trans (hbn.mono hbw.size)
  clear hbn
  generalize wn = wv at *
  conv => arg 4; whnf
  conv => arg 4; arg 1; whnf
  refine pt_eff (by rfl) (fun K hK => ?_)
  go_wp2_with fail
  refine (cmpInt_any _ na nb).mono ?_
  rintro en wn ⟨rfl, hbn⟩
  refine hK _ _ hbn ?_
  clear hK K
  have hbw := hbw.trans (hbn.mono hbw.size)
  clear hbn
  generalize wn = wv at *
  conv => arg 4; whnf
  conv => arg 4; arg 1; whnf
  refine pt_eff (by rfl) (fun K hK => ?_)
  go_wp2_with fail
  refine (cmpStr_any _ sa sb).mono ?_
  rintro en wn ⟨rfl, hbn⟩
  refine hK _ _ hbn ?_
  clear hK K
  have hbw := hbw.trans (hbn.mono hbw.size)
  clear hbn
  generalize wn = wv at *
  conv => arg 4; whnf
  conv => arg 4; arg 1; whnf
  refine pt_eff (by rfl) (fun K hK => ?_)
  go_wp2_with fail
  refine hK _ _ ((Below.refl _ _).alloc (Nat.le_refl _) _) ?_
  clear hK K
  have hz := heap_alloc_new wv (.cells #[.int .i64 (icmp ka kb), .int .i64 (icmp na nb), .int .i64 (scmp sa sb)] 3)
  have hA : At1 vInt (wv.alloc (.cells #[.int .i64 (icmp ka kb), .int .i64 (icmp na nb), .int .i64 (scmp sa sb)] 3)) (some ⟨wv.heap.size, 0, none⟩) [icmp ka kb, icmp na nb, scmp sa sb] := at1_lit (by simp) hz (fun i x hx => by rcases i with _ | _ | _ | i <;> simp at hx <;> (subst hx; rfl))
  have hbw := hbw.alloc hbw.size (.cells #[.int .i64 (icmp ka kb), .int .i64 (icmp na nb), .int .i64 (scmp sa sb)] 3)
  clear hz
  generalize wv.alloc (.cells #[.int .i64 (icmp ka kb), .int .i64 (icmp na nb), .int .i64 (scmp sa sb)] 3) = wn at *
  conv => arg 4; whnf
  conv => arg 4; arg 1; whnf
  refine pt_eff (by rfl) (fun K hK => ?_)
  go_wp2_with fail
  refine (or_any _ _ 3 _ hA).mono ?_
  rintro en wm ⟨rfl, hbn⟩
  refine hK _ _ hbn ?_
  clear hK K
  have hbw := hbw.trans (hbn.mono hbw.size)
  conv => arg 4; whnf
  conv => arg 4; arg 1; whnf
  refine pt_free (by rfl) (fun K hK => ?_)
  go_big_quiet_op
  first | (refine hK _ ?_; clear hK K) | (refine ⟨_, fun _ _ => rfl, hK _ ?_⟩; clear hK K)
  refine pt_nil ?_
  go_wp2
  go_ret
  exact ⟨by rw [HP.out]; rfl, hbw⟩
end Go.Proofs.YtejpfpklgkcagaaDoor
