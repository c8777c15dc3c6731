/- The document's Two at texts, and of any. Written by reftwob.py. -/
import Derived.Test.YtejpfpklgkcagaaDoorRefTwo
namespace Go.Proofs.YtejpfpklgkcagaaDoor
open Go.RowKit Go.Maps
set_option maxRecDepth 100000 in
set_option maxHeartbeats 1000000 in
theorem rtwo_catL (w : World) (k n k2 n2 : Int) (s t : ByteArray) (S T : ByteArray) (hk : k ≠ 4) (hk2 : k2 ≠ 4) (hm1 : mayV (k, n, s)) (hm2 : mayV (k2, n2, t)) (hn : InR n) (hn2 : InR n2) (hS : vtext (k, n, s) = S) (hT : vtext (k2, n2, t) = T) (hz : 200 < (S ++ T).size) : Calls Tryd.prog 13 #[.int .i64 15, .agg #[.int .i64 k, .int .i64 n, .string s], .agg #[.int .i64 k2, .int .i64 n2, .string t]] w fun e w' => e = .returned (.agg #[.int .i64 4, .int .i64 1, .string ⟨#[]⟩]) ∧ Below w.heap.size w w' := by
  have f1 : (k == 4) = false := by simpa using hk
  have f1' : decide (k = 4) = false := by simpa using hk
  have f2 : (k2 == 4) = false := by simpa using hk2
  have f2' : decide (k2 = 4) = false := by simpa using hk2
  have C1 := Lib.hid (fun W => rtext_any W k n s hn hm1)
  have C2 := Lib.hid (fun W => rtext_any W k2 n2 t hn2 hm2)
  have z1 := vtext_size hn hm1
  have z2 := vtext_size hn2 hm2
  rw [hS] at C1 z1
  rw [hT] at C2 z2
  have hl3 : ¬ 9223372036854775807 < S.size + T.size := by omega
  have hz2 : decide ((200 : Int) < ((S ++ T).size : Int)) = true := decide_eq_true (by omega)
  have hz4 : decide ((200 : Int) < (S.size : Int) + (T.size : Int)) = true := decide_eq_true (by rw [ByteArray.size_append] at hz; omega)
  clear hk hk2 hm1 hm2 hn hn2 hS hT z1 z2 hz
  go_enter Tryd.func13, Tryd.ntmps13
  go_wp2_with fail
  obtain ⟨W, hW⟩ : ∃ W, W = (((w.alloc (.cells #[.int .i64 k, .int .i64 n, .string s] 24)).alloc (.cells #[.int .i64 k2, .int .i64 n2, .string t] 24)).alloc (.cells #[.int .i64 0, .int .i64 0, .string ⟨#[]⟩] 24)) := ⟨_, rfl⟩
  have hs0 := heap_alloc_new w (.cells #[.int .i64 k, .int .i64 n, .string s] 24)
  have hs1 := heap_alloc_new (w.alloc (.cells #[.int .i64 k, .int .i64 n, .string s] 24)) (.cells #[.int .i64 k2, .int .i64 n2, .string t] 24)
  rw [World.size_alloc] at hs1
  have hs2 := heap_alloc_new ((w.alloc (.cells #[.int .i64 k, .int .i64 n, .string s] 24)).alloc (.cells #[.int .i64 k2, .int .i64 n2, .string t] 24)) (.cells #[.int .i64 0, .int .i64 0, .string ⟨#[]⟩] 24)
  rw [World.size_alloc, World.size_alloc] at hs2
  have hX : W.heap[w.heap.size]? = some (.cells #[.int .i64 k, .int .i64 n, .string s] 24 (0, 0)) := by rw [hW]; exact (Below.heap_alloc _ _ _ (by simp; try omega)).trans ((Below.heap_alloc _ _ _ (by simp; try omega)).trans (hs0))
  have hY : W.heap[w.heap.size + 1]? = some (.cells #[.int .i64 k2, .int .i64 n2, .string t] 24 (0, 0)) := by rw [hW]; exact (Below.heap_alloc _ _ _ (by simp; try omega)).trans (hs1)
  have hR : W.heap[w.heap.size + 1 + 1]? = some (.cells #[.int .i64 0, .int .i64 0, .string ⟨#[]⟩] 24 (0, 0)) := by rw [hW]; exact hs2
  have hsW : W.heap.size = w.heap.size + 3 := by rw [hW]; simp
  have hbW : Below w.heap.size w W := by rw [hW]; exact (((Below.refl _ _).alloc (Nat.le_refl _) _).alloc (by simp; try omega) _).alloc (by simp; try omega) _
  rw [← hW]
  clear hW hs0 hs1 hs2
  refine wp_region_tree [] (.free 0 (.free 2 (.eff 1 (.eff 3 (.free 4 (.free 5 .nil)))))) (by kernel_rfl) (by kernel_rfl) (fun _ _ d _ _ h => by cases d <;> exact h) ?_
  have hbw := hbW.drew
  have hX : W.drew.heap[w.heap.size]? = _ := hX
  have hY : W.drew.heap[w.heap.size + 1]? = _ := hY
  have hR : W.drew.heap[w.heap.size + 1 + 1]? = _ := hR
  clear hbW hsW
  generalize W.drew = wv at *
  have l0 : w.heap.size < wv.heap.size := (Array.getElem?_eq_some_iff.1 hX).1
  have l1 : w.heap.size + 1 < wv.heap.size := (Array.getElem?_eq_some_iff.1 hY).1
  have l2 : w.heap.size + 1 + 1 < wv.heap.size := (Array.getElem?_eq_some_iff.1 hR).1
  conv => arg 4; whnf
  conv => arg 4; arg 1; whnf
  refine pt_loadB (k := w.heap.size) (fun W h => load_val _ W _ _ _ (h.trans hX)) l0 (by rfl) rfl rfl ?_
  simp only [Act.put, List.setIfInBounds_toArray, List.set_cons_zero, List.set_cons_succ]
  conv => arg 4; whnf
  conv => arg 4; arg 1; whnf
  refine pt_loadB (k := w.heap.size + 1) (fun W h => load_val _ W _ _ _ (h.trans hY)) l1 (by rfl) rfl rfl ?_
  simp only [Act.put, List.setIfInBounds_toArray, List.set_cons_zero, List.set_cons_succ]
  clear hX hY l0 l1
  conv => arg 4; whnf
  conv => arg 4; arg 1; whnf
  refine pt_eff (by rfl) (fun K hK => ?_)
  go_wp2_with fail
  refine (C1.out _).mono ?_
  rintro en wn ⟨rfl, hbn⟩
  refine hK _ _ hbn ?_
  clear hK K
  have hbw := hbw.trans (hbn.mono hbw.size)
  have hR := (hbn.block _ l2).trans hR
  clear l2 hbn
  generalize wn = wv at *
  have l2 : w.heap.size + 1 + 1 < wv.heap.size := (Array.getElem?_eq_some_iff.1 hR).1
  conv => arg 4; whnf
  conv => arg 4; arg 1; whnf
  refine pt_eff (by rfl) (fun K hK => ?_)
  go_wp2_with fail
  refine (C2.out _).mono ?_
  rintro en wn ⟨rfl, hbn⟩
  refine hK _ _ hbn ?_
  clear hK K
  have hbw := hbw.trans (hbn.mono hbw.size)
  have hR := (hbn.block _ l2).trans hR
  clear l2 hbn
  generalize wn = wv at *
  have l2 : w.heap.size + 1 + 1 < wv.heap.size := (Array.getElem?_eq_some_iff.1 hR).1
  conv => arg 4; whnf
  conv => arg 4; arg 1; whnf
  refine pt_free (by rfl) (fun K hK => ?_)
  go_big_quiet_op
  first | (refine hK _ ?_; clear hK K) | (refine ⟨_, fun _ _ => rfl, hK _ ?_⟩; clear hK K)
  conv => arg 4; whnf
  conv => arg 4; arg 1; whnf
  refine pt_free (by rfl) (fun K hK => ?_)
  go_big_quiet_op
  first | (refine hK _ ?_; clear hK K) | (refine ⟨_, fun _ _ => rfl, hK _ ?_⟩; clear hK K)
  refine pt_nil ?_
  have hbW := hbw
  clear hbw l2
  go_wp2_with fail
  refine (no_any _ 1).mono ?_
  rintro e w3 ⟨rfl, hbn⟩
  have hR := (hbn.block _ (Array.getElem?_eq_some_iff.1 hR).1).trans hR
  have hbW := hbW.trans (hbn.mono hbW.size)
  clear hbn
  obtain ⟨r0, r1, r2, z0, z1, z2⟩ := val3 hR
  go_wp2
  have hz := val_store (x := .int .i64 4) (y := .int .i64 1) (z := .string ⟨#[]⟩) hR
  obtain ⟨q0, q1, q2, _⟩ := val3 hz
  refine bodyPost_ret (v := .agg #[.int .i64 4, .int .i64 1, .string ⟨#[]⟩]) ?_ rfl ?_
  · simp [results, Tryd.f13, go_sem, q0, q1, q2]
  · exact ⟨rfl, ((hbW.setCell (p := ⟨w.heap.size + 1 + 1, 0, none⟩) (by show w.heap.size ≤ w.heap.size + 1 + 1; omega) _).setCell (p := ⟨w.heap.size + 1 + 1, 1, none⟩) (by show w.heap.size ≤ w.heap.size + 1 + 1; omega) _).setCell (p := ⟨w.heap.size + 1 + 1, 2, none⟩) (by show w.heap.size ≤ w.heap.size + 1 + 1; omega) _⟩
set_option maxRecDepth 100000 in
set_option maxHeartbeats 1000000 in
theorem rtwo_catS (w : World) (k n k2 n2 : Int) (s t : ByteArray) (S T : ByteArray) (hk : k ≠ 4) (hk2 : k2 ≠ 4) (hm1 : mayV (k, n, s)) (hm2 : mayV (k2, n2, t)) (hn : InR n) (hn2 : InR n2) (hS : vtext (k, n, s) = S) (hT : vtext (k2, n2, t) = T) (hz : ¬ 200 < (S ++ T).size) : Calls Tryd.prog 13 #[.int .i64 15, .agg #[.int .i64 k, .int .i64 n, .string s], .agg #[.int .i64 k2, .int .i64 n2, .string t]] w fun e w' => e = .returned (.agg #[.int .i64 2, .int .i64 0, .string (S ++ T)]) ∧ Below w.heap.size w w' := by
  have f1 : (k == 4) = false := by simpa using hk
  have f1' : decide (k = 4) = false := by simpa using hk
  have f2 : (k2 == 4) = false := by simpa using hk2
  have f2' : decide (k2 = 4) = false := by simpa using hk2
  have C1 := Lib.hid (fun W => rtext_any W k n s hn hm1)
  have C2 := Lib.hid (fun W => rtext_any W k2 n2 t hn2 hm2)
  have z1 := vtext_size hn hm1
  have z2 := vtext_size hn2 hm2
  rw [hS] at C1 z1
  rw [hT] at C2 z2
  have hl3 : ¬ 9223372036854775807 < S.size + T.size := by omega
  have hz2 : decide ((200 : Int) < ((S ++ T).size : Int)) = false := decide_eq_false (by omega)
  have hz4 : decide ((200 : Int) < (S.size : Int) + (T.size : Int)) = false := decide_eq_false (by rw [ByteArray.size_append] at hz; omega)
  clear hk hk2 hm1 hm2 hn hn2 hS hT z1 z2 hz
  go_enter Tryd.func13, Tryd.ntmps13
  go_wp2_with fail
  obtain ⟨W, hW⟩ : ∃ W, W = (((w.alloc (.cells #[.int .i64 k, .int .i64 n, .string s] 24)).alloc (.cells #[.int .i64 k2, .int .i64 n2, .string t] 24)).alloc (.cells #[.int .i64 0, .int .i64 0, .string ⟨#[]⟩] 24)) := ⟨_, rfl⟩
  have hs0 := heap_alloc_new w (.cells #[.int .i64 k, .int .i64 n, .string s] 24)
  have hs1 := heap_alloc_new (w.alloc (.cells #[.int .i64 k, .int .i64 n, .string s] 24)) (.cells #[.int .i64 k2, .int .i64 n2, .string t] 24)
  rw [World.size_alloc] at hs1
  have hs2 := heap_alloc_new ((w.alloc (.cells #[.int .i64 k, .int .i64 n, .string s] 24)).alloc (.cells #[.int .i64 k2, .int .i64 n2, .string t] 24)) (.cells #[.int .i64 0, .int .i64 0, .string ⟨#[]⟩] 24)
  rw [World.size_alloc, World.size_alloc] at hs2
  have hX : W.heap[w.heap.size]? = some (.cells #[.int .i64 k, .int .i64 n, .string s] 24 (0, 0)) := by rw [hW]; exact (Below.heap_alloc _ _ _ (by simp; try omega)).trans ((Below.heap_alloc _ _ _ (by simp; try omega)).trans (hs0))
  have hY : W.heap[w.heap.size + 1]? = some (.cells #[.int .i64 k2, .int .i64 n2, .string t] 24 (0, 0)) := by rw [hW]; exact (Below.heap_alloc _ _ _ (by simp; try omega)).trans (hs1)
  have hR : W.heap[w.heap.size + 1 + 1]? = some (.cells #[.int .i64 0, .int .i64 0, .string ⟨#[]⟩] 24 (0, 0)) := by rw [hW]; exact hs2
  have hsW : W.heap.size = w.heap.size + 3 := by rw [hW]; simp
  have hbW : Below w.heap.size w W := by rw [hW]; exact (((Below.refl _ _).alloc (Nat.le_refl _) _).alloc (by simp; try omega) _).alloc (by simp; try omega) _
  rw [← hW]
  clear hW hs0 hs1 hs2
  refine wp_region_tree [] (.free 0 (.free 2 (.eff 1 (.eff 3 (.free 4 (.free 5 .nil)))))) (by kernel_rfl) (by kernel_rfl) (fun _ _ d _ _ h => by cases d <;> exact h) ?_
  have hbw := hbW.drew
  have hX : W.drew.heap[w.heap.size]? = _ := hX
  have hY : W.drew.heap[w.heap.size + 1]? = _ := hY
  have hR : W.drew.heap[w.heap.size + 1 + 1]? = _ := hR
  clear hbW hsW
  generalize W.drew = wv at *
  have l0 : w.heap.size < wv.heap.size := (Array.getElem?_eq_some_iff.1 hX).1
  have l1 : w.heap.size + 1 < wv.heap.size := (Array.getElem?_eq_some_iff.1 hY).1
  have l2 : w.heap.size + 1 + 1 < wv.heap.size := (Array.getElem?_eq_some_iff.1 hR).1
  conv => arg 4; whnf
  conv => arg 4; arg 1; whnf
  refine pt_loadB (k := w.heap.size) (fun W h => load_val _ W _ _ _ (h.trans hX)) l0 (by rfl) rfl rfl ?_
  simp only [Act.put, List.setIfInBounds_toArray, List.set_cons_zero, List.set_cons_succ]
  conv => arg 4; whnf
  conv => arg 4; arg 1; whnf
  refine pt_loadB (k := w.heap.size + 1) (fun W h => load_val _ W _ _ _ (h.trans hY)) l1 (by rfl) rfl rfl ?_
  simp only [Act.put, List.setIfInBounds_toArray, List.set_cons_zero, List.set_cons_succ]
  clear hX hY l0 l1
  conv => arg 4; whnf
  conv => arg 4; arg 1; whnf
  refine pt_eff (by rfl) (fun K hK => ?_)
  go_wp2_with fail
  refine (C1.out _).mono ?_
  rintro en wn ⟨rfl, hbn⟩
  refine hK _ _ hbn ?_
  clear hK K
  have hbw := hbw.trans (hbn.mono hbw.size)
  have hR := (hbn.block _ l2).trans hR
  clear l2 hbn
  generalize wn = wv at *
  have l2 : w.heap.size + 1 + 1 < wv.heap.size := (Array.getElem?_eq_some_iff.1 hR).1
  conv => arg 4; whnf
  conv => arg 4; arg 1; whnf
  refine pt_eff (by rfl) (fun K hK => ?_)
  go_wp2_with fail
  refine (C2.out _).mono ?_
  rintro en wn ⟨rfl, hbn⟩
  refine hK _ _ hbn ?_
  clear hK K
  have hbw := hbw.trans (hbn.mono hbw.size)
  have hR := (hbn.block _ l2).trans hR
  clear l2 hbn
  generalize wn = wv at *
  have l2 : w.heap.size + 1 + 1 < wv.heap.size := (Array.getElem?_eq_some_iff.1 hR).1
  conv => arg 4; whnf
  conv => arg 4; arg 1; whnf
  refine pt_free (by rfl) (fun K hK => ?_)
  go_big_quiet_op
  first | (refine hK _ ?_; clear hK K) | (refine ⟨_, fun _ _ => rfl, hK _ ?_⟩; clear hK K)
  conv => arg 4; whnf
  conv => arg 4; arg 1; whnf
  refine pt_free (by rfl) (fun K hK => ?_)
  go_big_quiet_op
  first | (refine hK _ ?_; clear hK K) | (refine ⟨_, fun _ _ => rfl, hK _ ?_⟩; clear hK K)
  refine pt_nil ?_
  have hbW := hbw
  clear hbw l2
  obtain ⟨r0, r1, r2, z0, z1, z2⟩ := val3 hR
  go_wp2
  have hz := val_store (x := .int .i64 2) (y := .int .i64 0) (z := .string (S ++ T)) hR
  obtain ⟨q0, q1, q2, _⟩ := val3 hz
  refine bodyPost_ret (v := .agg #[.int .i64 2, .int .i64 0, .string (S ++ T)]) ?_ rfl ?_
  · simp [results, Tryd.f13, go_sem, q0, q1, q2]
  · exact ⟨rfl, ((hbW.setCell (p := ⟨w.heap.size + 1 + 1, 0, none⟩) (by show w.heap.size ≤ w.heap.size + 1 + 1; omega) _).setCell (p := ⟨w.heap.size + 1 + 1, 1, none⟩) (by show w.heap.size ≤ w.heap.size + 1 + 1; omega) _).setCell (p := ⟨w.heap.size + 1 + 1, 2, none⟩) (by show w.heap.size ≤ w.heap.size + 1 + 1; omega) _⟩
/-- the document's Two is the one that the law speaks of -/
theorem rtwo_any (w : World) (kind k n k2 n2 : Int) (s t : ByteArray) (hn : InR n) (hn2 : InR n2) (hm1 : mayV (k, n, s)) (hm2 : mayV (k2, n2, t)) : Calls Tryd.prog 13 #[.int .i64 kind, .agg #[.int .i64 k, .int .i64 n, .string s], .agg #[.int .i64 k2, .int .i64 n2, .string t]] w fun e w' => e = .returned (vv (vtwo kind (k, n, s) (k2, n2, t))) ∧ Below w.heap.size w w' := by
  by_cases hk : k = 4
  · subst hk
    exact rtwo_errL w kind n k2 n2 s t
  have e0 : ∀ v, (if (k, n, s).1 = 4 then (k, n, s) else v) = v := fun v => if_neg hk
  by_cases hk2 : k2 = 4
  · subst hk2
    rw [show vtwo kind (k, n, s) (4, n2, t) = (4, n2, t) by unfold vtwo; rw [if_neg hk]; rfl]
    exact rtwo_errR w kind k n n2 s t hk
  have e1 : vtwo kind (k, n, s) (k2, n2, t) = if kind = 15 then vstr (vtext (k, n, s) ++ vtext (k2, n2, t)) else
    if 16 ≤ kind ∧ kind ≤ 19 then (if isNum (k, n, s) ∧ isNum (k2, n2, t) then vnum kind n n2 else (4, 1, noB)) else
    if 9 ≤ kind ∧ kind ≤ 14 then (3, bN (vtest kind (vorder (k, n, s) (k2, n2, t))), noB) else (4, 1, noB) := by
    unfold vtwo; rw [if_neg hk, if_neg hk2]
  rw [e1]
  by_cases h15 : kind = 15
  · subst h15
    rw [if_pos rfl]
    by_cases hz : 200 < (vtext (k, n, s) ++ vtext (k2, n2, t)).size
    · rw [show vstr (vtext (k, n, s) ++ vtext (k2, n2, t)) = (4, 1, noB) from if_pos hz]
      exact rtwo_catL w k n k2 n2 s t _ _ hk hk2 hm1 hm2 hn hn2 rfl rfl hz
    · rw [show vstr (vtext (k, n, s) ++ vtext (k2, n2, t)) = (2, 0, vtext (k, n, s) ++ vtext (k2, n2, t)) from if_neg hz]
      exact rtwo_catS w k n k2 n2 s t _ _ hk hk2 hm1 hm2 hn hn2 rfl rfl hz
  rw [if_neg h15]
  by_cases h16 : 16 ≤ kind ∧ kind ≤ 19
  · rw [if_pos h16]
    by_cases i1 : isNum (k, n, s)
    · by_cases i2 : isNum (k2, n2, t)
      · rw [if_pos ⟨i1, i2⟩]
        exact rtwo_num w kind k n k2 n2 _ _ s t _ hk hk2 h16.1 h16.2 i1 i2 hn hn2 rfl
      · rw [if_neg fun h => i2 h.2]
        exact rtwo_bad2 w kind k n k2 n2 s t hk hk2 h16.1 h16.2 (decide_eq_true i1) (decide_eq_false i2)
    · rw [if_neg fun h => i1 h.1]
      by_cases i2 : isNum (k2, n2, t)
      · exact rtwo_bad1 w kind k n k2 n2 s t hk hk2 h16.1 h16.2 (decide_eq_false i1) (decide_eq_true i2)
      · exact rtwo_bad3 w kind k n k2 n2 s t hk hk2 h16.1 h16.2 (decide_eq_false i1) (decide_eq_false i2)
  rw [if_neg h16]
  by_cases h9 : 9 ≤ kind ∧ kind ≤ 14
  · rw [if_pos h9]
    rcases (show kind = 9 ∨ kind = 10 ∨ kind = 11 ∨ kind = 12 ∨ kind = 13 ∨ kind = 14 by omega) with rfl | rfl | rfl | rfl | rfl | rfl
    · exact rtwo_eq w k n k2 n2 _ _ s t hk hk2 hm1 hm2 rfl rfl
    · exact rtwo_ne w k n k2 n2 _ _ s t hk hk2 hm1 hm2 rfl rfl
    · exact rtwo_lt w k n k2 n2 _ _ s t hk hk2 hm1 hm2 rfl rfl
    · exact rtwo_le w k n k2 n2 _ _ s t hk hk2 hm1 hm2 rfl rfl
    · exact rtwo_gt w k n k2 n2 _ _ s t hk hk2 hm1 hm2 rfl rfl
    · exact rtwo_ge w k n k2 n2 _ _ s t hk hk2 hm1 hm2 rfl rfl
  · rw [if_neg h9]
    by_cases hl : kind < 9
    · exact rtwo_low w kind k n k2 n2 s t hk hk2 hm1 hm2 hl
    · exact rtwo_high w kind k n k2 n2 s t hk hk2 hm1 hm2 (by omega)
end Go.Proofs.YtejpfpklgkcagaaDoor
