/- The walk of ValAll. Written by valallgen.py. -/
import Derived.Test.YtejpfpklgkcagaaDoorValOpsW
namespace Go.Proofs.YtejpfpklgkcagaaDoor
open Go.RowKit Go.Maps
set_option maxRecDepth 100000 in
set_option maxHeartbeats 2000000 in
theorem valAll_no1 (w : World) (kd kx nx : Int) (sx : ByteArray) (ky ny : Int) (sy : ByteArray) (h1 : ¬ mayV (kx, nx, sx)) : Calls Tryd.prog 8 #[.int .i64 kd, .agg #[.int .i64 kx, .int .i64 nx, .string sx], .agg #[.int .i64 ky, .int .i64 ny, .string sy]] w fun e w' => e = .returned (.bool true) ∧ Below w.heap.size w w' := by
  have M1 := Lib.hid (fun W => may_any W kx nx sx)
  rw [decide_eq_false h1] at M1
  clear h1
  have hb0 := ((Below.refl w.heap.size w).alloc (Nat.le_refl _) (.cells #[.int .i64 kx, .int .i64 nx, .string sx] 24)).alloc (by simp) (.cells #[.int .i64 ky, .int .i64 ny, .string sy] 24)
  go_enter Tryd.func8, Tryd.ntmps8
  go_wp2_with fail
  any_goals (refine (awake7 _).mono ?_; rintro e wn ⟨rfl, hbn⟩; go_wp2; go_ret; exact ⟨rfl, hb0.trans (hbn.mono (by simp; try omega))⟩)
  obtain ⟨P, hP⟩ : ∃ P, P = w.heap.size := ⟨_, rfl⟩
  have hX : ((w.alloc (.cells #[.int .i64 kx, .int .i64 nx, .string sx] 24)).alloc (.cells #[.int .i64 ky, .int .i64 ny, .string sy] 24)).heap[P]? = some (.cells #[.int .i64 kx, .int .i64 nx, .string sx] 24 (0, 0)) := by rw [hP]; exact (Below.heap_alloc _ _ _ (by simp)).trans (heap_alloc_new _ _)
  have hY : ((w.alloc (.cells #[.int .i64 kx, .int .i64 nx, .string sx] 24)).alloc (.cells #[.int .i64 ky, .int .i64 ny, .string sy] 24)).heap[P + 1]? = some (.cells #[.int .i64 ky, .int .i64 ny, .string sy] 24 (0, 0)) := by rw [hP, ← World.size_alloc w (.cells #[.int .i64 kx, .int .i64 nx, .string sx] 24)]; exact heap_alloc_new _ _
  rw [← hP]
  generalize ((w.alloc (.cells #[.int .i64 kx, .int .i64 nx, .string sx] 24)).alloc (.cells #[.int .i64 ky, .int .i64 ny, .string sy] 24)) = wv at *
  clear hP
  refine (M1.out _).mono ?_
  rintro e wn ⟨rfl, hbn⟩
  have hX := (hbn.block _ (Array.getElem?_eq_some_iff.1 hX).1).trans hX
  have hY := (hbn.block _ (Array.getElem?_eq_some_iff.1 hY).1).trans hY
  have hb0 := hb0.trans (hbn.mono hb0.size)
  clear hbn
  generalize wn = wv at *
  obtain ⟨a0, a1, a2, _⟩ := val3 hX
  obtain ⟨b0, b1, b2, _⟩ := val3 hY
  go_wp2_with fail
  clear a0 a1 a2 b0 b1 b2
  refine (awake7 _).mono ?_
  rintro e wn ⟨rfl, hbn⟩
  go_wp2
  go_ret
  exact ⟨rfl, hb0.trans (hbn.mono hb0.size)⟩
set_option maxRecDepth 100000 in
set_option maxHeartbeats 2000000 in
theorem valAll_no2 (w : World) (kd kx nx : Int) (sx : ByteArray) (ky ny : Int) (sy : ByteArray) (h1 : mayV (kx, nx, sx)) (h2 : ¬ mayV (ky, ny, sy)) : Calls Tryd.prog 8 #[.int .i64 kd, .agg #[.int .i64 kx, .int .i64 nx, .string sx], .agg #[.int .i64 ky, .int .i64 ny, .string sy]] w fun e w' => e = .returned (.bool true) ∧ Below w.heap.size w w' := by
  have M1 := Lib.hid (fun W => may_any W kx nx sx)
  rw [decide_eq_true h1] at M1
  have M2 := Lib.hid (fun W => may_any W ky ny sy)
  rw [decide_eq_false h2] at M2
  clear h1 h2
  have hb0 := ((Below.refl w.heap.size w).alloc (Nat.le_refl _) (.cells #[.int .i64 kx, .int .i64 nx, .string sx] 24)).alloc (by simp) (.cells #[.int .i64 ky, .int .i64 ny, .string sy] 24)
  go_enter Tryd.func8, Tryd.ntmps8
  go_wp2_with fail
  any_goals (refine (awake7 _).mono ?_; rintro e wn ⟨rfl, hbn⟩; go_wp2; go_ret; exact ⟨rfl, hb0.trans (hbn.mono (by simp; try omega))⟩)
  obtain ⟨P, hP⟩ : ∃ P, P = w.heap.size := ⟨_, rfl⟩
  have hX : ((w.alloc (.cells #[.int .i64 kx, .int .i64 nx, .string sx] 24)).alloc (.cells #[.int .i64 ky, .int .i64 ny, .string sy] 24)).heap[P]? = some (.cells #[.int .i64 kx, .int .i64 nx, .string sx] 24 (0, 0)) := by rw [hP]; exact (Below.heap_alloc _ _ _ (by simp)).trans (heap_alloc_new _ _)
  have hY : ((w.alloc (.cells #[.int .i64 kx, .int .i64 nx, .string sx] 24)).alloc (.cells #[.int .i64 ky, .int .i64 ny, .string sy] 24)).heap[P + 1]? = some (.cells #[.int .i64 ky, .int .i64 ny, .string sy] 24 (0, 0)) := by rw [hP, ← World.size_alloc w (.cells #[.int .i64 kx, .int .i64 nx, .string sx] 24)]; exact heap_alloc_new _ _
  rw [← hP]
  generalize ((w.alloc (.cells #[.int .i64 kx, .int .i64 nx, .string sx] 24)).alloc (.cells #[.int .i64 ky, .int .i64 ny, .string sy] 24)) = wv at *
  clear hP
  refine (M1.out _).mono ?_
  rintro e wn ⟨rfl, hbn⟩
  have hX := (hbn.block _ (Array.getElem?_eq_some_iff.1 hX).1).trans hX
  have hY := (hbn.block _ (Array.getElem?_eq_some_iff.1 hY).1).trans hY
  have hb0 := hb0.trans (hbn.mono hb0.size)
  clear hbn
  generalize wn = wv at *
  obtain ⟨a0, a1, a2, _⟩ := val3 hX
  obtain ⟨b0, b1, b2, _⟩ := val3 hY
  go_wp2_with fail
  clear a0 a1 a2 b0 b1 b2
  refine (M2.out _).mono ?_
  rintro e wn ⟨rfl, hbn⟩
  have hX := (hbn.block _ (Array.getElem?_eq_some_iff.1 hX).1).trans hX
  have hY := (hbn.block _ (Array.getElem?_eq_some_iff.1 hY).1).trans hY
  have hb0 := hb0.trans (hbn.mono hb0.size)
  clear hbn
  generalize wn = wv at *
  obtain ⟨a0, a1, a2, _⟩ := val3 hX
  obtain ⟨b0, b1, b2, _⟩ := val3 hY
  go_wp2_with fail
  clear a0 a1 a2 b0 b1 b2
  refine (awake7 _).mono ?_
  rintro e wn ⟨rfl, hbn⟩
  go_wp2
  go_ret
  exact ⟨rfl, hb0.trans (hbn.mono hb0.size)⟩
theorem vInt_any (w : World) (k n : Int) (s : ByteArray) (hz : k = 0 → n = 0) : Calls Tryd.prog 18 #[.agg #[.int .i64 k, .int .i64 n, .string s]] w fun e w' => e = .returned (.tuple #[.int .i64 (if isNum (k, n, s) then n else 0), .bool (decide (isNum (k, n, s)))]) ∧ Below w.heap.size w w' := by
  have h := valInt_all w k n s hz
  by_cases i : isNum (k, n, s)
  · have e : kInt k n = (n, true) := if_pos i
    rw [e] at h
    rwa [if_pos i, decide_eq_true i]
  · have e : kInt k n = (0, false) := if_neg i
    rw [e] at h
    rwa [if_neg i, decide_eq_false i]
set_option maxRecDepth 100000 in
set_option maxHeartbeats 2000000 in
theorem valAll_may (w : World) (kd kx nx : Int) (sx : ByteArray) (ky ny : Int) (sy : ByteArray) (h1 : mayV (kx, nx, sx)) (h2 : mayV (ky, ny, sy)) (hnx : InR nx) (hny : InR ny) (htab : Tab w) : Calls Tryd.prog 8 #[.int .i64 kd, .agg #[.int .i64 kx, .int .i64 nx, .string sx], .agg #[.int .i64 ky, .int .i64 ny, .string sy]] w fun e w' => e = .returned (.bool true) ∧ Below w.heap.size w w' := by
  have M1 := Lib.hid (fun W => may_any W kx nx sx)
  rw [decide_eq_true h1] at M1
  have M2 := Lib.hid (fun W => may_any W ky ny sy)
  rw [decide_eq_true h2] at M2
  have A1 := Lib.hid (fun W => truth_any W kx nx sx h1)
  have A2 := Lib.hid (fun W => rTruth_any W kx nx sx)
  obtain ⟨tt, htt⟩ : ∃ tt, (vtruth (kx, nx, sx)).1 = tt := ⟨_, rfl⟩
  obtain ⟨to, hto⟩ : ∃ to, (vtruth (kx, nx, sx)).2 = to := ⟨_, rfl⟩
  rw [htt, hto] at A1 A2
  have B1 := Lib.hid (fun W => vInt_any W kx nx sx (may_zero h1))
  have B2 := Lib.hid (fun W => rInt_any W kx nx sx)
  obtain ⟨iv, hiv⟩ : ∃ iv, (if isNum (kx, nx, sx) then nx else 0) = iv := ⟨_, rfl⟩
  obtain ⟨io, hio⟩ : ∃ io, decide (isNum (kx, nx, sx)) = io := ⟨_, rfl⟩
  rw [hiv, hio] at B1 B2
  have S1 := Lib.hid (fun W (hW : Tab W) => text_any W kx nx sx hnx hW)
  have S2 := Lib.hid (fun W => rtext_any W kx nx sx hnx h1)
  obtain ⟨S, hS⟩ : ∃ S, vtext (kx, nx, sx) = S := ⟨_, rfl⟩
  rw [hS] at S1 S2
  have N1 := Lib.hid (fun W => neg_any W kx nx sx hnx h1)
  have N2 := Lib.hid (fun W => rneg_any W kx nx sx hnx)
  obtain ⟨N, hN⟩ : ∃ N, vneg (kx, nx, sx) = N := ⟨_, rfl⟩
  rw [hN] at N1 N2
  have T1 := Lib.hid (fun W (hW : Tab W) => two_any W kd kx nx ky ny sx sy hnx hny h1 h2 hW)
  have T2 := Lib.hid (fun W => rtwo_any W kd kx nx ky ny sx sy hnx hny h1 h2)
  obtain ⟨D, hD⟩ : ∃ D, vtwo kd (kx, nx, sx) (ky, ny, sy) = D := ⟨_, rfl⟩
  rw [hD] at T1 T2
  obtain ⟨kn, nn, sn⟩ := N
  obtain ⟨kv, nv, sv⟩ := D
  have HT := Lib.hid (fun W (hb : Below w.heap.size w W) => htab.on hb)
  clear h1 h2 htt hto hiv hio hS hN hD hnx hny htab
  have hb0 := ((Below.refl w.heap.size w).alloc (Nat.le_refl _) (.cells #[.int .i64 kx, .int .i64 nx, .string sx] 24)).alloc (by simp) (.cells #[.int .i64 ky, .int .i64 ny, .string sy] 24)
  go_enter Tryd.func8, Tryd.ntmps8
  go_wp2_with fail
  any_goals (refine (awake7 _).mono ?_; rintro e wn ⟨rfl, hbn⟩; go_wp2; go_ret; exact ⟨rfl, hb0.trans (hbn.mono (by simp; try omega))⟩)
  obtain ⟨P, hP⟩ : ∃ P, P = w.heap.size := ⟨_, rfl⟩
  have hX : ((w.alloc (.cells #[.int .i64 kx, .int .i64 nx, .string sx] 24)).alloc (.cells #[.int .i64 ky, .int .i64 ny, .string sy] 24)).heap[P]? = some (.cells #[.int .i64 kx, .int .i64 nx, .string sx] 24 (0, 0)) := by rw [hP]; exact (Below.heap_alloc _ _ _ (by simp)).trans (heap_alloc_new _ _)
  have hY : ((w.alloc (.cells #[.int .i64 kx, .int .i64 nx, .string sx] 24)).alloc (.cells #[.int .i64 ky, .int .i64 ny, .string sy] 24)).heap[P + 1]? = some (.cells #[.int .i64 ky, .int .i64 ny, .string sy] 24 (0, 0)) := by rw [hP, ← World.size_alloc w (.cells #[.int .i64 kx, .int .i64 nx, .string sx] 24)]; exact heap_alloc_new _ _
  rw [← hP]
  generalize ((w.alloc (.cells #[.int .i64 kx, .int .i64 nx, .string sx] 24)).alloc (.cells #[.int .i64 ky, .int .i64 ny, .string sy] 24)) = wv at *
  clear hP
  refine (M1.out _).mono ?_
  rintro e wn ⟨rfl, hbn⟩
  have hX := (hbn.block _ (Array.getElem?_eq_some_iff.1 hX).1).trans hX
  have hY := (hbn.block _ (Array.getElem?_eq_some_iff.1 hY).1).trans hY
  have hb0 := hb0.trans (hbn.mono hb0.size)
  clear hbn
  generalize wn = wv at *
  obtain ⟨a0, a1, a2, _⟩ := val3 hX
  obtain ⟨b0, b1, b2, _⟩ := val3 hY
  go_wp2_with fail
  clear a0 a1 a2 b0 b1 b2
  refine (M2.out _).mono ?_
  rintro e wn ⟨rfl, hbn⟩
  have hX := (hbn.block _ (Array.getElem?_eq_some_iff.1 hX).1).trans hX
  have hY := (hbn.block _ (Array.getElem?_eq_some_iff.1 hY).1).trans hY
  have hb0 := hb0.trans (hbn.mono hb0.size)
  clear hbn
  generalize wn = wv at *
  obtain ⟨a0, a1, a2, _⟩ := val3 hX
  obtain ⟨b0, b1, b2, _⟩ := val3 hY
  go_wp2_with fail
  clear a0 a1 a2 b0 b1 b2
  refine (A1.out _).mono ?_
  rintro e wn ⟨rfl, hbn⟩
  have hX := (hbn.block _ (Array.getElem?_eq_some_iff.1 hX).1).trans hX
  have hY := (hbn.block _ (Array.getElem?_eq_some_iff.1 hY).1).trans hY
  have hb0 := hb0.trans (hbn.mono hb0.size)
  clear hbn
  generalize wn = wv at *
  obtain ⟨a0, a1, a2, _⟩ := val3 hX
  obtain ⟨b0, b1, b2, _⟩ := val3 hY
  go_wp2_with fail
  clear a0 a1 a2 b0 b1 b2
  refine (A2.out _).mono ?_
  rintro e wn ⟨rfl, hbn⟩
  have hX := (hbn.block _ (Array.getElem?_eq_some_iff.1 hX).1).trans hX
  have hY := (hbn.block _ (Array.getElem?_eq_some_iff.1 hY).1).trans hY
  have hb0 := hb0.trans (hbn.mono hb0.size)
  clear hbn
  generalize wn = wv at *
  obtain ⟨a0, a1, a2, _⟩ := val3 hX
  obtain ⟨b0, b1, b2, _⟩ := val3 hY
  go_wp2_with fail
  clear a0 a1 a2 b0 b1 b2
  refine (B1.out _).mono ?_
  rintro e wn ⟨rfl, hbn⟩
  have hX := (hbn.block _ (Array.getElem?_eq_some_iff.1 hX).1).trans hX
  have hY := (hbn.block _ (Array.getElem?_eq_some_iff.1 hY).1).trans hY
  have hb0 := hb0.trans (hbn.mono hb0.size)
  clear hbn
  generalize wn = wv at *
  obtain ⟨a0, a1, a2, _⟩ := val3 hX
  obtain ⟨b0, b1, b2, _⟩ := val3 hY
  go_wp2_with fail
  clear a0 a1 a2 b0 b1 b2
  refine (B2.out _).mono ?_
  rintro e wn ⟨rfl, hbn⟩
  have hX := (hbn.block _ (Array.getElem?_eq_some_iff.1 hX).1).trans hX
  have hY := (hbn.block _ (Array.getElem?_eq_some_iff.1 hY).1).trans hY
  have hb0 := hb0.trans (hbn.mono hb0.size)
  clear hbn
  generalize wn = wv at *
  obtain ⟨a0, a1, a2, _⟩ := val3 hX
  obtain ⟨b0, b1, b2, _⟩ := val3 hY
  go_wp2_with fail
  clear a0 a1 a2 b0 b1 b2
  have stS := str_eq_true (rfl : S = S)
  have stN := str_eq_true (rfl : sn = sn)
  have stV := str_eq_true (rfl : sv = sv)
  have hbw := hb0
  clear hb0
  refine wp_region_tree [] (.free 0 (.free 2 (.eff 1 (.eff 3 (.free 4 (.free 5 (.free 6 (.free 8 (.eff 7 (.eff 9 (.free 10 (.free 11 (.free 12 (.free 13 (.free 14 (.free 15 (.free 17 (.free 18 (.free 19 (.eff 16 (.eff 20 (.free 21 (.free 22 (.free 23 (.free 24 (.free 25 (.free 26 (.free 27 (.free 28 (.free 29 (.free 30 (.free 31 (.free 32 (.free 33 (.free 34 (.free 35 (.free 36 (.free 37 (.free 38 (.free 39 (.free 40 (.free 41 (.free 42 (.free 43 (.eff 44 (.free 45 (.free 46 .nil))))))))))))))))))))))))))))))))))))))))))))))) (by kernel_rfl) (by kernel_rfl) (fun _ _ d _ _ h => by cases d <;> exact h) ?_
  have hbw := hbw.drew
  have hX : wv.drew.heap[P]? = _ := hX
  have hY : wv.drew.heap[P + 1]? = _ := hY
  generalize wv.drew = wv at *
  have hXl : P < wv.heap.size := (Array.getElem?_eq_some_iff.1 hX).1
  have hYl : P + 1 < wv.heap.size := (Array.getElem?_eq_some_iff.1 hY).1
  conv => arg 4; whnf
  conv => arg 4; arg 1; whnf
  refine pt_loadB (k := P) (fun W h => load_val _ W _ _ _ (h.trans hX)) hXl (by rfl) rfl rfl ?_
  simp only [Act.put, List.setIfInBounds_toArray, List.set_cons_zero, List.set_cons_succ]
  conv => arg 4; whnf
  conv => arg 4; arg 1; whnf
  refine pt_loadB (k := P) (fun W h => load_val _ W _ _ _ (h.trans hX)) hXl (by rfl) rfl rfl ?_
  simp only [Act.put, List.setIfInBounds_toArray, List.set_cons_zero, List.set_cons_succ]
  conv => arg 4; whnf
  conv => arg 4; arg 1; whnf
  refine pt_eff (by rfl) (fun K hK => ?_)
  go_wp2_with fail
  refine (S1.out _ (HT.out _ hbw)).mono ?_
  rintro en wn ⟨rfl, hbn⟩
  refine hK _ _ hbn ?_
  clear hK K
  have hbw := hbw.trans (hbn.mono hbw.size)
  have hX := (hbn.block _ hXl).trans hX
  have hY := (hbn.block _ hYl).trans hY
  clear hXl hYl hbn
  generalize wn = wv at *
  have hXl : P < wv.heap.size := (Array.getElem?_eq_some_iff.1 hX).1
  have hYl : P + 1 < wv.heap.size := (Array.getElem?_eq_some_iff.1 hY).1
  conv => arg 4; whnf
  conv => arg 4; arg 1; whnf
  refine pt_eff (by rfl) (fun K hK => ?_)
  go_wp2_with fail
  refine (S2.out _).mono ?_
  rintro en wn ⟨rfl, hbn⟩
  refine hK _ _ hbn ?_
  clear hK K
  have hbw := hbw.trans (hbn.mono hbw.size)
  have hX := (hbn.block _ hXl).trans hX
  have hY := (hbn.block _ hYl).trans hY
  clear hXl hYl hbn
  generalize wn = wv at *
  have hXl : P < wv.heap.size := (Array.getElem?_eq_some_iff.1 hX).1
  have hYl : P + 1 < wv.heap.size := (Array.getElem?_eq_some_iff.1 hY).1
  conv => arg 4; whnf
  conv => arg 4; arg 1; whnf
  refine pt_free (by rfl) (fun K hK => ?_)
  go_big_quiet_op
  first | (refine hK _ ?_; clear hK K) | (refine ⟨_, fun _ _ => rfl, hK _ ?_⟩; clear hK K)
  conv => arg 4; whnf
  conv => arg 4; arg 1; whnf
  refine pt_free (by rfl) (fun K hK => ?_)
  go_big_quiet_op
  first | (refine hK _ ?_; clear hK K) | (refine ⟨_, fun _ _ => rfl, hK _ ?_⟩; clear hK K)
  conv => arg 4; whnf
  conv => arg 4; arg 1; whnf
  refine pt_loadB (k := P) (fun W h => load_val _ W _ _ _ (h.trans hX)) hXl (by rfl) rfl rfl ?_
  simp only [Act.put, List.setIfInBounds_toArray, List.set_cons_zero, List.set_cons_succ]
  conv => arg 4; whnf
  conv => arg 4; arg 1; whnf
  refine pt_loadB (k := P) (fun W h => load_val _ W _ _ _ (h.trans hX)) hXl (by rfl) rfl rfl ?_
  simp only [Act.put, List.setIfInBounds_toArray, List.set_cons_zero, List.set_cons_succ]
  conv => arg 4; whnf
  conv => arg 4; arg 1; whnf
  refine pt_eff (by rfl) (fun K hK => ?_)
  go_wp2_with fail
  refine (N1.out _).mono ?_
  rintro en wn ⟨rfl, hbn⟩
  refine hK _ _ hbn ?_
  clear hK K
  have hbw := hbw.trans (hbn.mono hbw.size)
  have hX := (hbn.block _ hXl).trans hX
  have hY := (hbn.block _ hYl).trans hY
  clear hXl hYl hbn
  generalize wn = wv at *
  have hXl : P < wv.heap.size := (Array.getElem?_eq_some_iff.1 hX).1
  have hYl : P + 1 < wv.heap.size := (Array.getElem?_eq_some_iff.1 hY).1
  conv => arg 4; whnf
  conv => arg 4; arg 1; whnf
  refine pt_eff (by rfl) (fun K hK => ?_)
  go_wp2_with fail
  refine (N2.out _).mono ?_
  rintro en wn ⟨rfl, hbn⟩
  refine hK _ _ hbn ?_
  clear hK K
  have hbw := hbw.trans (hbn.mono hbw.size)
  have hX := (hbn.block _ hXl).trans hX
  have hY := (hbn.block _ hYl).trans hY
  clear hXl hYl hbn
  generalize wn = wv at *
  have hXl : P < wv.heap.size := (Array.getElem?_eq_some_iff.1 hX).1
  have hYl : P + 1 < wv.heap.size := (Array.getElem?_eq_some_iff.1 hY).1
  conv => arg 4; whnf
  conv => arg 4; arg 1; whnf
  refine pt_free (by rfl) (fun K hK => ?_)
  go_big_quiet_op
  first | (refine hK _ ?_; clear hK K) | (refine ⟨_, fun _ _ => rfl, hK _ ?_⟩; clear hK K)
  conv => arg 4; whnf
  conv => arg 4; arg 1; whnf
  refine pt_free (by rfl) (fun K hK => ?_)
  go_big_quiet_op
  first | (refine hK _ ?_; clear hK K) | (refine ⟨_, fun _ _ => rfl, hK _ ?_⟩; clear hK K)
  conv => arg 4; whnf
  conv => arg 4; arg 1; whnf
  refine pt_free (by rfl) (fun K hK => ?_)
  go_big_quiet_op
  first | (refine hK _ ?_; clear hK K) | (refine ⟨_, fun _ _ => rfl, hK _ ?_⟩; clear hK K)
  conv => arg 4; whnf
  conv => arg 4; arg 1; whnf
  refine pt_free (by rfl) (fun K hK => ?_)
  go_big_quiet_op
  first | (refine hK _ ?_; clear hK K) | (refine ⟨_, fun _ _ => rfl, hK _ ?_⟩; clear hK K)
  conv => arg 4; whnf
  conv => arg 4; arg 1; whnf
  refine pt_loadB (k := P) (fun W h => load_val _ W _ _ _ (h.trans hX)) hXl (by rfl) rfl rfl ?_
  simp only [Act.put, List.setIfInBounds_toArray, List.set_cons_zero, List.set_cons_succ]
  conv => arg 4; whnf
  conv => arg 4; arg 1; whnf
  refine pt_loadB (k := P + 1) (fun W h => load_val _ W _ _ _ (h.trans hY)) hYl (by rfl) rfl rfl ?_
  simp only [Act.put, List.setIfInBounds_toArray, List.set_cons_zero, List.set_cons_succ]
  conv => arg 4; whnf
  conv => arg 4; arg 1; whnf
  refine pt_free (by rfl) (fun K hK => ?_)
  go_big_quiet_op
  first | (refine hK _ ?_; clear hK K) | (refine ⟨_, fun _ _ => rfl, hK _ ?_⟩; clear hK K)
  conv => arg 4; whnf
  conv => arg 4; arg 1; whnf
  refine pt_loadB (k := P) (fun W h => load_val _ W _ _ _ (h.trans hX)) hXl (by rfl) rfl rfl ?_
  simp only [Act.put, List.setIfInBounds_toArray, List.set_cons_zero, List.set_cons_succ]
  conv => arg 4; whnf
  conv => arg 4; arg 1; whnf
  refine pt_loadB (k := P + 1) (fun W h => load_val _ W _ _ _ (h.trans hY)) hYl (by rfl) rfl rfl ?_
  simp only [Act.put, List.setIfInBounds_toArray, List.set_cons_zero, List.set_cons_succ]
  conv => arg 4; whnf
  conv => arg 4; arg 1; whnf
  refine pt_eff (by rfl) (fun K hK => ?_)
  go_wp2_with fail
  refine (T1.out _ (HT.out _ hbw)).mono ?_
  rintro en wn ⟨rfl, hbn⟩
  refine hK _ _ hbn ?_
  clear hK K
  have hbw := hbw.trans (hbn.mono hbw.size)
  have hX := (hbn.block _ hXl).trans hX
  have hY := (hbn.block _ hYl).trans hY
  clear hXl hYl hbn
  generalize wn = wv at *
  have hXl : P < wv.heap.size := (Array.getElem?_eq_some_iff.1 hX).1
  have hYl : P + 1 < wv.heap.size := (Array.getElem?_eq_some_iff.1 hY).1
  conv => arg 4; whnf
  conv => arg 4; arg 1; whnf
  refine pt_eff (by rfl) (fun K hK => ?_)
  go_wp2_with fail
  refine (T2.out _).mono ?_
  rintro en wn ⟨rfl, hbn⟩
  refine hK _ _ hbn ?_
  clear hK K
  have hbw := hbw.trans (hbn.mono hbw.size)
  have hX := (hbn.block _ hXl).trans hX
  have hY := (hbn.block _ hYl).trans hY
  clear hXl hYl hbn
  generalize wn = wv at *
  have hXl : P < wv.heap.size := (Array.getElem?_eq_some_iff.1 hX).1
  have hYl : P + 1 < wv.heap.size := (Array.getElem?_eq_some_iff.1 hY).1
  conv => arg 4; whnf
  conv => arg 4; arg 1; whnf
  refine pt_free (by rfl) (fun K hK => ?_)
  go_big_quiet_op
  first | (refine hK _ ?_; clear hK K) | (refine ⟨_, fun _ _ => rfl, hK _ ?_⟩; clear hK K)
  conv => arg 4; whnf
  conv => arg 4; arg 1; whnf
  refine pt_free (by rfl) (fun K hK => ?_)
  go_big_quiet_op
  first | (refine hK _ ?_; clear hK K) | (refine ⟨_, fun _ _ => rfl, hK _ ?_⟩; clear hK K)
  conv => arg 4; whnf
  conv => arg 4; arg 1; whnf
  refine pt_free (by rfl) (fun K hK => ?_)
  go_big_quiet_op
  first | (refine hK _ ?_; clear hK K) | (refine ⟨_, fun _ _ => rfl, hK _ ?_⟩; clear hK K)
  conv => arg 4; whnf
  conv => arg 4; arg 1; whnf
  refine pt_free (by rfl) (fun K hK => ?_)
  go_big_quiet_op
  first | (refine hK _ ?_; clear hK K) | (refine ⟨_, fun _ _ => rfl, hK _ ?_⟩; clear hK K)
  conv => arg 4; whnf
  conv => arg 4; arg 1; whnf
  refine pt_free (by rfl) (fun K hK => ?_)
  go_big_quiet_op
  first | (refine hK _ ?_; clear hK K) | (refine ⟨_, fun _ _ => rfl, hK _ ?_⟩; clear hK K)
  conv => arg 4; whnf
  conv => arg 4; arg 1; whnf
  refine pt_free (by rfl) (fun K hK => ?_)
  go_big_quiet_op
  first | (refine hK _ ?_; clear hK K) | (refine ⟨_, fun _ _ => rfl, hK _ ?_⟩; clear hK K)
  conv => arg 4; whnf
  conv => arg 4; arg 1; whnf
  refine pt_free (by rfl) (fun K hK => ?_)
  go_big_quiet_op
  first | (refine hK _ ?_; clear hK K) | (refine ⟨_, fun _ _ => rfl, hK _ ?_⟩; clear hK K)
  conv => arg 4; whnf
  conv => arg 4; arg 1; whnf
  refine pt_free (by rfl) (fun K hK => ?_)
  go_big_quiet_op
  first | (refine hK _ ?_; clear hK K) | (refine ⟨_, fun _ _ => rfl, hK _ ?_⟩; clear hK K)
  conv => arg 4; whnf
  conv => arg 4; arg 1; whnf
  refine pt_free (by rfl) (fun K hK => ?_)
  go_big_quiet_op
  first | (refine hK _ ?_; clear hK K) | (refine ⟨_, fun _ _ => rfl, hK _ ?_⟩; clear hK K)
  conv => arg 4; whnf
  conv => arg 4; arg 1; whnf
  refine pt_free (by rfl) (fun K hK => ?_)
  go_big_quiet_op
  first | (refine hK _ ?_; clear hK K) | (refine ⟨_, fun _ _ => rfl, hK _ ?_⟩; clear hK K)
  conv => arg 4; whnf
  conv => arg 4; arg 1; whnf
  refine pt_free (by rfl) (fun K hK => ?_)
  go_big_quiet_op
  first | (refine hK _ ?_; clear hK K) | (refine ⟨_, fun _ _ => rfl, hK _ ?_⟩; clear hK K)
  conv => arg 4; whnf
  conv => arg 4; arg 1; whnf
  refine pt_free (by rfl) (fun K hK => ?_)
  go_big_quiet_op
  first | (refine hK _ ?_; clear hK K) | (refine ⟨_, fun _ _ => rfl, hK _ ?_⟩; clear hK K)
  conv => arg 4; whnf
  conv => arg 4; arg 1; whnf
  refine pt_free (by rfl) (fun K hK => ?_)
  go_big_quiet_op
  first | (refine hK _ ?_; clear hK K) | (refine ⟨_, fun _ _ => rfl, hK _ ?_⟩; clear hK K)
  conv => arg 4; whnf
  conv => arg 4; arg 1; whnf
  refine pt_free (by rfl) (fun K hK => ?_)
  go_big_quiet_op
  first | (refine hK _ ?_; clear hK K) | (refine ⟨_, fun _ _ => rfl, hK _ ?_⟩; clear hK K)
  conv => arg 4; whnf
  conv => arg 4; arg 1; whnf
  refine pt_free (by rfl) (fun K hK => ?_)
  go_big_quiet_op
  first | (refine hK _ ?_; clear hK K) | (refine ⟨_, fun _ _ => rfl, hK _ ?_⟩; clear hK K)
  conv => arg 4; whnf
  conv => arg 4; arg 1; whnf
  refine pt_free (by rfl) (fun K hK => ?_)
  go_big_quiet_op
  first | (refine hK _ ?_; clear hK K) | (refine ⟨_, fun _ _ => rfl, hK _ ?_⟩; clear hK K)
  conv => arg 4; whnf
  conv => arg 4; arg 1; whnf
  refine pt_free (by rfl) (fun K hK => ?_)
  go_big_quiet_op
  first | (refine hK _ ?_; clear hK K) | (refine ⟨_, fun _ _ => rfl, hK _ ?_⟩; clear hK K)
  conv => arg 4; whnf
  conv => arg 4; arg 1; whnf
  refine pt_free (by rfl) (fun K hK => ?_)
  go_big_quiet_op
  first | (refine hK _ ?_; clear hK K) | (refine ⟨_, fun _ _ => rfl, hK _ ?_⟩; clear hK K)
  conv => arg 4; whnf
  conv => arg 4; arg 1; whnf
  refine pt_free (by rfl) (fun K hK => ?_)
  go_big_quiet_op
  first | (refine hK _ ?_; clear hK K) | (refine ⟨_, fun _ _ => rfl, hK _ ?_⟩; clear hK K)
  conv => arg 4; whnf
  conv => arg 4; arg 1; whnf
  refine pt_free (by rfl) (fun K hK => ?_)
  go_big_quiet_op
  first | (refine hK _ ?_; clear hK K) | (refine ⟨_, fun _ _ => rfl, hK _ ?_⟩; clear hK K)
  conv => arg 4; whnf
  conv => arg 4; arg 1; whnf
  refine pt_free (by rfl) (fun K hK => ?_)
  go_big_quiet_op
  first | (refine hK _ ?_; clear hK K) | (refine ⟨_, fun _ _ => rfl, hK _ ?_⟩; clear hK K)
  conv => arg 4; whnf
  conv => arg 4; arg 1; whnf
  refine pt_free (by rfl) (fun K hK => ?_)
  go_big_quiet_op
  first | (refine hK _ ?_; clear hK K) | (refine ⟨_, fun _ _ => rfl, hK _ ?_⟩; clear hK K)
  conv => arg 4; whnf
  conv => arg 4; arg 1; whnf
  refine pt_free (by rfl) (fun K hK => ?_)
  go_big_quiet_op
  first | (refine hK _ ?_; clear hK K) | (refine ⟨_, fun _ _ => rfl, hK _ ?_⟩; clear hK K)
  conv => arg 4; whnf
  conv => arg 4; arg 1; whnf
  refine pt_eff (by rfl) (fun K hK => ?_)
  go_wp2_with fail
  refine (awake7 _).mono ?_
  rintro en wn ⟨rfl, hbn⟩
  refine hK _ _ hbn ?_
  clear hK K
  have hbw := hbw.trans (hbn.mono hbw.size)
  have hX := (hbn.block _ hXl).trans hX
  have hY := (hbn.block _ hYl).trans hY
  clear hXl hYl hbn
  generalize wn = wv at *
  have hXl : P < wv.heap.size := (Array.getElem?_eq_some_iff.1 hX).1
  have hYl : P + 1 < wv.heap.size := (Array.getElem?_eq_some_iff.1 hY).1
  conv => arg 4; whnf
  conv => arg 4; arg 1; whnf
  refine pt_free (by rfl) (fun K hK => ?_)
  go_big_quiet_op
  first | (refine hK _ ?_; clear hK K) | (refine ⟨_, fun _ _ => rfl, hK _ ?_⟩; clear hK K)
  conv => arg 4; whnf
  conv => arg 4; arg 1; whnf
  refine pt_free (by rfl) (fun K hK => ?_)
  go_big_quiet_op
  first | (refine hK _ ?_; clear hK K) | (refine ⟨_, fun _ _ => rfl, hK _ ?_⟩; clear hK K)
  refine pt_nil ?_
  go_wp2
  go_ret
  exact ⟨rfl, hbw⟩
theorem valAll_walk (w : World) (kd kx nx : Int) (sx : ByteArray) (ky ny : Int) (sy : ByteArray) (_ : (Lit.int .i64 kd).wf = true) (_ : (Lit.int .i64 kx).wf = true) (hnx : (Lit.int .i64 nx).wf = true) (_ : sx.size ≤ maxLen) (_ : (Lit.int .i64 ky).wf = true) (hny : (Lit.int .i64 ny).wf = true) (_ : sy.size ≤ maxLen) (htab : Tab w) : Calls Tryd.prog 8 #[.int .i64 kd, .agg #[.int .i64 kx, .int .i64 nx, .string sx], .agg #[.int .i64 ky, .int .i64 ny, .string sy]] w fun e w' => e = .returned (.bool true) ∧ Below w.heap.size w w' := by
  by_cases h1 : mayV (kx, nx, sx)
  · by_cases h2 : mayV (ky, ny, sy)
    · exact valAll_may w kd kx nx sx ky ny sy h1 h2 (inR_wf.1 hnx) (inR_wf.1 hny) htab
    · exact valAll_no2 w kd kx nx sx ky ny sy h1 h2
  · exact valAll_no1 w kd kx nx sx ky ny sy h1
end Go.Proofs.YtejpfpklgkcagaaDoor
