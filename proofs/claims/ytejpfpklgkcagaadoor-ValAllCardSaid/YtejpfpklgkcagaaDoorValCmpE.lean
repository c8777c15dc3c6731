/- val.Two at comparisons. Written by valcmpe.py. -/
import Derived.Test.YtejpfpklgkcagaaDoorValCmpD
import Derived.Test.YtejpfpklgkcagaaDoorRefTwoB
namespace Go.Proofs.YtejpfpklgkcagaaDoor
open Go.RowKit Go.Maps
theorem cmp_all (w : World) (k n k2 n2 : Int) (s t : ByteArray) : Calls Tryd.prog 25 #[.agg #[.int .i64 k, .int .i64 n, .string s], .agg #[.int .i64 k2, .int .i64 n2, .string t]] w fun e w' => e = .returned (.int .i64 (vorder (k, n, s) (k2, n2, t))) ∧ Below w.heap.size w w' :=
  cmp_gen w k n k2 n2 _ _ _ _ s t _ _ rfl rfl
set_option maxRecDepth 100000 in
set_option maxHeartbeats 2000000 in
theorem gtwo_eq (w : World) (k n k2 n2 : Int) (s t : ByteArray) (hk4 : k ≠ 4) (hk24 : k2 ≠ 4) (c r : Int) (hc : vorder (k, n, s) (k2, n2, t) = c) (hr : bN (c == 0) = r) :
    Calls Tryd.prog 11 #[.int .i64 9, .agg #[.int .i64 k, .int .i64 n, .string s], .agg #[.int .i64 k2, .int .i64 n2, .string t]] w fun e w' => e = .returned (.agg #[.int .i64 3, .int .i64 r, .string ⟨#[]⟩]) ∧ Below w.heap.size w w' := by
  have CO := Lib.hid (fun W => cmp_all W k n k2 n2 s t)
  rw [hc] at CO
  have HR := Lib.hid hr
  clear hc hr
  have a1 : (k == 4) = false := by simpa using hk4
  have a2 : decide (k = 4) = false := decide_eq_false hk4
  have a3 : (k2 == 4) = false := by simpa using hk24
  have a4 : decide (k2 = 4) = false := decide_eq_false hk24
  go_enter Tryd.func11, Tryd.ntmps11
  go_wp2_with fail
  obtain ⟨W, hW⟩ : ∃ W, W = (((w.alloc (.cells #[.int .i64 k, .int .i64 n, .string s] 24)).alloc (.cells #[.int .i64 k2, .int .i64 n2, .string t] 24)).alloc (.cells #[.int .i64 0, .int .i64 0, .string ⟨#[]⟩] 24)) := ⟨_, rfl⟩
  have hs0 := heap_alloc_new w (.cells #[.int .i64 k, .int .i64 n, .string s] 24)
  have hs1 := heap_alloc_new (w.alloc (.cells #[.int .i64 k, .int .i64 n, .string s] 24)) (.cells #[.int .i64 k2, .int .i64 n2, .string t] 24)
  rw [World.size_alloc] at hs1
  have hs2 := heap_alloc_new ((w.alloc (.cells #[.int .i64 k, .int .i64 n, .string s] 24)).alloc (.cells #[.int .i64 k2, .int .i64 n2, .string t] 24)) (.cells #[.int .i64 0, .int .i64 0, .string ⟨#[]⟩] 24)
  rw [World.size_alloc, World.size_alloc] at hs2
  have hS0 : W.heap[w.heap.size]? = some (.cells #[.int .i64 k, .int .i64 n, .string s] 24 (0, 0)) := by rw [hW]; exact (Below.heap_alloc _ _ _ (by simp; try omega)).trans ((Below.heap_alloc _ _ _ (by simp; try omega)).trans (hs0))
  have hS1 : W.heap[w.heap.size + 1]? = some (.cells #[.int .i64 k2, .int .i64 n2, .string t] 24 (0, 0)) := by rw [hW]; exact (Below.heap_alloc _ _ _ (by simp; try omega)).trans (hs1)
  have hR : W.heap[w.heap.size + 1 + 1]? = some (.cells #[.int .i64 0, .int .i64 0, .string ⟨#[]⟩] 24 (0, 0)) := by rw [hW]; exact hs2
  have hsW : W.heap.size = w.heap.size + 3 := by rw [hW]; simp
  have hbW : Below w.heap.size w W := by rw [hW]; exact (((Below.refl _ _).alloc (Nat.le_refl _) _).alloc (by simp; try omega) _).alloc (by simp; try omega) _
  rw [← hW]
  clear hW hs0 hs1 hs2
  refine (CO.out _).mono ?_
  rintro e w1 ⟨rfl, hb1⟩
  have hs1 := hb1.size
  have hR6 := (hb1.block (w.heap.size + 1 + 1) (by omega)).trans hR
  have hb6 := hbW.trans (hb1.mono hbW.size)
  clear hS0 hS1 hR hb1
  go_wp2_with fail
  refine (bool_any _ _).mono ?_
  rintro e w2 ⟨rfl, hb2⟩
  have hs2 := hb2.size
  have hR7 := (hb2.block (w.heap.size + 1 + 1) (by omega)).trans hR6
  have hb7 := hb6.trans (hb2.mono hb6.size)
  clear hR6 hb6 hb2
  rw [HR.out]
  obtain ⟨r0, r1, r2, z0, z1, z2⟩ := val3 hR7
  go_wp2
  have hz := val_store (x := .int .i64 3) (y := .int .i64 r) (z := .string ⟨#[]⟩) hR7
  obtain ⟨q0, q1, q2, _⟩ := val3 hz
  refine bodyPost_ret (v := .agg #[.int .i64 3, .int .i64 r, .string ⟨#[]⟩]) ?_ rfl ?_
  · simp [results, Tryd.f11, go_sem, q0, q1, q2]
  · exact ⟨rfl, ((hb7.setCell (p := ⟨w.heap.size + 1 + 1, 0, none⟩) (by show w.heap.size ≤ w.heap.size + 1 + 1; omega) _).setCell (p := ⟨w.heap.size + 1 + 1, 1, none⟩) (by show w.heap.size ≤ w.heap.size + 1 + 1; omega) _).setCell (p := ⟨w.heap.size + 1 + 1, 2, none⟩) (by show w.heap.size ≤ w.heap.size + 1 + 1; omega) _⟩
set_option maxRecDepth 100000 in
set_option maxHeartbeats 2000000 in
theorem gtwo_ne (w : World) (k n k2 n2 : Int) (s t : ByteArray) (hk4 : k ≠ 4) (hk24 : k2 ≠ 4) (c r : Int) (hc : vorder (k, n, s) (k2, n2, t) = c) (hr : bN (c != 0) = r) :
    Calls Tryd.prog 11 #[.int .i64 10, .agg #[.int .i64 k, .int .i64 n, .string s], .agg #[.int .i64 k2, .int .i64 n2, .string t]] w fun e w' => e = .returned (.agg #[.int .i64 3, .int .i64 r, .string ⟨#[]⟩]) ∧ Below w.heap.size w w' := by
  have CO := Lib.hid (fun W => cmp_all W k n k2 n2 s t)
  rw [hc] at CO
  have HR := Lib.hid hr
  clear hc hr
  have a1 : (k == 4) = false := by simpa using hk4
  have a2 : decide (k = 4) = false := decide_eq_false hk4
  have a3 : (k2 == 4) = false := by simpa using hk24
  have a4 : decide (k2 = 4) = false := decide_eq_false hk24
  go_enter Tryd.func11, Tryd.ntmps11
  go_wp2_with fail
  obtain ⟨W, hW⟩ : ∃ W, W = (((w.alloc (.cells #[.int .i64 k, .int .i64 n, .string s] 24)).alloc (.cells #[.int .i64 k2, .int .i64 n2, .string t] 24)).alloc (.cells #[.int .i64 0, .int .i64 0, .string ⟨#[]⟩] 24)) := ⟨_, rfl⟩
  have hs0 := heap_alloc_new w (.cells #[.int .i64 k, .int .i64 n, .string s] 24)
  have hs1 := heap_alloc_new (w.alloc (.cells #[.int .i64 k, .int .i64 n, .string s] 24)) (.cells #[.int .i64 k2, .int .i64 n2, .string t] 24)
  rw [World.size_alloc] at hs1
  have hs2 := heap_alloc_new ((w.alloc (.cells #[.int .i64 k, .int .i64 n, .string s] 24)).alloc (.cells #[.int .i64 k2, .int .i64 n2, .string t] 24)) (.cells #[.int .i64 0, .int .i64 0, .string ⟨#[]⟩] 24)
  rw [World.size_alloc, World.size_alloc] at hs2
  have hS0 : W.heap[w.heap.size]? = some (.cells #[.int .i64 k, .int .i64 n, .string s] 24 (0, 0)) := by rw [hW]; exact (Below.heap_alloc _ _ _ (by simp; try omega)).trans ((Below.heap_alloc _ _ _ (by simp; try omega)).trans (hs0))
  have hS1 : W.heap[w.heap.size + 1]? = some (.cells #[.int .i64 k2, .int .i64 n2, .string t] 24 (0, 0)) := by rw [hW]; exact (Below.heap_alloc _ _ _ (by simp; try omega)).trans (hs1)
  have hR : W.heap[w.heap.size + 1 + 1]? = some (.cells #[.int .i64 0, .int .i64 0, .string ⟨#[]⟩] 24 (0, 0)) := by rw [hW]; exact hs2
  have hsW : W.heap.size = w.heap.size + 3 := by rw [hW]; simp
  have hbW : Below w.heap.size w W := by rw [hW]; exact (((Below.refl _ _).alloc (Nat.le_refl _) _).alloc (by simp; try omega) _).alloc (by simp; try omega) _
  rw [← hW]
  clear hW hs0 hs1 hs2
  refine (CO.out _).mono ?_
  rintro e w1 ⟨rfl, hb1⟩
  have hs1 := hb1.size
  have hR6 := (hb1.block (w.heap.size + 1 + 1) (by omega)).trans hR
  have hb6 := hbW.trans (hb1.mono hbW.size)
  clear hS0 hS1 hR hb1
  go_wp2_with fail
  refine (bool_any _ _).mono ?_
  rintro e w2 ⟨rfl, hb2⟩
  have hs2 := hb2.size
  have hR7 := (hb2.block (w.heap.size + 1 + 1) (by omega)).trans hR6
  have hb7 := hb6.trans (hb2.mono hb6.size)
  clear hR6 hb6 hb2
  rw [HR.out]
  obtain ⟨r0, r1, r2, z0, z1, z2⟩ := val3 hR7
  go_wp2
  have hz := val_store (x := .int .i64 3) (y := .int .i64 r) (z := .string ⟨#[]⟩) hR7
  obtain ⟨q0, q1, q2, _⟩ := val3 hz
  refine bodyPost_ret (v := .agg #[.int .i64 3, .int .i64 r, .string ⟨#[]⟩]) ?_ rfl ?_
  · simp [results, Tryd.f11, go_sem, q0, q1, q2]
  · exact ⟨rfl, ((hb7.setCell (p := ⟨w.heap.size + 1 + 1, 0, none⟩) (by show w.heap.size ≤ w.heap.size + 1 + 1; omega) _).setCell (p := ⟨w.heap.size + 1 + 1, 1, none⟩) (by show w.heap.size ≤ w.heap.size + 1 + 1; omega) _).setCell (p := ⟨w.heap.size + 1 + 1, 2, none⟩) (by show w.heap.size ≤ w.heap.size + 1 + 1; omega) _⟩
set_option maxRecDepth 100000 in
set_option maxHeartbeats 2000000 in
theorem gtwo_lt (w : World) (k n k2 n2 : Int) (s t : ByteArray) (hk4 : k ≠ 4) (hk24 : k2 ≠ 4) (c r : Int) (hc : vorder (k, n, s) (k2, n2, t) = c) (hr : bN (decide (c < 0)) = r) :
    Calls Tryd.prog 11 #[.int .i64 11, .agg #[.int .i64 k, .int .i64 n, .string s], .agg #[.int .i64 k2, .int .i64 n2, .string t]] w fun e w' => e = .returned (.agg #[.int .i64 3, .int .i64 r, .string ⟨#[]⟩]) ∧ Below w.heap.size w w' := by
  have CO := Lib.hid (fun W => cmp_all W k n k2 n2 s t)
  rw [hc] at CO
  have HR := Lib.hid hr
  clear hc hr
  have a1 : (k == 4) = false := by simpa using hk4
  have a2 : decide (k = 4) = false := decide_eq_false hk4
  have a3 : (k2 == 4) = false := by simpa using hk24
  have a4 : decide (k2 = 4) = false := decide_eq_false hk24
  go_enter Tryd.func11, Tryd.ntmps11
  go_wp2_with fail
  obtain ⟨W, hW⟩ : ∃ W, W = (((w.alloc (.cells #[.int .i64 k, .int .i64 n, .string s] 24)).alloc (.cells #[.int .i64 k2, .int .i64 n2, .string t] 24)).alloc (.cells #[.int .i64 0, .int .i64 0, .string ⟨#[]⟩] 24)) := ⟨_, rfl⟩
  have hs0 := heap_alloc_new w (.cells #[.int .i64 k, .int .i64 n, .string s] 24)
  have hs1 := heap_alloc_new (w.alloc (.cells #[.int .i64 k, .int .i64 n, .string s] 24)) (.cells #[.int .i64 k2, .int .i64 n2, .string t] 24)
  rw [World.size_alloc] at hs1
  have hs2 := heap_alloc_new ((w.alloc (.cells #[.int .i64 k, .int .i64 n, .string s] 24)).alloc (.cells #[.int .i64 k2, .int .i64 n2, .string t] 24)) (.cells #[.int .i64 0, .int .i64 0, .string ⟨#[]⟩] 24)
  rw [World.size_alloc, World.size_alloc] at hs2
  have hS0 : W.heap[w.heap.size]? = some (.cells #[.int .i64 k, .int .i64 n, .string s] 24 (0, 0)) := by rw [hW]; exact (Below.heap_alloc _ _ _ (by simp; try omega)).trans ((Below.heap_alloc _ _ _ (by simp; try omega)).trans (hs0))
  have hS1 : W.heap[w.heap.size + 1]? = some (.cells #[.int .i64 k2, .int .i64 n2, .string t] 24 (0, 0)) := by rw [hW]; exact (Below.heap_alloc _ _ _ (by simp; try omega)).trans (hs1)
  have hR : W.heap[w.heap.size + 1 + 1]? = some (.cells #[.int .i64 0, .int .i64 0, .string ⟨#[]⟩] 24 (0, 0)) := by rw [hW]; exact hs2
  have hsW : W.heap.size = w.heap.size + 3 := by rw [hW]; simp
  have hbW : Below w.heap.size w W := by rw [hW]; exact (((Below.refl _ _).alloc (Nat.le_refl _) _).alloc (by simp; try omega) _).alloc (by simp; try omega) _
  rw [← hW]
  clear hW hs0 hs1 hs2
  refine (CO.out _).mono ?_
  rintro e w1 ⟨rfl, hb1⟩
  have hs1 := hb1.size
  have hR6 := (hb1.block (w.heap.size + 1 + 1) (by omega)).trans hR
  have hb6 := hbW.trans (hb1.mono hbW.size)
  clear hS0 hS1 hR hb1
  go_wp2_with fail
  refine (bool_any _ _).mono ?_
  rintro e w2 ⟨rfl, hb2⟩
  have hs2 := hb2.size
  have hR7 := (hb2.block (w.heap.size + 1 + 1) (by omega)).trans hR6
  have hb7 := hb6.trans (hb2.mono hb6.size)
  clear hR6 hb6 hb2
  rw [HR.out]
  obtain ⟨r0, r1, r2, z0, z1, z2⟩ := val3 hR7
  go_wp2
  have hz := val_store (x := .int .i64 3) (y := .int .i64 r) (z := .string ⟨#[]⟩) hR7
  obtain ⟨q0, q1, q2, _⟩ := val3 hz
  refine bodyPost_ret (v := .agg #[.int .i64 3, .int .i64 r, .string ⟨#[]⟩]) ?_ rfl ?_
  · simp [results, Tryd.f11, go_sem, q0, q1, q2]
  · exact ⟨rfl, ((hb7.setCell (p := ⟨w.heap.size + 1 + 1, 0, none⟩) (by show w.heap.size ≤ w.heap.size + 1 + 1; omega) _).setCell (p := ⟨w.heap.size + 1 + 1, 1, none⟩) (by show w.heap.size ≤ w.heap.size + 1 + 1; omega) _).setCell (p := ⟨w.heap.size + 1 + 1, 2, none⟩) (by show w.heap.size ≤ w.heap.size + 1 + 1; omega) _⟩
set_option maxRecDepth 100000 in
set_option maxHeartbeats 2000000 in
theorem gtwo_le (w : World) (k n k2 n2 : Int) (s t : ByteArray) (hk4 : k ≠ 4) (hk24 : k2 ≠ 4) (c r : Int) (hc : vorder (k, n, s) (k2, n2, t) = c) (hr : bN (decide (c ≤ 0)) = r) :
    Calls Tryd.prog 11 #[.int .i64 12, .agg #[.int .i64 k, .int .i64 n, .string s], .agg #[.int .i64 k2, .int .i64 n2, .string t]] w fun e w' => e = .returned (.agg #[.int .i64 3, .int .i64 r, .string ⟨#[]⟩]) ∧ Below w.heap.size w w' := by
  have CO := Lib.hid (fun W => cmp_all W k n k2 n2 s t)
  rw [hc] at CO
  have HR := Lib.hid hr
  clear hc hr
  have a1 : (k == 4) = false := by simpa using hk4
  have a2 : decide (k = 4) = false := decide_eq_false hk4
  have a3 : (k2 == 4) = false := by simpa using hk24
  have a4 : decide (k2 = 4) = false := decide_eq_false hk24
  go_enter Tryd.func11, Tryd.ntmps11
  go_wp2_with fail
  obtain ⟨W, hW⟩ : ∃ W, W = (((w.alloc (.cells #[.int .i64 k, .int .i64 n, .string s] 24)).alloc (.cells #[.int .i64 k2, .int .i64 n2, .string t] 24)).alloc (.cells #[.int .i64 0, .int .i64 0, .string ⟨#[]⟩] 24)) := ⟨_, rfl⟩
  have hs0 := heap_alloc_new w (.cells #[.int .i64 k, .int .i64 n, .string s] 24)
  have hs1 := heap_alloc_new (w.alloc (.cells #[.int .i64 k, .int .i64 n, .string s] 24)) (.cells #[.int .i64 k2, .int .i64 n2, .string t] 24)
  rw [World.size_alloc] at hs1
  have hs2 := heap_alloc_new ((w.alloc (.cells #[.int .i64 k, .int .i64 n, .string s] 24)).alloc (.cells #[.int .i64 k2, .int .i64 n2, .string t] 24)) (.cells #[.int .i64 0, .int .i64 0, .string ⟨#[]⟩] 24)
  rw [World.size_alloc, World.size_alloc] at hs2
  have hS0 : W.heap[w.heap.size]? = some (.cells #[.int .i64 k, .int .i64 n, .string s] 24 (0, 0)) := by rw [hW]; exact (Below.heap_alloc _ _ _ (by simp; try omega)).trans ((Below.heap_alloc _ _ _ (by simp; try omega)).trans (hs0))
  have hS1 : W.heap[w.heap.size + 1]? = some (.cells #[.int .i64 k2, .int .i64 n2, .string t] 24 (0, 0)) := by rw [hW]; exact (Below.heap_alloc _ _ _ (by simp; try omega)).trans (hs1)
  have hR : W.heap[w.heap.size + 1 + 1]? = some (.cells #[.int .i64 0, .int .i64 0, .string ⟨#[]⟩] 24 (0, 0)) := by rw [hW]; exact hs2
  have hsW : W.heap.size = w.heap.size + 3 := by rw [hW]; simp
  have hbW : Below w.heap.size w W := by rw [hW]; exact (((Below.refl _ _).alloc (Nat.le_refl _) _).alloc (by simp; try omega) _).alloc (by simp; try omega) _
  rw [← hW]
  clear hW hs0 hs1 hs2
  refine (CO.out _).mono ?_
  rintro e w1 ⟨rfl, hb1⟩
  have hs1 := hb1.size
  have hR6 := (hb1.block (w.heap.size + 1 + 1) (by omega)).trans hR
  have hb6 := hbW.trans (hb1.mono hbW.size)
  clear hS0 hS1 hR hb1
  go_wp2_with fail
  refine (bool_any _ _).mono ?_
  rintro e w2 ⟨rfl, hb2⟩
  have hs2 := hb2.size
  have hR7 := (hb2.block (w.heap.size + 1 + 1) (by omega)).trans hR6
  have hb7 := hb6.trans (hb2.mono hb6.size)
  clear hR6 hb6 hb2
  rw [HR.out]
  obtain ⟨r0, r1, r2, z0, z1, z2⟩ := val3 hR7
  go_wp2
  have hz := val_store (x := .int .i64 3) (y := .int .i64 r) (z := .string ⟨#[]⟩) hR7
  obtain ⟨q0, q1, q2, _⟩ := val3 hz
  refine bodyPost_ret (v := .agg #[.int .i64 3, .int .i64 r, .string ⟨#[]⟩]) ?_ rfl ?_
  · simp [results, Tryd.f11, go_sem, q0, q1, q2]
  · exact ⟨rfl, ((hb7.setCell (p := ⟨w.heap.size + 1 + 1, 0, none⟩) (by show w.heap.size ≤ w.heap.size + 1 + 1; omega) _).setCell (p := ⟨w.heap.size + 1 + 1, 1, none⟩) (by show w.heap.size ≤ w.heap.size + 1 + 1; omega) _).setCell (p := ⟨w.heap.size + 1 + 1, 2, none⟩) (by show w.heap.size ≤ w.heap.size + 1 + 1; omega) _⟩
set_option maxRecDepth 100000 in
set_option maxHeartbeats 2000000 in
theorem gtwo_gt (w : World) (k n k2 n2 : Int) (s t : ByteArray) (hk4 : k ≠ 4) (hk24 : k2 ≠ 4) (c r : Int) (hc : vorder (k, n, s) (k2, n2, t) = c) (hr : bN (decide (0 < c)) = r) :
    Calls Tryd.prog 11 #[.int .i64 13, .agg #[.int .i64 k, .int .i64 n, .string s], .agg #[.int .i64 k2, .int .i64 n2, .string t]] w fun e w' => e = .returned (.agg #[.int .i64 3, .int .i64 r, .string ⟨#[]⟩]) ∧ Below w.heap.size w w' := by
  have CO := Lib.hid (fun W => cmp_all W k n k2 n2 s t)
  rw [hc] at CO
  have HR := Lib.hid hr
  clear hc hr
  have a1 : (k == 4) = false := by simpa using hk4
  have a2 : decide (k = 4) = false := decide_eq_false hk4
  have a3 : (k2 == 4) = false := by simpa using hk24
  have a4 : decide (k2 = 4) = false := decide_eq_false hk24
  go_enter Tryd.func11, Tryd.ntmps11
  go_wp2_with fail
  obtain ⟨W, hW⟩ : ∃ W, W = (((w.alloc (.cells #[.int .i64 k, .int .i64 n, .string s] 24)).alloc (.cells #[.int .i64 k2, .int .i64 n2, .string t] 24)).alloc (.cells #[.int .i64 0, .int .i64 0, .string ⟨#[]⟩] 24)) := ⟨_, rfl⟩
  have hs0 := heap_alloc_new w (.cells #[.int .i64 k, .int .i64 n, .string s] 24)
  have hs1 := heap_alloc_new (w.alloc (.cells #[.int .i64 k, .int .i64 n, .string s] 24)) (.cells #[.int .i64 k2, .int .i64 n2, .string t] 24)
  rw [World.size_alloc] at hs1
  have hs2 := heap_alloc_new ((w.alloc (.cells #[.int .i64 k, .int .i64 n, .string s] 24)).alloc (.cells #[.int .i64 k2, .int .i64 n2, .string t] 24)) (.cells #[.int .i64 0, .int .i64 0, .string ⟨#[]⟩] 24)
  rw [World.size_alloc, World.size_alloc] at hs2
  have hS0 : W.heap[w.heap.size]? = some (.cells #[.int .i64 k, .int .i64 n, .string s] 24 (0, 0)) := by rw [hW]; exact (Below.heap_alloc _ _ _ (by simp; try omega)).trans ((Below.heap_alloc _ _ _ (by simp; try omega)).trans (hs0))
  have hS1 : W.heap[w.heap.size + 1]? = some (.cells #[.int .i64 k2, .int .i64 n2, .string t] 24 (0, 0)) := by rw [hW]; exact (Below.heap_alloc _ _ _ (by simp; try omega)).trans (hs1)
  have hR : W.heap[w.heap.size + 1 + 1]? = some (.cells #[.int .i64 0, .int .i64 0, .string ⟨#[]⟩] 24 (0, 0)) := by rw [hW]; exact hs2
  have hsW : W.heap.size = w.heap.size + 3 := by rw [hW]; simp
  have hbW : Below w.heap.size w W := by rw [hW]; exact (((Below.refl _ _).alloc (Nat.le_refl _) _).alloc (by simp; try omega) _).alloc (by simp; try omega) _
  rw [← hW]
  clear hW hs0 hs1 hs2
  refine (CO.out _).mono ?_
  rintro e w1 ⟨rfl, hb1⟩
  have hs1 := hb1.size
  have hR6 := (hb1.block (w.heap.size + 1 + 1) (by omega)).trans hR
  have hb6 := hbW.trans (hb1.mono hbW.size)
  clear hS0 hS1 hR hb1
  go_wp2_with fail
  refine (bool_any _ _).mono ?_
  rintro e w2 ⟨rfl, hb2⟩
  have hs2 := hb2.size
  have hR7 := (hb2.block (w.heap.size + 1 + 1) (by omega)).trans hR6
  have hb7 := hb6.trans (hb2.mono hb6.size)
  clear hR6 hb6 hb2
  rw [HR.out]
  obtain ⟨r0, r1, r2, z0, z1, z2⟩ := val3 hR7
  go_wp2
  have hz := val_store (x := .int .i64 3) (y := .int .i64 r) (z := .string ⟨#[]⟩) hR7
  obtain ⟨q0, q1, q2, _⟩ := val3 hz
  refine bodyPost_ret (v := .agg #[.int .i64 3, .int .i64 r, .string ⟨#[]⟩]) ?_ rfl ?_
  · simp [results, Tryd.f11, go_sem, q0, q1, q2]
  · exact ⟨rfl, ((hb7.setCell (p := ⟨w.heap.size + 1 + 1, 0, none⟩) (by show w.heap.size ≤ w.heap.size + 1 + 1; omega) _).setCell (p := ⟨w.heap.size + 1 + 1, 1, none⟩) (by show w.heap.size ≤ w.heap.size + 1 + 1; omega) _).setCell (p := ⟨w.heap.size + 1 + 1, 2, none⟩) (by show w.heap.size ≤ w.heap.size + 1 + 1; omega) _⟩
set_option maxRecDepth 100000 in
set_option maxHeartbeats 2000000 in
theorem gtwo_ge (w : World) (k n k2 n2 : Int) (s t : ByteArray) (hk4 : k ≠ 4) (hk24 : k2 ≠ 4) (c r : Int) (hc : vorder (k, n, s) (k2, n2, t) = c) (hr : bN (decide (0 ≤ c)) = r) :
    Calls Tryd.prog 11 #[.int .i64 14, .agg #[.int .i64 k, .int .i64 n, .string s], .agg #[.int .i64 k2, .int .i64 n2, .string t]] w fun e w' => e = .returned (.agg #[.int .i64 3, .int .i64 r, .string ⟨#[]⟩]) ∧ Below w.heap.size w w' := by
  have CO := Lib.hid (fun W => cmp_all W k n k2 n2 s t)
  rw [hc] at CO
  have HR := Lib.hid hr
  clear hc hr
  have a1 : (k == 4) = false := by simpa using hk4
  have a2 : decide (k = 4) = false := decide_eq_false hk4
  have a3 : (k2 == 4) = false := by simpa using hk24
  have a4 : decide (k2 = 4) = false := decide_eq_false hk24
  go_enter Tryd.func11, Tryd.ntmps11
  go_wp2_with fail
  obtain ⟨W, hW⟩ : ∃ W, W = (((w.alloc (.cells #[.int .i64 k, .int .i64 n, .string s] 24)).alloc (.cells #[.int .i64 k2, .int .i64 n2, .string t] 24)).alloc (.cells #[.int .i64 0, .int .i64 0, .string ⟨#[]⟩] 24)) := ⟨_, rfl⟩
  have hs0 := heap_alloc_new w (.cells #[.int .i64 k, .int .i64 n, .string s] 24)
  have hs1 := heap_alloc_new (w.alloc (.cells #[.int .i64 k, .int .i64 n, .string s] 24)) (.cells #[.int .i64 k2, .int .i64 n2, .string t] 24)
  rw [World.size_alloc] at hs1
  have hs2 := heap_alloc_new ((w.alloc (.cells #[.int .i64 k, .int .i64 n, .string s] 24)).alloc (.cells #[.int .i64 k2, .int .i64 n2, .string t] 24)) (.cells #[.int .i64 0, .int .i64 0, .string ⟨#[]⟩] 24)
  rw [World.size_alloc, World.size_alloc] at hs2
  have hS0 : W.heap[w.heap.size]? = some (.cells #[.int .i64 k, .int .i64 n, .string s] 24 (0, 0)) := by rw [hW]; exact (Below.heap_alloc _ _ _ (by simp; try omega)).trans ((Below.heap_alloc _ _ _ (by simp; try omega)).trans (hs0))
  have hS1 : W.heap[w.heap.size + 1]? = some (.cells #[.int .i64 k2, .int .i64 n2, .string t] 24 (0, 0)) := by rw [hW]; exact (Below.heap_alloc _ _ _ (by simp; try omega)).trans (hs1)
  have hR : W.heap[w.heap.size + 1 + 1]? = some (.cells #[.int .i64 0, .int .i64 0, .string ⟨#[]⟩] 24 (0, 0)) := by rw [hW]; exact hs2
  have hsW : W.heap.size = w.heap.size + 3 := by rw [hW]; simp
  have hbW : Below w.heap.size w W := by rw [hW]; exact (((Below.refl _ _).alloc (Nat.le_refl _) _).alloc (by simp; try omega) _).alloc (by simp; try omega) _
  rw [← hW]
  clear hW hs0 hs1 hs2
  refine (CO.out _).mono ?_
  rintro e w1 ⟨rfl, hb1⟩
  have hs1 := hb1.size
  have hR6 := (hb1.block (w.heap.size + 1 + 1) (by omega)).trans hR
  have hb6 := hbW.trans (hb1.mono hbW.size)
  clear hS0 hS1 hR hb1
  go_wp2_with fail
  refine (bool_any _ _).mono ?_
  rintro e w2 ⟨rfl, hb2⟩
  have hs2 := hb2.size
  have hR7 := (hb2.block (w.heap.size + 1 + 1) (by omega)).trans hR6
  have hb7 := hb6.trans (hb2.mono hb6.size)
  clear hR6 hb6 hb2
  rw [HR.out]
  obtain ⟨r0, r1, r2, z0, z1, z2⟩ := val3 hR7
  go_wp2
  have hz := val_store (x := .int .i64 3) (y := .int .i64 r) (z := .string ⟨#[]⟩) hR7
  obtain ⟨q0, q1, q2, _⟩ := val3 hz
  refine bodyPost_ret (v := .agg #[.int .i64 3, .int .i64 r, .string ⟨#[]⟩]) ?_ rfl ?_
  · simp [results, Tryd.f11, go_sem, q0, q1, q2]
  · exact ⟨rfl, ((hb7.setCell (p := ⟨w.heap.size + 1 + 1, 0, none⟩) (by show w.heap.size ≤ w.heap.size + 1 + 1; omega) _).setCell (p := ⟨w.heap.size + 1 + 1, 1, none⟩) (by show w.heap.size ≤ w.heap.size + 1 + 1; omega) _).setCell (p := ⟨w.heap.size + 1 + 1, 2, none⟩) (by show w.heap.size ≤ w.heap.size + 1 + 1; omega) _⟩
theorem vnum_kinds (w : World) (kind k n k2 n2 : Int) (s t : ByteArray) (h16 : 16 ≤ kind ∧ kind ≤ 19) (i1 : KNum k n) (i2 : KNum k2 n2) (hn : InR n) (hn2 : InR n2) : Calls Tryd.prog 11 #[.int .i64 kind, .agg #[.int .i64 k, .int .i64 n, .string s], .agg #[.int .i64 k2, .int .i64 n2, .string t]] w fun e w' => e = .returned (vv (vnum kind n n2)) ∧ Below w.heap.size w w' := by
  have k1 : k ≠ 4 := by rcases i1 with rfl | ⟨rfl, _⟩ <;> decide
  have k3 : k2 ≠ 4 := by rcases i2 with rfl | ⟨rfl, _⟩ <;> decide
  rcases (show kind = 16 ∨ kind = 17 ∨ kind = 18 ∨ kind = 19 by omega) with rfl | rfl | rfl | rfl
  · exact two_sum w k k2 n n2 s t i1 i2 hn hn2
  · exact two_dif w k k2 n n2 s t i1 i2 hn hn2
  · exact two_prod w k k2 n n2 s t i1 i2 hn hn2
  · by_cases h0 : n2 = 0
    · subst h0
      exact two_nought w k k2 n s t i1 i2 k1 k3
    · rw [show vnum 19 n n2 = resV (n.tdiv n2) from if_neg h0]
      exact two_quo w k k2 n n2 s t i1 i2 hn h0
theorem kInt_num {k n : Int} : (kInt k n).2 = decide (k = 0 ∨ k = 1) := by
  unfold kInt
  by_cases h0 : k = 0
  · simp [h0]
  · by_cases h1 : k = 1
    · simp [h1]
    · simp [h0, h1]
theorem may_zero {k n : Int} {s : ByteArray} (h : mayV (k, n, s)) : k = 0 → n = 0 := fun h0 => by
  have := none_may h h0
  simp only [Prod.mk.injEq] at this
  exact this.2.1
/-- val.Two is the one that the law speaks of -/
theorem two_any (w : World) (kind k n k2 n2 : Int) (s t : ByteArray) (hn : InR n) (hn2 : InR n2) (hm1 : mayV (k, n, s)) (hm2 : mayV (k2, n2, t)) (htab : Tab w) : Calls Tryd.prog 11 #[.int .i64 kind, .agg #[.int .i64 k, .int .i64 n, .string s], .agg #[.int .i64 k2, .int .i64 n2, .string t]] w fun e w' => e = .returned (vv (vtwo kind (k, n, s) (k2, n2, t))) ∧ Below w.heap.size w w' := by
  by_cases hk : k = 4
  · subst hk
    exact two_errL w kind n k2 n2 s t
  by_cases hk2 : k2 = 4
  · subst hk2
    rw [show vtwo kind (k, n, s) (4, n2, t) = (4, n2, t) by unfold vtwo; rw [if_neg hk]; rfl]
    exact two_errR w kind k n n2 s t hk
  have e1 : vtwo kind (k, n, s) (k2, n2, t) = if kind = 15 then vstr (vtext (k, n, s) ++ vtext (k2, n2, t)) else
    if 16 ≤ kind ∧ kind ≤ 19 then (if isNum (k, n, s) ∧ isNum (k2, n2, t) then vnum kind n n2 else (4, 1, noB)) else
    if 9 ≤ kind ∧ kind ≤ 14 then (3, bN (vtest kind (vorder (k, n, s) (k2, n2, t))), noB) else (4, 1, noB) := by
    unfold vtwo; rw [if_neg hk, if_neg hk2]
  rw [e1]
  by_cases h15 : kind = 15
  · subst h15
    rw [if_pos rfl]
    have z1 := vtext_size hn hm1
    have z2 := vtext_size hn2 hm2
    exact two_cat w k k2 n n2 s t hk hk2 hn hn2 htab (by omega)
  rw [if_neg h15]
  by_cases h16 : 16 ≤ kind ∧ kind ≤ 19
  · rw [if_pos h16]
    by_cases i : isNum (k, n, s) ∧ isNum (k2, n2, t)
    · rw [if_pos i]
      exact vnum_kinds w kind k n k2 n2 s t h16 (kNum_may i.1 hm1) (kNum_may i.2 hm2) hn hn2
    · rw [if_neg i]
      have hij : (kInt k n).2 = false ∨ ((kInt k n).2 = true ∧ (kInt k2 n2).2 = false) := by
        rw [kInt_num, kInt_num, decide_eq_false_iff_not, decide_eq_true_iff, decide_eq_false_iff_not]
        by_cases i1 : isNum (k, n, s)
        · exact .inr ⟨i1, fun h => i ⟨i1, h⟩⟩
        · exact .inl i1
      have m1 := may_zero hm1
      have m2 := may_zero hm2
      rcases (show kind = 16 ∨ kind = 17 ∨ kind = 18 ∨ kind = 19 by omega) with rfl | rfl | rfl | rfl
      · exact two_bad16 w k k2 n n2 s t hk hk2 m1 m2 hij
      · exact two_bad17 w k k2 n n2 s t hk hk2 m1 m2 hij
      · exact two_bad18 w k k2 n n2 s t hk hk2 m1 m2 hij
      · exact two_bad19 w k k2 n n2 s t hk hk2 m1 m2 hij
  rw [if_neg h16]
  by_cases h9 : 9 ≤ kind ∧ kind ≤ 14
  · rw [if_pos h9]
    rcases (show kind = 9 ∨ kind = 10 ∨ kind = 11 ∨ kind = 12 ∨ kind = 13 ∨ kind = 14 by omega) with rfl | rfl | rfl | rfl | rfl | rfl
    · exact gtwo_eq w k n k2 n2 s t hk hk2 _ _ rfl rfl
    · exact gtwo_ne w k n k2 n2 s t hk hk2 _ _ rfl rfl
    · exact gtwo_lt w k n k2 n2 s t hk hk2 _ _ rfl rfl
    · exact gtwo_le w k n k2 n2 s t hk hk2 _ _ rfl rfl
    · exact gtwo_gt w k n k2 n2 s t hk hk2 _ _ rfl rfl
    · exact gtwo_ge w k n k2 n2 s t hk hk2 _ _ rfl rfl
  · rw [if_neg h9]
    exact two_other w kind k k2 n n2 s t hk hk2 (by omega)
end Go.Proofs.YtejpfpklgkcagaaDoor
