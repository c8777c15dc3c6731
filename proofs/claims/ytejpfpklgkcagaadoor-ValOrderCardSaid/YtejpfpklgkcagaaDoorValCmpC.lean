/- val.Two at comparisons. Written by valcmp2gen.py. -/
import Derived.Test.YtejpfpklgkcagaaDoorValCmpB
namespace Go.Proofs.YtejpfpklgkcagaaDoor
open Go.RowKit Go.Maps
set_option maxRecDepth 100000 in
set_option maxHeartbeats 2000000 in
theorem two_eq (w : World) (k n k2 n2 : Int) (s t : ByteArray) (hk : k ≠ 0) (hk2 : k2 ≠ 0) (hk4 : k ≠ 4) (hk24 : k2 ≠ 4) (c r : Int) (hc : vcmp (k, n, s) (k2, n2, t) = c) (hr : bN (c == 0) = r) :
    Calls Tryd.prog 11 #[.int .i64 9, .agg #[.int .i64 k, .int .i64 n, .string s], .agg #[.int .i64 k2, .int .i64 n2, .string t]] w fun e w' => e = .returned (.agg #[.int .i64 3, .int .i64 r, .string ⟨#[]⟩]) ∧ Below w.heap.size w w' := by
  have a1 : (k == 4) = false := by simpa using hk4
  have a2 : decide (k = 4) = false := decide_eq_false hk4
  have a3 : (k2 == 4) = false := by simpa using hk24
  have a4 : decide (k2 = 4) = false := decide_eq_false hk24
  go_enter Tryd.func11, Tryd.ntmps11
  go_wp2_with fail
  obtain ⟨W, hW⟩ : ∃ W, W = (((w.alloc (.cells #[.int .i64 k, .int .i64 n, .string s] 24)).alloc (.cells #[.int .i64 k2, .int .i64 n2, .string t] 24)).alloc (.cells #[.int .i64 0, .int .i64 0, .string ⟨#[]⟩] 24)) := ⟨_, rfl⟩
  have hs0 := heap_alloc_new w (.cells #[.int .i64 k, .int .i64 n, .string s] 24)
  have hs1 := heap_alloc_new (w.alloc (.cells #[.int .i64 k, .int .i64 n, .string s] 24)) (.cells #[.int .i64 k2, .int .i64 n2, .string t] 24)
  rw [World.size_alloc] at hs1
  have hs2 := heap_alloc_new ((w.alloc (.cells #[.int .i64 k, .int .i64 n, .string s] 24)).alloc (.cells #[.int .i64 k2, .int .i64 n2, .string t] 24)) (.cells #[.int .i64 0, .int .i64 0, .string ⟨#[]⟩] 24)
  rw [World.size_alloc, World.size_alloc] at hs2
  have hS0 : W.heap[w.heap.size]? = some (.cells #[.int .i64 k, .int .i64 n, .string s] 24 (0, 0)) := by rw [hW]; exact (Below.heap_alloc _ _ _ (by simp; try omega)).trans ((Below.heap_alloc _ _ _ (by simp; try omega)).trans (hs0))
  have hS1 : W.heap[w.heap.size + 1]? = some (.cells #[.int .i64 k2, .int .i64 n2, .string t] 24 (0, 0)) := by rw [hW]; exact (Below.heap_alloc _ _ _ (by simp; try omega)).trans (hs1)
  have hR : W.heap[w.heap.size + 1 + 1]? = some (.cells #[.int .i64 0, .int .i64 0, .string ⟨#[]⟩] 24 (0, 0)) := by rw [hW]; exact hs2
  have hsW : W.heap.size = w.heap.size + 3 := by rw [hW]; simp
  have hbW : Below w.heap.size w W := by rw [hW]; exact (((Below.refl _ _).alloc (Nat.le_refl _) _).alloc (by simp; try omega) _).alloc (by simp; try omega) _
  rw [← hW]
  clear hW hs0 hs1 hs2
  refine (cmp_any W k n k2 n2 s t hk hk2).mono ?_
  rintro e w1 ⟨rfl, hb1⟩
  have hs1 := hb1.size
  have hR6 := (hb1.block (w.heap.size + 1 + 1) (by omega)).trans hR
  have hb6 := hbW.trans (hb1.mono hbW.size)
  clear hS0 hS1 hR hb1
  rw [hc]
  go_wp2_with fail
  refine (bool_any _ _).mono ?_
  rintro e w2 ⟨rfl, hb2⟩
  have hs2 := hb2.size
  have hR7 := (hb2.block (w.heap.size + 1 + 1) (by omega)).trans hR6
  have hb7 := hb6.trans (hb2.mono hb6.size)
  clear hR6 hb6 hb2
  rw [hr]
  obtain ⟨r0, r1, r2, z0, z1, z2⟩ := val3 hR7
  go_wp2
  have hz := val_store (x := .int .i64 3) (y := .int .i64 r) (z := .string ⟨#[]⟩) hR7
  obtain ⟨q0, q1, q2, _⟩ := val3 hz
  refine bodyPost_ret (v := .agg #[.int .i64 3, .int .i64 r, .string ⟨#[]⟩]) ?_ rfl ?_
  · simp [results, Tryd.f11, go_sem, q0, q1, q2]
  · exact ⟨rfl, ((hb7.setCell (p := ⟨w.heap.size + 1 + 1, 0, none⟩) (by show w.heap.size ≤ w.heap.size + 1 + 1; omega) _).setCell (p := ⟨w.heap.size + 1 + 1, 1, none⟩) (by show w.heap.size ≤ w.heap.size + 1 + 1; omega) _).setCell (p := ⟨w.heap.size + 1 + 1, 2, none⟩) (by show w.heap.size ≤ w.heap.size + 1 + 1; omega) _⟩
set_option maxRecDepth 100000 in
set_option maxHeartbeats 2000000 in
theorem two_ne (w : World) (k n k2 n2 : Int) (s t : ByteArray) (hk : k ≠ 0) (hk2 : k2 ≠ 0) (hk4 : k ≠ 4) (hk24 : k2 ≠ 4) (c r : Int) (hc : vcmp (k, n, s) (k2, n2, t) = c) (hr : bN (c != 0) = r) :
    Calls Tryd.prog 11 #[.int .i64 10, .agg #[.int .i64 k, .int .i64 n, .string s], .agg #[.int .i64 k2, .int .i64 n2, .string t]] w fun e w' => e = .returned (.agg #[.int .i64 3, .int .i64 r, .string ⟨#[]⟩]) ∧ Below w.heap.size w w' := by
  have a1 : (k == 4) = false := by simpa using hk4
  have a2 : decide (k = 4) = false := decide_eq_false hk4
  have a3 : (k2 == 4) = false := by simpa using hk24
  have a4 : decide (k2 = 4) = false := decide_eq_false hk24
  go_enter Tryd.func11, Tryd.ntmps11
  go_wp2_with fail
  obtain ⟨W, hW⟩ : ∃ W, W = (((w.alloc (.cells #[.int .i64 k, .int .i64 n, .string s] 24)).alloc (.cells #[.int .i64 k2, .int .i64 n2, .string t] 24)).alloc (.cells #[.int .i64 0, .int .i64 0, .string ⟨#[]⟩] 24)) := ⟨_, rfl⟩
  have hs0 := heap_alloc_new w (.cells #[.int .i64 k, .int .i64 n, .string s] 24)
  have hs1 := heap_alloc_new (w.alloc (.cells #[.int .i64 k, .int .i64 n, .string s] 24)) (.cells #[.int .i64 k2, .int .i64 n2, .string t] 24)
  rw [World.size_alloc] at hs1
  have hs2 := heap_alloc_new ((w.alloc (.cells #[.int .i64 k, .int .i64 n, .string s] 24)).alloc (.cells #[.int .i64 k2, .int .i64 n2, .string t] 24)) (.cells #[.int .i64 0, .int .i64 0, .string ⟨#[]⟩] 24)
  rw [World.size_alloc, World.size_alloc] at hs2
  have hS0 : W.heap[w.heap.size]? = some (.cells #[.int .i64 k, .int .i64 n, .string s] 24 (0, 0)) := by rw [hW]; exact (Below.heap_alloc _ _ _ (by simp; try omega)).trans ((Below.heap_alloc _ _ _ (by simp; try omega)).trans (hs0))
  have hS1 : W.heap[w.heap.size + 1]? = some (.cells #[.int .i64 k2, .int .i64 n2, .string t] 24 (0, 0)) := by rw [hW]; exact (Below.heap_alloc _ _ _ (by simp; try omega)).trans (hs1)
  have hR : W.heap[w.heap.size + 1 + 1]? = some (.cells #[.int .i64 0, .int .i64 0, .string ⟨#[]⟩] 24 (0, 0)) := by rw [hW]; exact hs2
  have hsW : W.heap.size = w.heap.size + 3 := by rw [hW]; simp
  have hbW : Below w.heap.size w W := by rw [hW]; exact (((Below.refl _ _).alloc (Nat.le_refl _) _).alloc (by simp; try omega) _).alloc (by simp; try omega) _
  rw [← hW]
  clear hW hs0 hs1 hs2
  refine (cmp_any W k n k2 n2 s t hk hk2).mono ?_
  rintro e w1 ⟨rfl, hb1⟩
  have hs1 := hb1.size
  have hR6 := (hb1.block (w.heap.size + 1 + 1) (by omega)).trans hR
  have hb6 := hbW.trans (hb1.mono hbW.size)
  clear hS0 hS1 hR hb1
  rw [hc]
  go_wp2_with fail
  refine (bool_any _ _).mono ?_
  rintro e w2 ⟨rfl, hb2⟩
  have hs2 := hb2.size
  have hR7 := (hb2.block (w.heap.size + 1 + 1) (by omega)).trans hR6
  have hb7 := hb6.trans (hb2.mono hb6.size)
  clear hR6 hb6 hb2
  rw [hr]
  obtain ⟨r0, r1, r2, z0, z1, z2⟩ := val3 hR7
  go_wp2
  have hz := val_store (x := .int .i64 3) (y := .int .i64 r) (z := .string ⟨#[]⟩) hR7
  obtain ⟨q0, q1, q2, _⟩ := val3 hz
  refine bodyPost_ret (v := .agg #[.int .i64 3, .int .i64 r, .string ⟨#[]⟩]) ?_ rfl ?_
  · simp [results, Tryd.f11, go_sem, q0, q1, q2]
  · exact ⟨rfl, ((hb7.setCell (p := ⟨w.heap.size + 1 + 1, 0, none⟩) (by show w.heap.size ≤ w.heap.size + 1 + 1; omega) _).setCell (p := ⟨w.heap.size + 1 + 1, 1, none⟩) (by show w.heap.size ≤ w.heap.size + 1 + 1; omega) _).setCell (p := ⟨w.heap.size + 1 + 1, 2, none⟩) (by show w.heap.size ≤ w.heap.size + 1 + 1; omega) _⟩
set_option maxRecDepth 100000 in
set_option maxHeartbeats 2000000 in
theorem two_lt (w : World) (k n k2 n2 : Int) (s t : ByteArray) (hk : k ≠ 0) (hk2 : k2 ≠ 0) (hk4 : k ≠ 4) (hk24 : k2 ≠ 4) (c r : Int) (hc : vcmp (k, n, s) (k2, n2, t) = c) (hr : bN (decide (c < 0)) = r) :
    Calls Tryd.prog 11 #[.int .i64 11, .agg #[.int .i64 k, .int .i64 n, .string s], .agg #[.int .i64 k2, .int .i64 n2, .string t]] w fun e w' => e = .returned (.agg #[.int .i64 3, .int .i64 r, .string ⟨#[]⟩]) ∧ Below w.heap.size w w' := by
  have a1 : (k == 4) = false := by simpa using hk4
  have a2 : decide (k = 4) = false := decide_eq_false hk4
  have a3 : (k2 == 4) = false := by simpa using hk24
  have a4 : decide (k2 = 4) = false := decide_eq_false hk24
  go_enter Tryd.func11, Tryd.ntmps11
  go_wp2_with fail
  obtain ⟨W, hW⟩ : ∃ W, W = (((w.alloc (.cells #[.int .i64 k, .int .i64 n, .string s] 24)).alloc (.cells #[.int .i64 k2, .int .i64 n2, .string t] 24)).alloc (.cells #[.int .i64 0, .int .i64 0, .string ⟨#[]⟩] 24)) := ⟨_, rfl⟩
  have hs0 := heap_alloc_new w (.cells #[.int .i64 k, .int .i64 n, .string s] 24)
  have hs1 := heap_alloc_new (w.alloc (.cells #[.int .i64 k, .int .i64 n, .string s] 24)) (.cells #[.int .i64 k2, .int .i64 n2, .string t] 24)
  rw [World.size_alloc] at hs1
  have hs2 := heap_alloc_new ((w.alloc (.cells #[.int .i64 k, .int .i64 n, .string s] 24)).alloc (.cells #[.int .i64 k2, .int .i64 n2, .string t] 24)) (.cells #[.int .i64 0, .int .i64 0, .string ⟨#[]⟩] 24)
  rw [World.size_alloc, World.size_alloc] at hs2
  have hS0 : W.heap[w.heap.size]? = some (.cells #[.int .i64 k, .int .i64 n, .string s] 24 (0, 0)) := by rw [hW]; exact (Below.heap_alloc _ _ _ (by simp; try omega)).trans ((Below.heap_alloc _ _ _ (by simp; try omega)).trans (hs0))
  have hS1 : W.heap[w.heap.size + 1]? = some (.cells #[.int .i64 k2, .int .i64 n2, .string t] 24 (0, 0)) := by rw [hW]; exact (Below.heap_alloc _ _ _ (by simp; try omega)).trans (hs1)
  have hR : W.heap[w.heap.size + 1 + 1]? = some (.cells #[.int .i64 0, .int .i64 0, .string ⟨#[]⟩] 24 (0, 0)) := by rw [hW]; exact hs2
  have hsW : W.heap.size = w.heap.size + 3 := by rw [hW]; simp
  have hbW : Below w.heap.size w W := by rw [hW]; exact (((Below.refl _ _).alloc (Nat.le_refl _) _).alloc (by simp; try omega) _).alloc (by simp; try omega) _
  rw [← hW]
  clear hW hs0 hs1 hs2
  refine (cmp_any W k n k2 n2 s t hk hk2).mono ?_
  rintro e w1 ⟨rfl, hb1⟩
  have hs1 := hb1.size
  have hR6 := (hb1.block (w.heap.size + 1 + 1) (by omega)).trans hR
  have hb6 := hbW.trans (hb1.mono hbW.size)
  clear hS0 hS1 hR hb1
  rw [hc]
  go_wp2_with fail
  refine (bool_any _ _).mono ?_
  rintro e w2 ⟨rfl, hb2⟩
  have hs2 := hb2.size
  have hR7 := (hb2.block (w.heap.size + 1 + 1) (by omega)).trans hR6
  have hb7 := hb6.trans (hb2.mono hb6.size)
  clear hR6 hb6 hb2
  rw [hr]
  obtain ⟨r0, r1, r2, z0, z1, z2⟩ := val3 hR7
  go_wp2
  have hz := val_store (x := .int .i64 3) (y := .int .i64 r) (z := .string ⟨#[]⟩) hR7
  obtain ⟨q0, q1, q2, _⟩ := val3 hz
  refine bodyPost_ret (v := .agg #[.int .i64 3, .int .i64 r, .string ⟨#[]⟩]) ?_ rfl ?_
  · simp [results, Tryd.f11, go_sem, q0, q1, q2]
  · exact ⟨rfl, ((hb7.setCell (p := ⟨w.heap.size + 1 + 1, 0, none⟩) (by show w.heap.size ≤ w.heap.size + 1 + 1; omega) _).setCell (p := ⟨w.heap.size + 1 + 1, 1, none⟩) (by show w.heap.size ≤ w.heap.size + 1 + 1; omega) _).setCell (p := ⟨w.heap.size + 1 + 1, 2, none⟩) (by show w.heap.size ≤ w.heap.size + 1 + 1; omega) _⟩
set_option maxRecDepth 100000 in
set_option maxHeartbeats 2000000 in
theorem two_le (w : World) (k n k2 n2 : Int) (s t : ByteArray) (hk : k ≠ 0) (hk2 : k2 ≠ 0) (hk4 : k ≠ 4) (hk24 : k2 ≠ 4) (c r : Int) (hc : vcmp (k, n, s) (k2, n2, t) = c) (hr : bN (decide (c ≤ 0)) = r) :
    Calls Tryd.prog 11 #[.int .i64 12, .agg #[.int .i64 k, .int .i64 n, .string s], .agg #[.int .i64 k2, .int .i64 n2, .string t]] w fun e w' => e = .returned (.agg #[.int .i64 3, .int .i64 r, .string ⟨#[]⟩]) ∧ Below w.heap.size w w' := by
  have a1 : (k == 4) = false := by simpa using hk4
  have a2 : decide (k = 4) = false := decide_eq_false hk4
  have a3 : (k2 == 4) = false := by simpa using hk24
  have a4 : decide (k2 = 4) = false := decide_eq_false hk24
  go_enter Tryd.func11, Tryd.ntmps11
  go_wp2_with fail
  obtain ⟨W, hW⟩ : ∃ W, W = (((w.alloc (.cells #[.int .i64 k, .int .i64 n, .string s] 24)).alloc (.cells #[.int .i64 k2, .int .i64 n2, .string t] 24)).alloc (.cells #[.int .i64 0, .int .i64 0, .string ⟨#[]⟩] 24)) := ⟨_, rfl⟩
  have hs0 := heap_alloc_new w (.cells #[.int .i64 k, .int .i64 n, .string s] 24)
  have hs1 := heap_alloc_new (w.alloc (.cells #[.int .i64 k, .int .i64 n, .string s] 24)) (.cells #[.int .i64 k2, .int .i64 n2, .string t] 24)
  rw [World.size_alloc] at hs1
  have hs2 := heap_alloc_new ((w.alloc (.cells #[.int .i64 k, .int .i64 n, .string s] 24)).alloc (.cells #[.int .i64 k2, .int .i64 n2, .string t] 24)) (.cells #[.int .i64 0, .int .i64 0, .string ⟨#[]⟩] 24)
  rw [World.size_alloc, World.size_alloc] at hs2
  have hS0 : W.heap[w.heap.size]? = some (.cells #[.int .i64 k, .int .i64 n, .string s] 24 (0, 0)) := by rw [hW]; exact (Below.heap_alloc _ _ _ (by simp; try omega)).trans ((Below.heap_alloc _ _ _ (by simp; try omega)).trans (hs0))
  have hS1 : W.heap[w.heap.size + 1]? = some (.cells #[.int .i64 k2, .int .i64 n2, .string t] 24 (0, 0)) := by rw [hW]; exact (Below.heap_alloc _ _ _ (by simp; try omega)).trans (hs1)
  have hR : W.heap[w.heap.size + 1 + 1]? = some (.cells #[.int .i64 0, .int .i64 0, .string ⟨#[]⟩] 24 (0, 0)) := by rw [hW]; exact hs2
  have hsW : W.heap.size = w.heap.size + 3 := by rw [hW]; simp
  have hbW : Below w.heap.size w W := by rw [hW]; exact (((Below.refl _ _).alloc (Nat.le_refl _) _).alloc (by simp; try omega) _).alloc (by simp; try omega) _
  rw [← hW]
  clear hW hs0 hs1 hs2
  refine (cmp_any W k n k2 n2 s t hk hk2).mono ?_
  rintro e w1 ⟨rfl, hb1⟩
  have hs1 := hb1.size
  have hR6 := (hb1.block (w.heap.size + 1 + 1) (by omega)).trans hR
  have hb6 := hbW.trans (hb1.mono hbW.size)
  clear hS0 hS1 hR hb1
  rw [hc]
  go_wp2_with fail
  refine (bool_any _ _).mono ?_
  rintro e w2 ⟨rfl, hb2⟩
  have hs2 := hb2.size
  have hR7 := (hb2.block (w.heap.size + 1 + 1) (by omega)).trans hR6
  have hb7 := hb6.trans (hb2.mono hb6.size)
  clear hR6 hb6 hb2
  rw [hr]
  obtain ⟨r0, r1, r2, z0, z1, z2⟩ := val3 hR7
  go_wp2
  have hz := val_store (x := .int .i64 3) (y := .int .i64 r) (z := .string ⟨#[]⟩) hR7
  obtain ⟨q0, q1, q2, _⟩ := val3 hz
  refine bodyPost_ret (v := .agg #[.int .i64 3, .int .i64 r, .string ⟨#[]⟩]) ?_ rfl ?_
  · simp [results, Tryd.f11, go_sem, q0, q1, q2]
  · exact ⟨rfl, ((hb7.setCell (p := ⟨w.heap.size + 1 + 1, 0, none⟩) (by show w.heap.size ≤ w.heap.size + 1 + 1; omega) _).setCell (p := ⟨w.heap.size + 1 + 1, 1, none⟩) (by show w.heap.size ≤ w.heap.size + 1 + 1; omega) _).setCell (p := ⟨w.heap.size + 1 + 1, 2, none⟩) (by show w.heap.size ≤ w.heap.size + 1 + 1; omega) _⟩
set_option maxRecDepth 100000 in
set_option maxHeartbeats 2000000 in
theorem two_gt (w : World) (k n k2 n2 : Int) (s t : ByteArray) (hk : k ≠ 0) (hk2 : k2 ≠ 0) (hk4 : k ≠ 4) (hk24 : k2 ≠ 4) (c r : Int) (hc : vcmp (k, n, s) (k2, n2, t) = c) (hr : bN (decide (0 < c)) = r) :
    Calls Tryd.prog 11 #[.int .i64 13, .agg #[.int .i64 k, .int .i64 n, .string s], .agg #[.int .i64 k2, .int .i64 n2, .string t]] w fun e w' => e = .returned (.agg #[.int .i64 3, .int .i64 r, .string ⟨#[]⟩]) ∧ Below w.heap.size w w' := by
  have a1 : (k == 4) = false := by simpa using hk4
  have a2 : decide (k = 4) = false := decide_eq_false hk4
  have a3 : (k2 == 4) = false := by simpa using hk24
  have a4 : decide (k2 = 4) = false := decide_eq_false hk24
  go_enter Tryd.func11, Tryd.ntmps11
  go_wp2_with fail
  obtain ⟨W, hW⟩ : ∃ W, W = (((w.alloc (.cells #[.int .i64 k, .int .i64 n, .string s] 24)).alloc (.cells #[.int .i64 k2, .int .i64 n2, .string t] 24)).alloc (.cells #[.int .i64 0, .int .i64 0, .string ⟨#[]⟩] 24)) := ⟨_, rfl⟩
  have hs0 := heap_alloc_new w (.cells #[.int .i64 k, .int .i64 n, .string s] 24)
  have hs1 := heap_alloc_new (w.alloc (.cells #[.int .i64 k, .int .i64 n, .string s] 24)) (.cells #[.int .i64 k2, .int .i64 n2, .string t] 24)
  rw [World.size_alloc] at hs1
  have hs2 := heap_alloc_new ((w.alloc (.cells #[.int .i64 k, .int .i64 n, .string s] 24)).alloc (.cells #[.int .i64 k2, .int .i64 n2, .string t] 24)) (.cells #[.int .i64 0, .int .i64 0, .string ⟨#[]⟩] 24)
  rw [World.size_alloc, World.size_alloc] at hs2
  have hS0 : W.heap[w.heap.size]? = some (.cells #[.int .i64 k, .int .i64 n, .string s] 24 (0, 0)) := by rw [hW]; exact (Below.heap_alloc _ _ _ (by simp; try omega)).trans ((Below.heap_alloc _ _ _ (by simp; try omega)).trans (hs0))
  have hS1 : W.heap[w.heap.size + 1]? = some (.cells #[.int .i64 k2, .int .i64 n2, .string t] 24 (0, 0)) := by rw [hW]; exact (Below.heap_alloc _ _ _ (by simp; try omega)).trans (hs1)
  have hR : W.heap[w.heap.size + 1 + 1]? = some (.cells #[.int .i64 0, .int .i64 0, .string ⟨#[]⟩] 24 (0, 0)) := by rw [hW]; exact hs2
  have hsW : W.heap.size = w.heap.size + 3 := by rw [hW]; simp
  have hbW : Below w.heap.size w W := by rw [hW]; exact (((Below.refl _ _).alloc (Nat.le_refl _) _).alloc (by simp; try omega) _).alloc (by simp; try omega) _
  rw [← hW]
  clear hW hs0 hs1 hs2
  refine (cmp_any W k n k2 n2 s t hk hk2).mono ?_
  rintro e w1 ⟨rfl, hb1⟩
  have hs1 := hb1.size
  have hR6 := (hb1.block (w.heap.size + 1 + 1) (by omega)).trans hR
  have hb6 := hbW.trans (hb1.mono hbW.size)
  clear hS0 hS1 hR hb1
  rw [hc]
  go_wp2_with fail
  refine (bool_any _ _).mono ?_
  rintro e w2 ⟨rfl, hb2⟩
  have hs2 := hb2.size
  have hR7 := (hb2.block (w.heap.size + 1 + 1) (by omega)).trans hR6
  have hb7 := hb6.trans (hb2.mono hb6.size)
  clear hR6 hb6 hb2
  rw [hr]
  obtain ⟨r0, r1, r2, z0, z1, z2⟩ := val3 hR7
  go_wp2
  have hz := val_store (x := .int .i64 3) (y := .int .i64 r) (z := .string ⟨#[]⟩) hR7
  obtain ⟨q0, q1, q2, _⟩ := val3 hz
  refine bodyPost_ret (v := .agg #[.int .i64 3, .int .i64 r, .string ⟨#[]⟩]) ?_ rfl ?_
  · simp [results, Tryd.f11, go_sem, q0, q1, q2]
  · exact ⟨rfl, ((hb7.setCell (p := ⟨w.heap.size + 1 + 1, 0, none⟩) (by show w.heap.size ≤ w.heap.size + 1 + 1; omega) _).setCell (p := ⟨w.heap.size + 1 + 1, 1, none⟩) (by show w.heap.size ≤ w.heap.size + 1 + 1; omega) _).setCell (p := ⟨w.heap.size + 1 + 1, 2, none⟩) (by show w.heap.size ≤ w.heap.size + 1 + 1; omega) _⟩
set_option maxRecDepth 100000 in
set_option maxHeartbeats 2000000 in
theorem two_ge (w : World) (k n k2 n2 : Int) (s t : ByteArray) (hk : k ≠ 0) (hk2 : k2 ≠ 0) (hk4 : k ≠ 4) (hk24 : k2 ≠ 4) (c r : Int) (hc : vcmp (k, n, s) (k2, n2, t) = c) (hr : bN (decide (0 ≤ c)) = r) :
    Calls Tryd.prog 11 #[.int .i64 14, .agg #[.int .i64 k, .int .i64 n, .string s], .agg #[.int .i64 k2, .int .i64 n2, .string t]] w fun e w' => e = .returned (.agg #[.int .i64 3, .int .i64 r, .string ⟨#[]⟩]) ∧ Below w.heap.size w w' := by
  have a1 : (k == 4) = false := by simpa using hk4
  have a2 : decide (k = 4) = false := decide_eq_false hk4
  have a3 : (k2 == 4) = false := by simpa using hk24
  have a4 : decide (k2 = 4) = false := decide_eq_false hk24
  go_enter Tryd.func11, Tryd.ntmps11
  go_wp2_with fail
  obtain ⟨W, hW⟩ : ∃ W, W = (((w.alloc (.cells #[.int .i64 k, .int .i64 n, .string s] 24)).alloc (.cells #[.int .i64 k2, .int .i64 n2, .string t] 24)).alloc (.cells #[.int .i64 0, .int .i64 0, .string ⟨#[]⟩] 24)) := ⟨_, rfl⟩
  have hs0 := heap_alloc_new w (.cells #[.int .i64 k, .int .i64 n, .string s] 24)
  have hs1 := heap_alloc_new (w.alloc (.cells #[.int .i64 k, .int .i64 n, .string s] 24)) (.cells #[.int .i64 k2, .int .i64 n2, .string t] 24)
  rw [World.size_alloc] at hs1
  have hs2 := heap_alloc_new ((w.alloc (.cells #[.int .i64 k, .int .i64 n, .string s] 24)).alloc (.cells #[.int .i64 k2, .int .i64 n2, .string t] 24)) (.cells #[.int .i64 0, .int .i64 0, .string ⟨#[]⟩] 24)
  rw [World.size_alloc, World.size_alloc] at hs2
  have hS0 : W.heap[w.heap.size]? = some (.cells #[.int .i64 k, .int .i64 n, .string s] 24 (0, 0)) := by rw [hW]; exact (Below.heap_alloc _ _ _ (by simp; try omega)).trans ((Below.heap_alloc _ _ _ (by simp; try omega)).trans (hs0))
  have hS1 : W.heap[w.heap.size + 1]? = some (.cells #[.int .i64 k2, .int .i64 n2, .string t] 24 (0, 0)) := by rw [hW]; exact (Below.heap_alloc _ _ _ (by simp; try omega)).trans (hs1)
  have hR : W.heap[w.heap.size + 1 + 1]? = some (.cells #[.int .i64 0, .int .i64 0, .string ⟨#[]⟩] 24 (0, 0)) := by rw [hW]; exact hs2
  have hsW : W.heap.size = w.heap.size + 3 := by rw [hW]; simp
  have hbW : Below w.heap.size w W := by rw [hW]; exact (((Below.refl _ _).alloc (Nat.le_refl _) _).alloc (by simp; try omega) _).alloc (by simp; try omega) _
  rw [← hW]
  clear hW hs0 hs1 hs2
  refine (cmp_any W k n k2 n2 s t hk hk2).mono ?_
  rintro e w1 ⟨rfl, hb1⟩
  have hs1 := hb1.size
  have hR6 := (hb1.block (w.heap.size + 1 + 1) (by omega)).trans hR
  have hb6 := hbW.trans (hb1.mono hbW.size)
  clear hS0 hS1 hR hb1
  rw [hc]
  go_wp2_with fail
  refine (bool_any _ _).mono ?_
  rintro e w2 ⟨rfl, hb2⟩
  have hs2 := hb2.size
  have hR7 := (hb2.block (w.heap.size + 1 + 1) (by omega)).trans hR6
  have hb7 := hb6.trans (hb2.mono hb6.size)
  clear hR6 hb6 hb2
  rw [hr]
  obtain ⟨r0, r1, r2, z0, z1, z2⟩ := val3 hR7
  go_wp2
  have hz := val_store (x := .int .i64 3) (y := .int .i64 r) (z := .string ⟨#[]⟩) hR7
  obtain ⟨q0, q1, q2, _⟩ := val3 hz
  refine bodyPost_ret (v := .agg #[.int .i64 3, .int .i64 r, .string ⟨#[]⟩]) ?_ rfl ?_
  · simp [results, Tryd.f11, go_sem, q0, q1, q2]
  · exact ⟨rfl, ((hb7.setCell (p := ⟨w.heap.size + 1 + 1, 0, none⟩) (by show w.heap.size ≤ w.heap.size + 1 + 1; omega) _).setCell (p := ⟨w.heap.size + 1 + 1, 1, none⟩) (by show w.heap.size ≤ w.heap.size + 1 + 1; omega) _).setCell (p := ⟨w.heap.size + 1 + 1, 2, none⟩) (by show w.heap.size ≤ w.heap.size + 1 + 1; omega) _⟩
end Go.Proofs.YtejpfpklgkcagaaDoor
