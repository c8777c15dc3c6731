/- val.Neg. Written by valneggen.py. -/
import Derived.Test.YtejpfpklgkcagaaDoorValBad
namespace Go.Proofs.YtejpfpklgkcagaaDoor
open Go.RowKit Go.Maps
set_option maxRecDepth 100000 in
set_option maxHeartbeats 2000000 in
theorem neg_num (w : World) (k1 x : Int) (s : ByteArray) (hk1 : KNum k1 x) (hx : InR x) (hm : x ≠ -9223372036854775808) :
    Calls Tryd.prog 15 #[.agg #[.int .i64 k1, .int .i64 x, .string s]] w fun e w' => e = .returned (.agg #[.int .i64 1, .int .i64 (-x), .string ⟨#[]⟩]) ∧ Below w.heap.size w w' := by
  have hk4 : k1 ≠ 4 := by rcases hk1 with rfl | ⟨rfl, _⟩ <;> decide
  have a1 : (k1 == 4) = false := by simpa using hk4
  have a2 : decide (k1 = 4) = false := decide_eq_false hk4
  have C := Lib.hid (fun W => valInt_num W k1 x s hk1)
  have n1 : (x == -9223372036854775808) = false := by simpa using hm
  have n2 : wrap64 (-x) = -x := wrap_in (by unfold InR at *; omega)
  clear hk1 hx hk4
  go_enter Tryd.func15, Tryd.ntmps15
  go_wp2_with fail
  obtain ⟨W, hW⟩ : ∃ W, W = ((w.alloc (.cells #[.int .i64 k1, .int .i64 x, .string s] 24)).alloc (.cells #[.int .i64 0, .int .i64 0, .string ⟨#[]⟩] 24)) := ⟨_, rfl⟩
  have hs0 := heap_alloc_new w (.cells #[.int .i64 k1, .int .i64 x, .string s] 24)
  have hs1 := heap_alloc_new (w.alloc (.cells #[.int .i64 k1, .int .i64 x, .string s] 24)) (.cells #[.int .i64 0, .int .i64 0, .string ⟨#[]⟩] 24)
  rw [World.size_alloc] at hs1
  have hS0 : W.heap[w.heap.size]? = some (.cells #[.int .i64 k1, .int .i64 x, .string s] 24 (0, 0)) := by rw [hW]; exact (Below.heap_alloc _ _ _ (by simp; try omega)).trans (hs0)
  have hR : W.heap[w.heap.size + 1]? = some (.cells #[.int .i64 0, .int .i64 0, .string ⟨#[]⟩] 24 (0, 0)) := by rw [hW]; exact hs1
  have hsW : W.heap.size = w.heap.size + 2 := by rw [hW]; simp
  have hbW : Below w.heap.size w W := by rw [hW]; exact ((Below.refl _ _).alloc (Nat.le_refl _) _).alloc (by simp; try omega) _
  rw [← hW]
  clear hW hs0 hs1
  refine (C.out W).mono ?_
  rintro e w1 ⟨rfl, hb1⟩
  have hs1 := hb1.size
  have hR5 := (hb1.block (w.heap.size + 1) (by omega)).trans hR
  have hb5 := hbW.trans (hb1.mono hbW.size)
  clear hS0 hR hb1 C
  go_wp2_with fail
  refine (num_any _ (-x)).mono ?_
  rintro e wn ⟨rfl, hbn⟩
  have hR6 := (hbn.block _ (by omega)).trans hR5
  have hb6 := hb5.trans (hbn.mono hb5.size)
  obtain ⟨r0, r1, r2, z0, z1, z2⟩ := val3 hR6
  go_wp2
  have hz := val_store (x := .int .i64 1) (y := .int .i64 (-x)) (z := .string ⟨#[]⟩) hR6
  obtain ⟨q0, q1, q2, _⟩ := val3 hz
  refine bodyPost_ret (v := .agg #[.int .i64 1, .int .i64 (-x), .string ⟨#[]⟩]) ?_ rfl ?_
  · simp [results, Tryd.f15, go_sem, q0, q1, q2]
  · exact ⟨rfl, ((hb6.setCell (p := ⟨w.heap.size + 1, 0, none⟩) (by show w.heap.size ≤ w.heap.size + 1; omega) _).setCell (p := ⟨w.heap.size + 1, 1, none⟩) (by show w.heap.size ≤ w.heap.size + 1; omega) _).setCell (p := ⟨w.heap.size + 1, 2, none⟩) (by show w.heap.size ≤ w.heap.size + 1; omega) _⟩
set_option maxRecDepth 100000 in
set_option maxHeartbeats 2000000 in
theorem neg_low (w : World) (k1 : Int) (s : ByteArray) (hk1 : KNum k1 (-9223372036854775808)) :
    Calls Tryd.prog 15 #[.agg #[.int .i64 k1, .int .i64 (-9223372036854775808), .string s]] w fun e w' => e = .returned (.agg #[.int .i64 4, .int .i64 2, .string ⟨#[]⟩]) ∧ Below w.heap.size w w' := by
  have hk4 : k1 ≠ 4 := by rcases hk1 with rfl | ⟨rfl, _⟩ <;> decide
  have a1 : (k1 == 4) = false := by simpa using hk4
  have a2 : decide (k1 = 4) = false := decide_eq_false hk4
  have C := Lib.hid (fun W => valInt_num W k1 (-9223372036854775808) s hk1)
  clear hk1 hk4
  go_enter Tryd.func15, Tryd.ntmps15
  go_wp2_with fail
  obtain ⟨W, hW⟩ : ∃ W, W = ((w.alloc (.cells #[.int .i64 k1, .int .i64 (-9223372036854775808), .string s] 24)).alloc (.cells #[.int .i64 0, .int .i64 0, .string ⟨#[]⟩] 24)) := ⟨_, rfl⟩
  have hs0 := heap_alloc_new w (.cells #[.int .i64 k1, .int .i64 (-9223372036854775808), .string s] 24)
  have hs1 := heap_alloc_new (w.alloc (.cells #[.int .i64 k1, .int .i64 (-9223372036854775808), .string s] 24)) (.cells #[.int .i64 0, .int .i64 0, .string ⟨#[]⟩] 24)
  rw [World.size_alloc] at hs1
  have hS0 : W.heap[w.heap.size]? = some (.cells #[.int .i64 k1, .int .i64 (-9223372036854775808), .string s] 24 (0, 0)) := by rw [hW]; exact (Below.heap_alloc _ _ _ (by simp; try omega)).trans (hs0)
  have hR : W.heap[w.heap.size + 1]? = some (.cells #[.int .i64 0, .int .i64 0, .string ⟨#[]⟩] 24 (0, 0)) := by rw [hW]; exact hs1
  have hsW : W.heap.size = w.heap.size + 2 := by rw [hW]; simp
  have hbW : Below w.heap.size w W := by rw [hW]; exact ((Below.refl _ _).alloc (Nat.le_refl _) _).alloc (by simp; try omega) _
  rw [← hW]
  clear hW hs0 hs1
  refine (C.out W).mono ?_
  rintro e w1 ⟨rfl, hb1⟩
  have hs1 := hb1.size
  have hR5 := (hb1.block (w.heap.size + 1) (by omega)).trans hR
  have hb5 := hbW.trans (hb1.mono hbW.size)
  clear hS0 hR hb1 C
  go_wp2_with fail
  refine (err_any _ 2).mono ?_
  rintro e wn ⟨rfl, hbn⟩
  have hR6 := (hbn.block _ (by omega)).trans hR5
  have hb6 := hb5.trans (hbn.mono hb5.size)
  obtain ⟨r0, r1, r2, z0, z1, z2⟩ := val3 hR6
  go_wp2
  have hz := val_store (x := .int .i64 4) (y := .int .i64 2) (z := .string ⟨#[]⟩) hR6
  obtain ⟨q0, q1, q2, _⟩ := val3 hz
  refine bodyPost_ret (v := .agg #[.int .i64 4, .int .i64 2, .string ⟨#[]⟩]) ?_ rfl ?_
  · simp [results, Tryd.f15, go_sem, q0, q1, q2]
  · exact ⟨rfl, ((hb6.setCell (p := ⟨w.heap.size + 1, 0, none⟩) (by show w.heap.size ≤ w.heap.size + 1; omega) _).setCell (p := ⟨w.heap.size + 1, 1, none⟩) (by show w.heap.size ≤ w.heap.size + 1; omega) _).setCell (p := ⟨w.heap.size + 1, 2, none⟩) (by show w.heap.size ≤ w.heap.size + 1; omega) _⟩
set_option maxRecDepth 100000 in
set_option maxHeartbeats 2000000 in
theorem neg_bad (w : World) (k1 x : Int) (s : ByteArray) (h0 : k1 ≠ 0) (h1 : k1 ≠ 1) (hk4 : k1 ≠ 4) :
    Calls Tryd.prog 15 #[.agg #[.int .i64 k1, .int .i64 x, .string s]] w fun e w' => e = .returned (.agg #[.int .i64 4, .int .i64 1, .string ⟨#[]⟩]) ∧ Below w.heap.size w w' := by
  have a1 : (k1 == 4) = false := by simpa using hk4
  have a2 : decide (k1 = 4) = false := decide_eq_false hk4
  have C := Lib.hid (fun W => valInt_bad W k1 x s h0 h1)
  clear h0 h1 hk4
  go_enter Tryd.func15, Tryd.ntmps15
  go_wp2_with fail
  obtain ⟨W, hW⟩ : ∃ W, W = ((w.alloc (.cells #[.int .i64 k1, .int .i64 x, .string s] 24)).alloc (.cells #[.int .i64 0, .int .i64 0, .string ⟨#[]⟩] 24)) := ⟨_, rfl⟩
  have hs0 := heap_alloc_new w (.cells #[.int .i64 k1, .int .i64 x, .string s] 24)
  have hs1 := heap_alloc_new (w.alloc (.cells #[.int .i64 k1, .int .i64 x, .string s] 24)) (.cells #[.int .i64 0, .int .i64 0, .string ⟨#[]⟩] 24)
  rw [World.size_alloc] at hs1
  have hS0 : W.heap[w.heap.size]? = some (.cells #[.int .i64 k1, .int .i64 x, .string s] 24 (0, 0)) := by rw [hW]; exact (Below.heap_alloc _ _ _ (by simp; try omega)).trans (hs0)
  have hR : W.heap[w.heap.size + 1]? = some (.cells #[.int .i64 0, .int .i64 0, .string ⟨#[]⟩] 24 (0, 0)) := by rw [hW]; exact hs1
  have hsW : W.heap.size = w.heap.size + 2 := by rw [hW]; simp
  have hbW : Below w.heap.size w W := by rw [hW]; exact ((Below.refl _ _).alloc (Nat.le_refl _) _).alloc (by simp; try omega) _
  rw [← hW]
  clear hW hs0 hs1
  refine (C.out W).mono ?_
  rintro e w1 ⟨rfl, hb1⟩
  have hs1 := hb1.size
  have hR5 := (hb1.block (w.heap.size + 1) (by omega)).trans hR
  have hb5 := hbW.trans (hb1.mono hbW.size)
  clear hS0 hR hb1 C
  go_wp2_with fail
  refine (err_any _ 1).mono ?_
  rintro e wn ⟨rfl, hbn⟩
  have hR6 := (hbn.block _ (by omega)).trans hR5
  have hb6 := hb5.trans (hbn.mono hb5.size)
  obtain ⟨r0, r1, r2, z0, z1, z2⟩ := val3 hR6
  go_wp2
  have hz := val_store (x := .int .i64 4) (y := .int .i64 1) (z := .string ⟨#[]⟩) hR6
  obtain ⟨q0, q1, q2, _⟩ := val3 hz
  refine bodyPost_ret (v := .agg #[.int .i64 4, .int .i64 1, .string ⟨#[]⟩]) ?_ rfl ?_
  · simp [results, Tryd.f15, go_sem, q0, q1, q2]
  · exact ⟨rfl, ((hb6.setCell (p := ⟨w.heap.size + 1, 0, none⟩) (by show w.heap.size ≤ w.heap.size + 1; omega) _).setCell (p := ⟨w.heap.size + 1, 1, none⟩) (by show w.heap.size ≤ w.heap.size + 1; omega) _).setCell (p := ⟨w.heap.size + 1, 2, none⟩) (by show w.heap.size ≤ w.heap.size + 1; omega) _⟩
end Go.Proofs.YtejpfpklgkcagaaDoor
