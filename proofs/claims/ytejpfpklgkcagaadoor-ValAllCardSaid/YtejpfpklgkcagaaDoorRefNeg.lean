/- The document's Neg, reckon, as, order; val.Neg of any value. Written by refneggen.py. -/
import Derived.Test.YtejpfpklgkcagaaDoorRefSmall
import Derived.Test.YtejpfpklgkcagaaDoorValNeg
namespace Go.Proofs.YtejpfpklgkcagaaDoor
open Go.RowKit Go.Maps
theorem rInt_num (w : World) (k n : Int) (s : ByteArray) (h : isNum (k, n, s)) : Calls Tryd.prog 19 #[.agg #[.int .i64 k, .int .i64 n, .string s]] w fun e w' => e = .returned (.tuple #[.int .i64 n, .bool true]) ∧ Below w.heap.size w w' := by
  have := rInt_any w k n s
  rwa [if_pos h, decide_eq_true h] at this
theorem rInt_bad (w : World) (k n : Int) (s : ByteArray) (h : ¬ isNum (k, n, s)) : Calls Tryd.prog 19 #[.agg #[.int .i64 k, .int .i64 n, .string s]] w fun e w' => e = .returned (.tuple #[.int .i64 0, .bool false]) ∧ Below w.heap.size w w' := by
  have := rInt_any w k n s
  rwa [if_neg h, decide_eq_false h] at this
set_option maxRecDepth 100000 in
set_option maxHeartbeats 1000000 in
theorem rneg_4 (w : World) (n : Int) (s : ByteArray)  : Calls Tryd.prog 21 #[.agg #[.int .i64 4, .int .i64 n, .string s]] w fun e w' => e = .returned (.agg #[.int .i64 4, .int .i64 n, .string s]) ∧ Below w.heap.size w w' := by
  have C := Lib.hid (fun W => rInt_bad W 4 n s (by simp [isNum]))
  go_enter Tryd.func21, Tryd.ntmps21
  go_wp2_with fail
  obtain ⟨W, hW⟩ : ∃ W, W = ((w.alloc (.cells #[.int .i64 4, .int .i64 n, .string s] 24)).alloc (.cells #[.int .i64 0, .int .i64 0, .string ⟨#[]⟩] 24)) := ⟨_, rfl⟩
  have hs0 := heap_alloc_new w (.cells #[.int .i64 4, .int .i64 n, .string s] 24)
  have hs1 := heap_alloc_new (w.alloc (.cells #[.int .i64 4, .int .i64 n, .string s] 24)) (.cells #[.int .i64 0, .int .i64 0, .string ⟨#[]⟩] 24)
  rw [World.size_alloc] at hs1
  have hS0 : W.heap[w.heap.size]? = some (.cells #[.int .i64 4, .int .i64 n, .string s] 24 (0, 0)) := by rw [hW]; exact (Below.heap_alloc _ _ _ (by simp; try omega)).trans (hs0)
  have hR : W.heap[w.heap.size + 1]? = some (.cells #[.int .i64 0, .int .i64 0, .string ⟨#[]⟩] 24 (0, 0)) := by rw [hW]; exact hs1
  have hsW : W.heap.size = w.heap.size + 2 := by rw [hW]; simp
  have hbW : Below w.heap.size w W := by rw [hW]; exact ((Below.refl _ _).alloc (Nat.le_refl _) _).alloc (by simp; try omega) _
  rw [← hW]
  clear hW hs0 hs1
  refine (C.out W).mono ?_
  rintro e w1 ⟨rfl, hb1⟩
  have hs1 := hb1.size
  have hR5 := (hb1.block (w.heap.size + 1) (by omega)).trans hR
  have hS5 := (hb1.block w.heap.size (by omega)).trans hS0
  have hb5 := hbW.trans (hb1.mono hbW.size)
  obtain ⟨p0, p1, p2, _⟩ := val3 hS5
  clear hS0 hR hb1 C
  obtain ⟨r0, r1, r2, z0, z1, z2⟩ := val3 hR5
  go_wp2
  have hz := val_store (x := .int .i64 4) (y := .int .i64 n) (z := .string s) hR5
  obtain ⟨q0, q1, q2, _⟩ := val3 hz
  refine bodyPost_ret (v := .agg #[.int .i64 4, .int .i64 n, .string s]) ?_ rfl ?_
  · simp [results, Tryd.f21, go_sem, q0, q1, q2]
  · exact ⟨rfl, ((hb5.setCell (p := ⟨w.heap.size + 1, 0, none⟩) (by show w.heap.size ≤ w.heap.size + 1; omega) _).setCell (p := ⟨w.heap.size + 1, 1, none⟩) (by show w.heap.size ≤ w.heap.size + 1; omega) _).setCell (p := ⟨w.heap.size + 1, 2, none⟩) (by show w.heap.size ≤ w.heap.size + 1; omega) _⟩
set_option maxRecDepth 100000 in
set_option maxHeartbeats 1000000 in
theorem rneg_bad (w : World) (k n : Int) (s : ByteArray) (h : ¬ isNum (k, n, s)) (h4 : k ≠ 4) : Calls Tryd.prog 21 #[.agg #[.int .i64 k, .int .i64 n, .string s]] w fun e w' => e = .returned (.agg #[.int .i64 4, .int .i64 1, .string ⟨#[]⟩]) ∧ Below w.heap.size w w' := by
  have C := Lib.hid (fun W => rInt_bad W k n s h)
  have k4 : (k == 4) = false := by rw [beq_eq_false_iff_ne]; omega
  have k4' : decide (k = 4) = false := by rw [decide_eq_false_iff_not]; omega
  clear h h4
  go_enter Tryd.func21, Tryd.ntmps21
  go_wp2_with fail
  obtain ⟨W, hW⟩ : ∃ W, W = ((w.alloc (.cells #[.int .i64 k, .int .i64 n, .string s] 24)).alloc (.cells #[.int .i64 0, .int .i64 0, .string ⟨#[]⟩] 24)) := ⟨_, rfl⟩
  have hs0 := heap_alloc_new w (.cells #[.int .i64 k, .int .i64 n, .string s] 24)
  have hs1 := heap_alloc_new (w.alloc (.cells #[.int .i64 k, .int .i64 n, .string s] 24)) (.cells #[.int .i64 0, .int .i64 0, .string ⟨#[]⟩] 24)
  rw [World.size_alloc] at hs1
  have hS0 : W.heap[w.heap.size]? = some (.cells #[.int .i64 k, .int .i64 n, .string s] 24 (0, 0)) := by rw [hW]; exact (Below.heap_alloc _ _ _ (by simp; try omega)).trans (hs0)
  have hR : W.heap[w.heap.size + 1]? = some (.cells #[.int .i64 0, .int .i64 0, .string ⟨#[]⟩] 24 (0, 0)) := by rw [hW]; exact hs1
  have hsW : W.heap.size = w.heap.size + 2 := by rw [hW]; simp
  have hbW : Below w.heap.size w W := by rw [hW]; exact ((Below.refl _ _).alloc (Nat.le_refl _) _).alloc (by simp; try omega) _
  rw [← hW]
  clear hW hs0 hs1
  refine (C.out W).mono ?_
  rintro e w1 ⟨rfl, hb1⟩
  have hs1 := hb1.size
  have hR5 := (hb1.block (w.heap.size + 1) (by omega)).trans hR
  have hS5 := (hb1.block w.heap.size (by omega)).trans hS0
  have hb5 := hbW.trans (hb1.mono hbW.size)
  obtain ⟨p0, p1, p2, _⟩ := val3 hS5
  clear hS0 hR hb1 C
  go_wp2_with fail
  refine (no_any _ 1).mono ?_
  rintro e wn ⟨rfl, hbn⟩
  clear p0 p1 p2
  have hR6 := (hbn.block _ (by omega)).trans hR5
  have hb6 := hb5.trans (hbn.mono hb5.size)
  obtain ⟨r0, r1, r2, z0, z1, z2⟩ := val3 hR6
  go_wp2
  have hz := val_store (x := .int .i64 4) (y := .int .i64 1) (z := .string ⟨#[]⟩) hR6
  obtain ⟨q0, q1, q2, _⟩ := val3 hz
  refine bodyPost_ret (v := .agg #[.int .i64 4, .int .i64 1, .string ⟨#[]⟩]) ?_ rfl ?_
  · simp [results, Tryd.f21, go_sem, q0, q1, q2]
  · exact ⟨rfl, ((hb6.setCell (p := ⟨w.heap.size + 1, 0, none⟩) (by show w.heap.size ≤ w.heap.size + 1; omega) _).setCell (p := ⟨w.heap.size + 1, 1, none⟩) (by show w.heap.size ≤ w.heap.size + 1; omega) _).setCell (p := ⟨w.heap.size + 1, 2, none⟩) (by show w.heap.size ≤ w.heap.size + 1; omega) _⟩
set_option maxRecDepth 100000 in
set_option maxHeartbeats 1000000 in
theorem rneg_low (w : World) (k : Int) (s : ByteArray) (h : isNum (k, (-9223372036854775808), s)) : Calls Tryd.prog 21 #[.agg #[.int .i64 k, .int .i64 (-9223372036854775808), .string s]] w fun e w' => e = .returned (.agg #[.int .i64 4, .int .i64 2, .string ⟨#[]⟩]) ∧ Below w.heap.size w w' := by
  have C := Lib.hid (fun W => rInt_num W k (-9223372036854775808) s h)
  have hk : k = 0 ∨ k = 1 := h
  have k4 : (k == 4) = false := by rw [beq_eq_false_iff_ne]; omega
  have k4' : decide (k = 4) = false := by rw [decide_eq_false_iff_not]; omega
  clear h hk
  go_enter Tryd.func21, Tryd.ntmps21
  go_wp2_with fail
  obtain ⟨W, hW⟩ : ∃ W, W = ((w.alloc (.cells #[.int .i64 k, .int .i64 (-9223372036854775808), .string s] 24)).alloc (.cells #[.int .i64 0, .int .i64 0, .string ⟨#[]⟩] 24)) := ⟨_, rfl⟩
  have hs0 := heap_alloc_new w (.cells #[.int .i64 k, .int .i64 (-9223372036854775808), .string s] 24)
  have hs1 := heap_alloc_new (w.alloc (.cells #[.int .i64 k, .int .i64 (-9223372036854775808), .string s] 24)) (.cells #[.int .i64 0, .int .i64 0, .string ⟨#[]⟩] 24)
  rw [World.size_alloc] at hs1
  have hS0 : W.heap[w.heap.size]? = some (.cells #[.int .i64 k, .int .i64 (-9223372036854775808), .string s] 24 (0, 0)) := by rw [hW]; exact (Below.heap_alloc _ _ _ (by simp; try omega)).trans (hs0)
  have hR : W.heap[w.heap.size + 1]? = some (.cells #[.int .i64 0, .int .i64 0, .string ⟨#[]⟩] 24 (0, 0)) := by rw [hW]; exact hs1
  have hsW : W.heap.size = w.heap.size + 2 := by rw [hW]; simp
  have hbW : Below w.heap.size w W := by rw [hW]; exact ((Below.refl _ _).alloc (Nat.le_refl _) _).alloc (by simp; try omega) _
  rw [← hW]
  clear hW hs0 hs1
  refine (C.out W).mono ?_
  rintro e w1 ⟨rfl, hb1⟩
  have hs1 := hb1.size
  have hR5 := (hb1.block (w.heap.size + 1) (by omega)).trans hR
  have hS5 := (hb1.block w.heap.size (by omega)).trans hS0
  have hb5 := hbW.trans (hb1.mono hbW.size)
  obtain ⟨p0, p1, p2, _⟩ := val3 hS5
  clear hS0 hR hb1 C
  go_wp2_with fail
  refine (no_any _ 2).mono ?_
  rintro e wn ⟨rfl, hbn⟩
  clear p0 p1 p2
  have hR6 := (hbn.block _ (by omega)).trans hR5
  have hb6 := hb5.trans (hbn.mono hb5.size)
  obtain ⟨r0, r1, r2, z0, z1, z2⟩ := val3 hR6
  go_wp2
  have hz := val_store (x := .int .i64 4) (y := .int .i64 2) (z := .string ⟨#[]⟩) hR6
  obtain ⟨q0, q1, q2, _⟩ := val3 hz
  refine bodyPost_ret (v := .agg #[.int .i64 4, .int .i64 2, .string ⟨#[]⟩]) ?_ rfl ?_
  · simp [results, Tryd.f21, go_sem, q0, q1, q2]
  · exact ⟨rfl, ((hb6.setCell (p := ⟨w.heap.size + 1, 0, none⟩) (by show w.heap.size ≤ w.heap.size + 1; omega) _).setCell (p := ⟨w.heap.size + 1, 1, none⟩) (by show w.heap.size ≤ w.heap.size + 1; omega) _).setCell (p := ⟨w.heap.size + 1, 2, none⟩) (by show w.heap.size ≤ w.heap.size + 1; omega) _⟩
set_option maxRecDepth 100000 in
set_option maxHeartbeats 1000000 in
theorem rneg_num (w : World) (k n : Int) (s : ByteArray) (h : isNum (k, n, s)) (hn : InR n) (hm : n ≠ -9223372036854775808) : Calls Tryd.prog 21 #[.agg #[.int .i64 k, .int .i64 n, .string s]] w fun e w' => e = .returned (.agg #[.int .i64 1, .int .i64 (-n), .string ⟨#[]⟩]) ∧ Below w.heap.size w w' := by
  have C := Lib.hid (fun W => rInt_num W k n s h)
  have hk : k = 0 ∨ k = 1 := h
  have k4 : (k == 4) = false := by rw [beq_eq_false_iff_ne]; omega
  have k4' : decide (k = 4) = false := by rw [decide_eq_false_iff_not]; omega
  have n1 : (n == -9223372036854775808) = false := by simpa using hm
  have n1' : decide (n = -9223372036854775808) = false := decide_eq_false hm
  have n2 : wrap64 (-n) = -n := wrap_in (by unfold InR at *; omega)
  clear h hk hn hm
  go_enter Tryd.func21, Tryd.ntmps21
  go_wp2_with fail
  obtain ⟨W, hW⟩ : ∃ W, W = ((w.alloc (.cells #[.int .i64 k, .int .i64 n, .string s] 24)).alloc (.cells #[.int .i64 0, .int .i64 0, .string ⟨#[]⟩] 24)) := ⟨_, rfl⟩
  have hs0 := heap_alloc_new w (.cells #[.int .i64 k, .int .i64 n, .string s] 24)
  have hs1 := heap_alloc_new (w.alloc (.cells #[.int .i64 k, .int .i64 n, .string s] 24)) (.cells #[.int .i64 0, .int .i64 0, .string ⟨#[]⟩] 24)
  rw [World.size_alloc] at hs1
  have hS0 : W.heap[w.heap.size]? = some (.cells #[.int .i64 k, .int .i64 n, .string s] 24 (0, 0)) := by rw [hW]; exact (Below.heap_alloc _ _ _ (by simp; try omega)).trans (hs0)
  have hR : W.heap[w.heap.size + 1]? = some (.cells #[.int .i64 0, .int .i64 0, .string ⟨#[]⟩] 24 (0, 0)) := by rw [hW]; exact hs1
  have hsW : W.heap.size = w.heap.size + 2 := by rw [hW]; simp
  have hbW : Below w.heap.size w W := by rw [hW]; exact ((Below.refl _ _).alloc (Nat.le_refl _) _).alloc (by simp; try omega) _
  rw [← hW]
  clear hW hs0 hs1
  refine (C.out W).mono ?_
  rintro e w1 ⟨rfl, hb1⟩
  have hs1 := hb1.size
  have hR5 := (hb1.block (w.heap.size + 1) (by omega)).trans hR
  have hS5 := (hb1.block w.heap.size (by omega)).trans hS0
  have hb5 := hbW.trans (hb1.mono hbW.size)
  obtain ⟨p0, p1, p2, _⟩ := val3 hS5
  clear hS0 hR hb1 C
  go_wp2_with fail
  refine (rnum_any _ (-n)).mono ?_
  rintro e wn ⟨rfl, hbn⟩
  clear p0 p1 p2
  have hR6 := (hbn.block _ (by omega)).trans hR5
  have hb6 := hb5.trans (hbn.mono hb5.size)
  obtain ⟨r0, r1, r2, z0, z1, z2⟩ := val3 hR6
  go_wp2
  have hz := val_store (x := .int .i64 1) (y := .int .i64 (-n)) (z := .string ⟨#[]⟩) hR6
  obtain ⟨q0, q1, q2, _⟩ := val3 hz
  refine bodyPost_ret (v := .agg #[.int .i64 1, .int .i64 (-n), .string ⟨#[]⟩]) ?_ rfl ?_
  · simp [results, Tryd.f21, go_sem, q0, q1, q2]
  · exact ⟨rfl, ((hb6.setCell (p := ⟨w.heap.size + 1, 0, none⟩) (by show w.heap.size ≤ w.heap.size + 1; omega) _).setCell (p := ⟨w.heap.size + 1, 1, none⟩) (by show w.heap.size ≤ w.heap.size + 1; omega) _).setCell (p := ⟨w.heap.size + 1, 2, none⟩) (by show w.heap.size ≤ w.heap.size + 1; omega) _⟩
theorem rneg_any (w : World) (k n : Int) (s : ByteArray) (hn : InR n) : Calls Tryd.prog 21 #[.agg #[.int .i64 k, .int .i64 n, .string s]] w fun e w' => e = .returned (vv (vneg (k, n, s))) ∧ Below w.heap.size w w' := by
  by_cases h4 : k = 4
  · subst h4
    exact rneg_4 w n s
  · by_cases h : isNum (k, n, s)
    · by_cases hm : n = -9223372036854775808
      · subst hm
        rw [show vneg (k, (-9223372036854775808), s) = (4, 2, noB) by unfold vneg; rw [if_neg h4, if_pos h]; exact if_neg (show ¬ InR (- -9223372036854775808) by decide)]
        exact rneg_low w k s h
      · rw [show vneg (k, n, s) = (1, -n, noB) by unfold vneg; rw [if_neg h4, if_pos h]; exact if_pos (by show InR (-n); unfold InR at *; omega)]
        exact rneg_num w k n s h hn hm
    · rw [show vneg (k, n, s) = (4, 1, noB) by unfold vneg; rw [if_neg h4, if_neg h]]
      exact rneg_bad w k n s h h4
theorem kNum_may {k n : Int} {s : ByteArray} (h : isNum (k, n, s)) (hm : mayV (k, n, s)) : KNum k n := by
  rcases h with h | h
  · have h : k = 0 := h
    subst h
    rcases hm with ⟨_, h, _⟩ | ⟨h, _⟩ | ⟨h, _⟩ | ⟨h, _⟩ | ⟨h, _⟩
    · exact .inr ⟨rfl, h⟩
    all_goals exact absurd h (by simp)
  · exact .inl h
theorem neg_any (w : World) (k n : Int) (s : ByteArray) (hn : InR n) (hy : mayV (k, n, s)) : Calls Tryd.prog 15 #[.agg #[.int .i64 k, .int .i64 n, .string s]] w fun e w' => e = .returned (vv (vneg (k, n, s))) ∧ Below w.heap.size w w' := by
  by_cases h4 : k = 4
  · subst h4
    exact neg_err w n s
  · by_cases h : isNum (k, n, s)
    · have hk := kNum_may h hy
      by_cases hm : n = -9223372036854775808
      · subst hm
        rw [show vneg (k, (-9223372036854775808), s) = (4, 2, noB) by unfold vneg; rw [if_neg h4, if_pos h]; exact if_neg (show ¬ InR (- -9223372036854775808) by decide)]
        exact neg_low w k s hk
      · rw [show vneg (k, n, s) = (1, -n, noB) by unfold vneg; rw [if_neg h4, if_pos h]; exact if_pos (by show InR (-n); unfold InR at *; omega)]
        exact neg_num w k n s hk hn hm
    · rw [show vneg (k, n, s) = (4, 1, noB) by unfold vneg; rw [if_neg h4, if_neg h]]
      exact neg_bad w k n s (fun e => h (.inl e)) (fun e => h (.inr e)) h4
set_option maxRecDepth 100000 in
set_option maxHeartbeats 1000000 in
theorem reckon_add1 (w : World) (x y : Int) (hx : InR x) (hy : InR y) (h : InR (x + y)) : Calls Tryd.prog 29 #[.int .i64 16, .int .i64 x, .int .i64 y] w fun e w' => e = .returned (.agg #[.int .i64 1, .int .i64 (x + y), .string ⟨#[]⟩]) ∧ Below w.heap.size w w' := by
  have C := Lib.hid (fun W => plus_any W x y hx hy)
  rw [wrap_in h, decide_eq_true h] at C
  clear hx hy h
  go_enter Tryd.func29, Tryd.ntmps29
  go_wp2_with fail
  obtain ⟨W, hW⟩ : ∃ W, W = (w.alloc (.cells #[.int .i64 0, .int .i64 0, .string ⟨#[]⟩] 24)) := ⟨_, rfl⟩
  have hs0 := heap_alloc_new w (.cells #[.int .i64 0, .int .i64 0, .string ⟨#[]⟩] 24)
  have hR : W.heap[w.heap.size]? = some (.cells #[.int .i64 0, .int .i64 0, .string ⟨#[]⟩] 24 (0, 0)) := by rw [hW]; exact hs0
  have hsW : W.heap.size = w.heap.size + 1 := by rw [hW]; simp
  have hbW : Below w.heap.size w W := by rw [hW]; exact (Below.refl _ _).alloc (Nat.le_refl _) _
  rw [← hW]
  clear hW hs0
  refine (C.out _).mono ?_
  rintro e w1 ⟨rfl, hb1⟩
  have hR1 := (hb1.block _ (Array.getElem?_eq_some_iff.1 hR).1).trans hR
  have hb2 := hbW.trans (hb1.mono hbW.size)
  go_wp2_with fail
  refine (rnum_any _ (x + y)).mono ?_
  rintro e wn ⟨rfl, hbn⟩
  have hR6 := (hbn.block _ (Array.getElem?_eq_some_iff.1 hR1).1).trans hR1
  have hb6 := hb2.trans (hbn.mono hb2.size)
  obtain ⟨r0, r1, r2, z0, z1, z2⟩ := val3 hR6
  go_wp2
  have hz := val_store (x := .int .i64 1) (y := .int .i64 (x + y)) (z := .string ⟨#[]⟩) hR6
  obtain ⟨q0, q1, q2, _⟩ := val3 hz
  refine bodyPost_ret (v := .agg #[.int .i64 1, .int .i64 (x + y), .string ⟨#[]⟩]) ?_ rfl ?_
  · simp [results, Tryd.f29, go_sem, q0, q1, q2]
  · exact ⟨rfl, ((hb6.setCell (p := ⟨w.heap.size, 0, none⟩) (Nat.le_refl _) _).setCell (p := ⟨w.heap.size, 1, none⟩) (Nat.le_refl _) _).setCell (p := ⟨w.heap.size, 2, none⟩) (Nat.le_refl _) _⟩
set_option maxRecDepth 100000 in
set_option maxHeartbeats 1000000 in
theorem reckon_add2 (w : World) (x y : Int) (hx : InR x) (hy : InR y) (h : ¬ InR (x + y)) : Calls Tryd.prog 29 #[.int .i64 16, .int .i64 x, .int .i64 y] w fun e w' => e = .returned (.agg #[.int .i64 4, .int .i64 2, .string ⟨#[]⟩]) ∧ Below w.heap.size w w' := by
  obtain ⟨p, hp⟩ : ∃ p, wrap64 (x + y) = p := ⟨_, rfl⟩
  have C := Lib.hid (fun W => plus_any W x y hx hy)
  rw [hp, decide_eq_false h] at C
  clear hx hy h hp
  go_enter Tryd.func29, Tryd.ntmps29
  go_wp2_with fail
  obtain ⟨W, hW⟩ : ∃ W, W = (w.alloc (.cells #[.int .i64 0, .int .i64 0, .string ⟨#[]⟩] 24)) := ⟨_, rfl⟩
  have hs0 := heap_alloc_new w (.cells #[.int .i64 0, .int .i64 0, .string ⟨#[]⟩] 24)
  have hR : W.heap[w.heap.size]? = some (.cells #[.int .i64 0, .int .i64 0, .string ⟨#[]⟩] 24 (0, 0)) := by rw [hW]; exact hs0
  have hsW : W.heap.size = w.heap.size + 1 := by rw [hW]; simp
  have hbW : Below w.heap.size w W := by rw [hW]; exact (Below.refl _ _).alloc (Nat.le_refl _) _
  rw [← hW]
  clear hW hs0
  refine (C.out _).mono ?_
  rintro e w1 ⟨rfl, hb1⟩
  have hR1 := (hb1.block _ (Array.getElem?_eq_some_iff.1 hR).1).trans hR
  have hb2 := hbW.trans (hb1.mono hbW.size)
  go_wp2_with fail
  refine (no_any _ 2).mono ?_
  rintro e wn ⟨rfl, hbn⟩
  have hR6 := (hbn.block _ (Array.getElem?_eq_some_iff.1 hR1).1).trans hR1
  have hb6 := hb2.trans (hbn.mono hb2.size)
  obtain ⟨r0, r1, r2, z0, z1, z2⟩ := val3 hR6
  go_wp2
  have hz := val_store (x := .int .i64 4) (y := .int .i64 2) (z := .string ⟨#[]⟩) hR6
  obtain ⟨q0, q1, q2, _⟩ := val3 hz
  refine bodyPost_ret (v := .agg #[.int .i64 4, .int .i64 2, .string ⟨#[]⟩]) ?_ rfl ?_
  · simp [results, Tryd.f29, go_sem, q0, q1, q2]
  · exact ⟨rfl, ((hb6.setCell (p := ⟨w.heap.size, 0, none⟩) (Nat.le_refl _) _).setCell (p := ⟨w.heap.size, 1, none⟩) (Nat.le_refl _) _).setCell (p := ⟨w.heap.size, 2, none⟩) (Nat.le_refl _) _⟩
set_option maxRecDepth 100000 in
set_option maxHeartbeats 1000000 in
theorem reckon_mul1 (w : World) (x y : Int) (hx : InR x) (hy : InR y) (h : InR (x * y)) : Calls Tryd.prog 29 #[.int .i64 18, .int .i64 x, .int .i64 y] w fun e w' => e = .returned (.agg #[.int .i64 1, .int .i64 (x * y), .string ⟨#[]⟩]) ∧ Below w.heap.size w w' := by
  have C := Lib.hid (fun W => times_any W x y hx hy)
  rw [wrap_in h, decide_eq_true h] at C
  clear hx hy h
  go_enter Tryd.func29, Tryd.ntmps29
  go_wp2_with fail
  obtain ⟨W, hW⟩ : ∃ W, W = (w.alloc (.cells #[.int .i64 0, .int .i64 0, .string ⟨#[]⟩] 24)) := ⟨_, rfl⟩
  have hs0 := heap_alloc_new w (.cells #[.int .i64 0, .int .i64 0, .string ⟨#[]⟩] 24)
  have hR : W.heap[w.heap.size]? = some (.cells #[.int .i64 0, .int .i64 0, .string ⟨#[]⟩] 24 (0, 0)) := by rw [hW]; exact hs0
  have hsW : W.heap.size = w.heap.size + 1 := by rw [hW]; simp
  have hbW : Below w.heap.size w W := by rw [hW]; exact (Below.refl _ _).alloc (Nat.le_refl _) _
  rw [← hW]
  clear hW hs0
  refine (C.out _).mono ?_
  rintro e w1 ⟨rfl, hb1⟩
  have hR1 := (hb1.block _ (Array.getElem?_eq_some_iff.1 hR).1).trans hR
  have hb2 := hbW.trans (hb1.mono hbW.size)
  go_wp2_with fail
  refine (rnum_any _ (x * y)).mono ?_
  rintro e wn ⟨rfl, hbn⟩
  have hR6 := (hbn.block _ (Array.getElem?_eq_some_iff.1 hR1).1).trans hR1
  have hb6 := hb2.trans (hbn.mono hb2.size)
  obtain ⟨r0, r1, r2, z0, z1, z2⟩ := val3 hR6
  go_wp2
  have hz := val_store (x := .int .i64 1) (y := .int .i64 (x * y)) (z := .string ⟨#[]⟩) hR6
  obtain ⟨q0, q1, q2, _⟩ := val3 hz
  refine bodyPost_ret (v := .agg #[.int .i64 1, .int .i64 (x * y), .string ⟨#[]⟩]) ?_ rfl ?_
  · simp [results, Tryd.f29, go_sem, q0, q1, q2]
  · exact ⟨rfl, ((hb6.setCell (p := ⟨w.heap.size, 0, none⟩) (Nat.le_refl _) _).setCell (p := ⟨w.heap.size, 1, none⟩) (Nat.le_refl _) _).setCell (p := ⟨w.heap.size, 2, none⟩) (Nat.le_refl _) _⟩
set_option maxRecDepth 100000 in
set_option maxHeartbeats 1000000 in
theorem reckon_mul2 (w : World) (x y : Int) (hx : InR x) (hy : InR y) (h : ¬ InR (x * y)) : Calls Tryd.prog 29 #[.int .i64 18, .int .i64 x, .int .i64 y] w fun e w' => e = .returned (.agg #[.int .i64 4, .int .i64 2, .string ⟨#[]⟩]) ∧ Below w.heap.size w w' := by
  obtain ⟨p, hp⟩ : ∃ p, wrap64 (x * y) = p := ⟨_, rfl⟩
  have C := Lib.hid (fun W => times_any W x y hx hy)
  rw [hp, decide_eq_false h] at C
  clear hx hy h hp
  go_enter Tryd.func29, Tryd.ntmps29
  go_wp2_with fail
  obtain ⟨W, hW⟩ : ∃ W, W = (w.alloc (.cells #[.int .i64 0, .int .i64 0, .string ⟨#[]⟩] 24)) := ⟨_, rfl⟩
  have hs0 := heap_alloc_new w (.cells #[.int .i64 0, .int .i64 0, .string ⟨#[]⟩] 24)
  have hR : W.heap[w.heap.size]? = some (.cells #[.int .i64 0, .int .i64 0, .string ⟨#[]⟩] 24 (0, 0)) := by rw [hW]; exact hs0
  have hsW : W.heap.size = w.heap.size + 1 := by rw [hW]; simp
  have hbW : Below w.heap.size w W := by rw [hW]; exact (Below.refl _ _).alloc (Nat.le_refl _) _
  rw [← hW]
  clear hW hs0
  refine (C.out _).mono ?_
  rintro e w1 ⟨rfl, hb1⟩
  have hR1 := (hb1.block _ (Array.getElem?_eq_some_iff.1 hR).1).trans hR
  have hb2 := hbW.trans (hb1.mono hbW.size)
  go_wp2_with fail
  refine (no_any _ 2).mono ?_
  rintro e wn ⟨rfl, hbn⟩
  have hR6 := (hbn.block _ (Array.getElem?_eq_some_iff.1 hR1).1).trans hR1
  have hb6 := hb2.trans (hbn.mono hb2.size)
  obtain ⟨r0, r1, r2, z0, z1, z2⟩ := val3 hR6
  go_wp2
  have hz := val_store (x := .int .i64 4) (y := .int .i64 2) (z := .string ⟨#[]⟩) hR6
  obtain ⟨q0, q1, q2, _⟩ := val3 hz
  refine bodyPost_ret (v := .agg #[.int .i64 4, .int .i64 2, .string ⟨#[]⟩]) ?_ rfl ?_
  · simp [results, Tryd.f29, go_sem, q0, q1, q2]
  · exact ⟨rfl, ((hb6.setCell (p := ⟨w.heap.size, 0, none⟩) (Nat.le_refl _) _).setCell (p := ⟨w.heap.size, 1, none⟩) (Nat.le_refl _) _).setCell (p := ⟨w.heap.size, 2, none⟩) (Nat.le_refl _) _⟩
set_option maxRecDepth 100000 in
set_option maxHeartbeats 1000000 in
theorem reckon_sub1 (w : World) (x y : Int) (hx : InR x) (hy : InR y) (h : InR (x - y)) : Calls Tryd.prog 29 #[.int .i64 17, .int .i64 x, .int .i64 y] w fun e w' => e = .returned (.agg #[.int .i64 1, .int .i64 (x - y), .string ⟨#[]⟩]) ∧ Below w.heap.size w w' := by
  have hd := dif_ok' hx hy
  rw [wrap_in h, decide_eq_true h] at hd
  have hw : wrap64 (x - y) = x - y := wrap_in h
  clear hx hy h
  go_enter Tryd.func29, Tryd.ntmps29
  go_wp2_with fail
  obtain ⟨W, hW⟩ : ∃ W, W = (w.alloc (.cells #[.int .i64 0, .int .i64 0, .string ⟨#[]⟩] 24)) := ⟨_, rfl⟩
  have hs0 := heap_alloc_new w (.cells #[.int .i64 0, .int .i64 0, .string ⟨#[]⟩] 24)
  have hR : W.heap[w.heap.size]? = some (.cells #[.int .i64 0, .int .i64 0, .string ⟨#[]⟩] 24 (0, 0)) := by rw [hW]; exact hs0
  have hsW : W.heap.size = w.heap.size + 1 := by rw [hW]; simp
  have hbW : Below w.heap.size w W := by rw [hW]; exact (Below.refl _ _).alloc (Nat.le_refl _) _
  rw [← hW]
  clear hW hs0
  refine (rnum_any _ (x - y)).mono ?_
  rintro e wn ⟨rfl, hbn⟩
  have hR6 := (hbn.block _ (Array.getElem?_eq_some_iff.1 hR).1).trans hR
  have hb6 := hbW.trans (hbn.mono hbW.size)
  obtain ⟨r0, r1, r2, z0, z1, z2⟩ := val3 hR6
  go_wp2
  have hz := val_store (x := .int .i64 1) (y := .int .i64 (x - y)) (z := .string ⟨#[]⟩) hR6
  obtain ⟨q0, q1, q2, _⟩ := val3 hz
  refine bodyPost_ret (v := .agg #[.int .i64 1, .int .i64 (x - y), .string ⟨#[]⟩]) ?_ rfl ?_
  · simp [results, Tryd.f29, go_sem, q0, q1, q2]
  · exact ⟨rfl, ((hb6.setCell (p := ⟨w.heap.size, 0, none⟩) (Nat.le_refl _) _).setCell (p := ⟨w.heap.size, 1, none⟩) (Nat.le_refl _) _).setCell (p := ⟨w.heap.size, 2, none⟩) (Nat.le_refl _) _⟩
set_option maxRecDepth 100000 in
set_option maxHeartbeats 1000000 in
theorem reckon_sub2 (w : World) (x y : Int) (hx : InR x) (hy : InR y) (h : ¬ InR (x - y)) : Calls Tryd.prog 29 #[.int .i64 17, .int .i64 x, .int .i64 y] w fun e w' => e = .returned (.agg #[.int .i64 4, .int .i64 2, .string ⟨#[]⟩]) ∧ Below w.heap.size w w' := by
  have hd := dif_ok' hx hy
  rw [decide_eq_false h] at hd
  obtain ⟨p, hp⟩ : ∃ p, wrap64 (x - y) = p := ⟨_, rfl⟩
  rw [hp] at hd
  clear hx hy h
  go_enter Tryd.func29, Tryd.ntmps29
  go_wp2_with fail
  obtain ⟨W, hW⟩ : ∃ W, W = (w.alloc (.cells #[.int .i64 0, .int .i64 0, .string ⟨#[]⟩] 24)) := ⟨_, rfl⟩
  have hs0 := heap_alloc_new w (.cells #[.int .i64 0, .int .i64 0, .string ⟨#[]⟩] 24)
  have hR : W.heap[w.heap.size]? = some (.cells #[.int .i64 0, .int .i64 0, .string ⟨#[]⟩] 24 (0, 0)) := by rw [hW]; exact hs0
  have hsW : W.heap.size = w.heap.size + 1 := by rw [hW]; simp
  have hbW : Below w.heap.size w W := by rw [hW]; exact (Below.refl _ _).alloc (Nat.le_refl _) _
  rw [← hW]
  clear hW hs0
  refine (no_any _ 2).mono ?_
  rintro e wn ⟨rfl, hbn⟩
  have hR6 := (hbn.block _ (Array.getElem?_eq_some_iff.1 hR).1).trans hR
  have hb6 := hbW.trans (hbn.mono hbW.size)
  obtain ⟨r0, r1, r2, z0, z1, z2⟩ := val3 hR6
  go_wp2
  have hz := val_store (x := .int .i64 4) (y := .int .i64 2) (z := .string ⟨#[]⟩) hR6
  obtain ⟨q0, q1, q2, _⟩ := val3 hz
  refine bodyPost_ret (v := .agg #[.int .i64 4, .int .i64 2, .string ⟨#[]⟩]) ?_ rfl ?_
  · simp [results, Tryd.f29, go_sem, q0, q1, q2]
  · exact ⟨rfl, ((hb6.setCell (p := ⟨w.heap.size, 0, none⟩) (Nat.le_refl _) _).setCell (p := ⟨w.heap.size, 1, none⟩) (Nat.le_refl _) _).setCell (p := ⟨w.heap.size, 2, none⟩) (Nat.le_refl _) _⟩
set_option maxRecDepth 100000 in
set_option maxHeartbeats 1000000 in
theorem reckon_div0 (w : World) (x : Int)  : Calls Tryd.prog 29 #[.int .i64 19, .int .i64 x, .int .i64 0] w fun e w' => e = .returned (.agg #[.int .i64 4, .int .i64 3, .string ⟨#[]⟩]) ∧ Below w.heap.size w w' := by
  go_enter Tryd.func29, Tryd.ntmps29
  go_wp2_with fail
  obtain ⟨W, hW⟩ : ∃ W, W = (w.alloc (.cells #[.int .i64 0, .int .i64 0, .string ⟨#[]⟩] 24)) := ⟨_, rfl⟩
  have hs0 := heap_alloc_new w (.cells #[.int .i64 0, .int .i64 0, .string ⟨#[]⟩] 24)
  have hR : W.heap[w.heap.size]? = some (.cells #[.int .i64 0, .int .i64 0, .string ⟨#[]⟩] 24 (0, 0)) := by rw [hW]; exact hs0
  have hsW : W.heap.size = w.heap.size + 1 := by rw [hW]; simp
  have hbW : Below w.heap.size w W := by rw [hW]; exact (Below.refl _ _).alloc (Nat.le_refl _) _
  rw [← hW]
  clear hW hs0
  refine (no_any _ 3).mono ?_
  rintro e wn ⟨rfl, hbn⟩
  have hR6 := (hbn.block _ (Array.getElem?_eq_some_iff.1 hR).1).trans hR
  have hb6 := hbW.trans (hbn.mono hbW.size)
  obtain ⟨r0, r1, r2, z0, z1, z2⟩ := val3 hR6
  go_wp2
  have hz := val_store (x := .int .i64 4) (y := .int .i64 3) (z := .string ⟨#[]⟩) hR6
  obtain ⟨q0, q1, q2, _⟩ := val3 hz
  refine bodyPost_ret (v := .agg #[.int .i64 4, .int .i64 3, .string ⟨#[]⟩]) ?_ rfl ?_
  · simp [results, Tryd.f29, go_sem, q0, q1, q2]
  · exact ⟨rfl, ((hb6.setCell (p := ⟨w.heap.size, 0, none⟩) (Nat.le_refl _) _).setCell (p := ⟨w.heap.size, 1, none⟩) (Nat.le_refl _) _).setCell (p := ⟨w.heap.size, 2, none⟩) (Nat.le_refl _) _⟩
set_option maxRecDepth 100000 in
set_option maxHeartbeats 1000000 in
theorem reckon_div2 (w : World)  : Calls Tryd.prog 29 #[.int .i64 19, .int .i64 (-9223372036854775808), .int .i64 (-1)] w fun e w' => e = .returned (.agg #[.int .i64 4, .int .i64 2, .string ⟨#[]⟩]) ∧ Below w.heap.size w w' := by
  go_enter Tryd.func29, Tryd.ntmps29
  go_wp2_with fail
  obtain ⟨W, hW⟩ : ∃ W, W = (w.alloc (.cells #[.int .i64 0, .int .i64 0, .string ⟨#[]⟩] 24)) := ⟨_, rfl⟩
  have hs0 := heap_alloc_new w (.cells #[.int .i64 0, .int .i64 0, .string ⟨#[]⟩] 24)
  have hR : W.heap[w.heap.size]? = some (.cells #[.int .i64 0, .int .i64 0, .string ⟨#[]⟩] 24 (0, 0)) := by rw [hW]; exact hs0
  have hsW : W.heap.size = w.heap.size + 1 := by rw [hW]; simp
  have hbW : Below w.heap.size w W := by rw [hW]; exact (Below.refl _ _).alloc (Nat.le_refl _) _
  rw [← hW]
  clear hW hs0
  refine (no_any _ 2).mono ?_
  rintro e wn ⟨rfl, hbn⟩
  have hR6 := (hbn.block _ (Array.getElem?_eq_some_iff.1 hR).1).trans hR
  have hb6 := hbW.trans (hbn.mono hbW.size)
  obtain ⟨r0, r1, r2, z0, z1, z2⟩ := val3 hR6
  go_wp2
  have hz := val_store (x := .int .i64 4) (y := .int .i64 2) (z := .string ⟨#[]⟩) hR6
  obtain ⟨q0, q1, q2, _⟩ := val3 hz
  refine bodyPost_ret (v := .agg #[.int .i64 4, .int .i64 2, .string ⟨#[]⟩]) ?_ rfl ?_
  · simp [results, Tryd.f29, go_sem, q0, q1, q2]
  · exact ⟨rfl, ((hb6.setCell (p := ⟨w.heap.size, 0, none⟩) (Nat.le_refl _) _).setCell (p := ⟨w.heap.size, 1, none⟩) (Nat.le_refl _) _).setCell (p := ⟨w.heap.size, 2, none⟩) (Nat.le_refl _) _⟩
set_option maxRecDepth 100000 in
set_option maxHeartbeats 1000000 in
theorem reckon_div1a (w : World) (x y : Int) (hx : InR x) (h0 : y ≠ 0) (h : ¬ x = -9223372036854775808) : Calls Tryd.prog 29 #[.int .i64 19, .int .i64 x, .int .i64 y] w fun e w' => e = .returned (.agg #[.int .i64 1, .int .i64 (x.tdiv y), .string ⟨#[]⟩]) ∧ Below w.heap.size w w' := by
  have hw : wrap64 (x.tdiv y) = x.tdiv y := wrap_in (quo_rng hx h0 (fun e => h e.1))
  have f1 : (y == 0) = false := by simpa using h0
  have f1' : decide (y = 0) = false := by simpa using h0
  have f2 : (x == -9223372036854775808) = false := by simpa using h
  have f2' : decide (x = -9223372036854775808) = false := by simpa using h
  clear h hx h0
  go_enter Tryd.func29, Tryd.ntmps29
  go_wp2_with fail
  · simp_all
  · obtain ⟨W, hW⟩ : ∃ W, W = (w.alloc (.cells #[.int .i64 0, .int .i64 0, .string ⟨#[]⟩] 24)) := ⟨_, rfl⟩
    have hs0 := heap_alloc_new w (.cells #[.int .i64 0, .int .i64 0, .string ⟨#[]⟩] 24)
    have hR : W.heap[w.heap.size]? = some (.cells #[.int .i64 0, .int .i64 0, .string ⟨#[]⟩] 24 (0, 0)) := by rw [hW]; exact hs0
    have hsW : W.heap.size = w.heap.size + 1 := by rw [hW]; simp
    have hbW : Below w.heap.size w W := by rw [hW]; exact (Below.refl _ _).alloc (Nat.le_refl _) _
    rw [← hW]
    clear hW hs0
    refine (rnum_any _ (x.tdiv y)).mono ?_
    rintro e wn ⟨rfl, hbn⟩
    have hR6 := (hbn.block _ (Array.getElem?_eq_some_iff.1 hR).1).trans hR
    have hb6 := hbW.trans (hbn.mono hbW.size)
    obtain ⟨r0, r1, r2, z0, z1, z2⟩ := val3 hR6
    go_wp2
    have hz := val_store (x := .int .i64 1) (y := .int .i64 (x.tdiv y)) (z := .string ⟨#[]⟩) hR6
    obtain ⟨q0, q1, q2, _⟩ := val3 hz
    refine bodyPost_ret (v := .agg #[.int .i64 1, .int .i64 (x.tdiv y), .string ⟨#[]⟩]) ?_ rfl ?_
    · simp [results, Tryd.f29, go_sem, q0, q1, q2]
    · exact ⟨rfl, ((hb6.setCell (p := ⟨w.heap.size, 0, none⟩) (Nat.le_refl _) _).setCell (p := ⟨w.heap.size, 1, none⟩) (Nat.le_refl _) _).setCell (p := ⟨w.heap.size, 2, none⟩) (Nat.le_refl _) _⟩
set_option maxRecDepth 100000 in
set_option maxHeartbeats 1000000 in
theorem reckon_div1b (w : World) (y : Int) (h0 : y ≠ 0) (h : ¬ y = -1) : Calls Tryd.prog 29 #[.int .i64 19, .int .i64 (-9223372036854775808), .int .i64 y] w fun e w' => e = .returned (.agg #[.int .i64 1, .int .i64 (-Int.tdiv 9223372036854775808 y), .string ⟨#[]⟩]) ∧ Below w.heap.size w w' := by
  have hx : InR (-9223372036854775808) := by decide
  have hw := wrap_in (quo_rng hx h0 (fun e => h e.2))
  rw [show (-9223372036854775808 : Int).tdiv y = -Int.tdiv 9223372036854775808 y from Int.neg_tdiv 9223372036854775808 y] at hw
  have f1 : (y == 0) = false := by simpa using h0
  have f1' : decide (y = 0) = false := by simpa using h0
  have f2 : (y == (-1)) = false := by simpa using h
  have f2' : decide (y = (-1)) = false := by simpa using h
  clear h hx h0
  go_enter Tryd.func29, Tryd.ntmps29
  go_wp2_with fail
  · simp_all
  · obtain ⟨W, hW⟩ : ∃ W, W = (w.alloc (.cells #[.int .i64 0, .int .i64 0, .string ⟨#[]⟩] 24)) := ⟨_, rfl⟩
    have hs0 := heap_alloc_new w (.cells #[.int .i64 0, .int .i64 0, .string ⟨#[]⟩] 24)
    have hR : W.heap[w.heap.size]? = some (.cells #[.int .i64 0, .int .i64 0, .string ⟨#[]⟩] 24 (0, 0)) := by rw [hW]; exact hs0
    have hsW : W.heap.size = w.heap.size + 1 := by rw [hW]; simp
    have hbW : Below w.heap.size w W := by rw [hW]; exact (Below.refl _ _).alloc (Nat.le_refl _) _
    rw [← hW]
    clear hW hs0
    refine (rnum_any _ (-Int.tdiv 9223372036854775808 y)).mono ?_
    rintro e wn ⟨rfl, hbn⟩
    have hR6 := (hbn.block _ (Array.getElem?_eq_some_iff.1 hR).1).trans hR
    have hb6 := hbW.trans (hbn.mono hbW.size)
    obtain ⟨r0, r1, r2, z0, z1, z2⟩ := val3 hR6
    go_wp2
    have hz := val_store (x := .int .i64 1) (y := .int .i64 (-Int.tdiv 9223372036854775808 y)) (z := .string ⟨#[]⟩) hR6
    obtain ⟨q0, q1, q2, _⟩ := val3 hz
    refine bodyPost_ret (v := .agg #[.int .i64 1, .int .i64 (-Int.tdiv 9223372036854775808 y), .string ⟨#[]⟩]) ?_ rfl ?_
    · simp [results, Tryd.f29, go_sem, q0, q1, q2]
    · exact ⟨rfl, ((hb6.setCell (p := ⟨w.heap.size, 0, none⟩) (Nat.le_refl _) _).setCell (p := ⟨w.heap.size, 1, none⟩) (Nat.le_refl _) _).setCell (p := ⟨w.heap.size, 2, none⟩) (Nat.le_refl _) _⟩
theorem reckon_any (w : World) (kind x y : Int) (hx : InR x) (hy : InR y) (hk : 16 ≤ kind ∧ kind ≤ 19) : Calls Tryd.prog 29 #[.int .i64 kind, .int .i64 x, .int .i64 y] w fun e w' => e = .returned (vv (vnum kind x y)) ∧ Below w.heap.size w w' := by
  rcases (show kind = 16 ∨ kind = 17 ∨ kind = 18 ∨ kind = 19 by omega) with rfl | rfl | rfl | rfl
  · by_cases h : InR (x + y)
    · rw [show vnum 16 x y = (1, x + y, noB) from if_pos h]
      exact reckon_add1 w x y hx hy h
    · rw [show vnum 16 x y = (4, 2, noB) from if_neg h]
      exact reckon_add2 w x y hx hy h
  · by_cases h : InR (x - y)
    · rw [show vnum 17 x y = (1, x - y, noB) from if_pos h]
      exact reckon_sub1 w x y hx hy h
    · rw [show vnum 17 x y = (4, 2, noB) from if_neg h]
      exact reckon_sub2 w x y hx hy h
  · by_cases h : InR (x * y)
    · rw [show vnum 18 x y = (1, x * y, noB) from if_pos h]
      exact reckon_mul1 w x y hx hy h
    · rw [show vnum 18 x y = (4, 2, noB) from if_neg h]
      exact reckon_mul2 w x y hx hy h
  · by_cases h0 : y = 0
    · subst h0
      exact reckon_div0 w x
    · have e : vnum 19 x y = resV (x.tdiv y) := if_neg h0
      rw [e]
      by_cases h1 : x = -9223372036854775808
      · subst h1
        by_cases h2 : y = -1
        · subst h2
          rw [show resV ((-9223372036854775808 : Int).tdiv (-1)) = (4, 2, noB) from if_neg quo_out]
          exact reckon_div2 w
        · rw [show resV ((-9223372036854775808 : Int).tdiv y) = (1, -Int.tdiv 9223372036854775808 y, noB) by
            rw [← Int.neg_tdiv 9223372036854775808 y]; exact if_pos (quo_rng hx h0 fun e => h2 e.2)]
          exact reckon_div1b w y h0 h2
      · rw [show resV (x.tdiv y) = (1, x.tdiv y, noB) from if_pos (quo_rng hx h0 fun e => h1 e.1)]
        exact reckon_div1a w x y hx h0 h1
end Go.Proofs.YtejpfpklgkcagaaDoor
