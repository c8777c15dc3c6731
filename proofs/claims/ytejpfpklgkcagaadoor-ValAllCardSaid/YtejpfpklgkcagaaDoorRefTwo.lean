/- The document's Two. Written by reftwo.py. -/
import Derived.Test.YtejpfpklgkcagaaDoorRefDigits
namespace Go.Proofs.YtejpfpklgkcagaaDoor
open Go.RowKit Go.Maps
theorem likeV_like (x y : V3) : likeV y (likeV x y) = likeV y x := by
  unfold likeV
  by_cases hy : y.1 = 0
  · rw [if_pos hy, if_pos hy]
    by_cases hx : x.1 = 0
    · rw [if_pos hx, hx, hy]
    · rw [if_neg hx]
  · rw [if_neg hy, if_neg hy]
theorem none_may {x : V3} (h : mayV x) (h0 : x.1 = 0) : x = (0, 0, noB) := by
  rcases h with ⟨a, b, c⟩ | ⟨a, _⟩ | ⟨a, _⟩ | ⟨a, _⟩ | ⟨a, _⟩
  · obtain ⟨k, n, s⟩ := x
    simp only at a b c
    rw [a, b, c]
  all_goals (rw [h0] at a; exact absurd a (by decide))
theorem order_all (w : World) (x y : V3) (hx : mayV x) (hy : mayV y) : Calls Tryd.prog 30 #[vv x, vv y] w fun e w' => e = .returned (.int .i64 (vorder x y)) ∧ Below w.heap.size w w' := by
  obtain ⟨k, n, s⟩ := x
  obtain ⟨k2, n2, t⟩ := y
  exact order_any w k n k2 n2 _ _ _ _ s t _ _ (fun h => none_may hx h) (fun h => none_may hy h) rfl (likeV_like _ _) _ rfl
theorem vtext_size {k n : Int} {s : ByteArray} (hn : InR n) (h : mayV (k, n, s)) : (vtext (k, n, s)).size ≤ 200 := by
  rcases h with ⟨a, _⟩ | ⟨a, _⟩ | ⟨a, _, h⟩ | ⟨a, _⟩ | ⟨a, _⟩ <;> simp only at a <;> subst a
  · show (⟨#[]⟩ : ByteArray).size ≤ 200; decide
  · have := Lib.itoa_length_le n hn.1 hn.2
    show (Lib.itoa n).toArray.size ≤ 200
    rw [List.size_toArray]; omega
  · exact h
  · show (if n = 1 then (⟨#[84, 82, 85, 69]⟩ : ByteArray) else ⟨#[70, 65, 76, 83, 69]⟩).size ≤ 200
    split <;> decide
  · show (errText n).size ≤ 200
    unfold errText
    repeat' split
    all_goals decide
set_option maxRecDepth 100000 in
set_option maxHeartbeats 1000000 in
theorem rtwo_errL (w : World) (kind n k2 n2 : Int) (s t : ByteArray)  : Calls Tryd.prog 13 #[.int .i64 kind, .agg #[.int .i64 4, .int .i64 n, .string s], .agg #[.int .i64 k2, .int .i64 n2, .string t]] w fun e w' => e = .returned (.agg #[.int .i64 4, .int .i64 n, .string s]) ∧ Below w.heap.size w w' := by

  go_enter Tryd.func13, Tryd.ntmps13
  go_wp2_with fail
  refine bodyPost_ret (v := .agg #[.int .i64 4, .int .i64 n, .string s]) ?_ rfl ⟨rfl, (((Below.refl _ _).alloc (Nat.le_refl _) _).alloc (by simp) _).alloc (by simp; omega) _⟩
  simp [results, Tryd.f13, go_sem]
set_option maxRecDepth 100000 in
set_option maxHeartbeats 1000000 in
theorem rtwo_errR (w : World) (kind k n n2 : Int) (s t : ByteArray) (hk : k ≠ 4) : Calls Tryd.prog 13 #[.int .i64 kind, .agg #[.int .i64 k, .int .i64 n, .string s], .agg #[.int .i64 4, .int .i64 n2, .string t]] w fun e w' => e = .returned (.agg #[.int .i64 4, .int .i64 n2, .string t]) ∧ Below w.heap.size w w' := by
  have f1 : (k == 4) = false := by simpa using hk
  have f1' : decide (k = 4) = false := by simpa using hk
  clear hk
  go_enter Tryd.func13, Tryd.ntmps13
  go_wp2_with fail
  refine bodyPost_ret (v := .agg #[.int .i64 4, .int .i64 n2, .string t]) ?_ rfl ⟨rfl, (((Below.refl _ _).alloc (Nat.le_refl _) _).alloc (by simp) _).alloc (by simp; omega) _⟩
  simp [results, Tryd.f13, go_sem]
set_option maxRecDepth 100000 in
set_option maxHeartbeats 1000000 in
theorem rtwo_eq (w : World) (k n k2 n2 c r : Int) (s t : ByteArray) (hk : k ≠ 4) (hk2 : k2 ≠ 4) (hm1 : mayV (k, n, s)) (hm2 : mayV (k2, n2, t)) (hc : vorder (k, n, s) (k2, n2, t) = c) (hr : bN (c == 0) = r) : Calls Tryd.prog 13 #[.int .i64 9, .agg #[.int .i64 k, .int .i64 n, .string s], .agg #[.int .i64 k2, .int .i64 n2, .string t]] w fun e w' => e = .returned (.agg #[.int .i64 3, .int .i64 r, .string ⟨#[]⟩]) ∧ Below w.heap.size w w' := by
  have f1 : (k == 4) = false := by simpa using hk
  have f1' : decide (k = 4) = false := by simpa using hk
  have f2 : (k2 == 4) = false := by simpa using hk2
  have f2' : decide (k2 = 4) = false := by simpa using hk2
  have C := Lib.hid (fun W => order_all W _ _ hm1 hm2)
  rw [hc] at C
  have HR := Lib.hid hr
  clear hk hk2 hm1 hm2 hc hr
  go_enter Tryd.func13, Tryd.ntmps13
  go_wp2_with fail
  obtain ⟨W, hW⟩ : ∃ W, W = (((w.alloc (.cells #[.int .i64 k, .int .i64 n, .string s] 24)).alloc (.cells #[.int .i64 k2, .int .i64 n2, .string t] 24)).alloc (.cells #[.int .i64 0, .int .i64 0, .string ⟨#[]⟩] 24)) := ⟨_, rfl⟩
  have hs0 := heap_alloc_new w (.cells #[.int .i64 k, .int .i64 n, .string s] 24)
  have hs1 := heap_alloc_new (w.alloc (.cells #[.int .i64 k, .int .i64 n, .string s] 24)) (.cells #[.int .i64 k2, .int .i64 n2, .string t] 24)
  rw [World.size_alloc] at hs1
  have hs2 := heap_alloc_new ((w.alloc (.cells #[.int .i64 k, .int .i64 n, .string s] 24)).alloc (.cells #[.int .i64 k2, .int .i64 n2, .string t] 24)) (.cells #[.int .i64 0, .int .i64 0, .string ⟨#[]⟩] 24)
  rw [World.size_alloc, World.size_alloc] at hs2
  have hX : W.heap[w.heap.size]? = some (.cells #[.int .i64 k, .int .i64 n, .string s] 24 (0, 0)) := by rw [hW]; exact (Below.heap_alloc _ _ _ (by simp; try omega)).trans ((Below.heap_alloc _ _ _ (by simp; try omega)).trans (hs0))
  have hY : W.heap[w.heap.size + 1]? = some (.cells #[.int .i64 k2, .int .i64 n2, .string t] 24 (0, 0)) := by rw [hW]; exact (Below.heap_alloc _ _ _ (by simp; try omega)).trans (hs1)
  have hR : W.heap[w.heap.size + 1 + 1]? = some (.cells #[.int .i64 0, .int .i64 0, .string ⟨#[]⟩] 24 (0, 0)) := by rw [hW]; exact hs2
  have hsW : W.heap.size = w.heap.size + 3 := by rw [hW]; simp
  have hbW : Below w.heap.size w W := by rw [hW]; exact (((Below.refl _ _).alloc (Nat.le_refl _) _).alloc (by simp; try omega) _).alloc (by simp; try omega) _
  rw [← hW]
  clear hW hs0 hs1 hs2
  refine (C.out _).mono ?_
  rintro e w1 ⟨rfl, hbn⟩
  have hX := (hbn.block _ (Array.getElem?_eq_some_iff.1 hX).1).trans hX
  have hY := (hbn.block _ (Array.getElem?_eq_some_iff.1 hY).1).trans hY
  have hR := (hbn.block _ (Array.getElem?_eq_some_iff.1 hR).1).trans hR
  have hbW := hbW.trans (hbn.mono hbW.size)
  clear hbn
  go_wp2_with fail
  refine (rtruth_any _ _).mono ?_
  rintro e w2 ⟨rfl, hbn⟩
  have hX := (hbn.block _ (Array.getElem?_eq_some_iff.1 hX).1).trans hX
  have hY := (hbn.block _ (Array.getElem?_eq_some_iff.1 hY).1).trans hY
  have hR := (hbn.block _ (Array.getElem?_eq_some_iff.1 hR).1).trans hR
  have hbW := hbW.trans (hbn.mono hbW.size)
  clear hbn
  rw [HR.out]
  obtain ⟨r0, r1, r2, z0, z1, z2⟩ := val3 hR
  go_wp2
  have hz := val_store (x := .int .i64 3) (y := .int .i64 r) (z := .string ⟨#[]⟩) hR
  obtain ⟨q0, q1, q2, _⟩ := val3 hz
  refine bodyPost_ret (v := .agg #[.int .i64 3, .int .i64 r, .string ⟨#[]⟩]) ?_ rfl ?_
  · simp [results, Tryd.f13, go_sem, q0, q1, q2]
  · exact ⟨rfl, ((hbW.setCell (p := ⟨w.heap.size + 1 + 1, 0, none⟩) (by show w.heap.size ≤ w.heap.size + 1 + 1; omega) _).setCell (p := ⟨w.heap.size + 1 + 1, 1, none⟩) (by show w.heap.size ≤ w.heap.size + 1 + 1; omega) _).setCell (p := ⟨w.heap.size + 1 + 1, 2, none⟩) (by show w.heap.size ≤ w.heap.size + 1 + 1; omega) _⟩
set_option maxRecDepth 100000 in
set_option maxHeartbeats 1000000 in
theorem rtwo_ne (w : World) (k n k2 n2 c r : Int) (s t : ByteArray) (hk : k ≠ 4) (hk2 : k2 ≠ 4) (hm1 : mayV (k, n, s)) (hm2 : mayV (k2, n2, t)) (hc : vorder (k, n, s) (k2, n2, t) = c) (hr : bN (c != 0) = r) : Calls Tryd.prog 13 #[.int .i64 10, .agg #[.int .i64 k, .int .i64 n, .string s], .agg #[.int .i64 k2, .int .i64 n2, .string t]] w fun e w' => e = .returned (.agg #[.int .i64 3, .int .i64 r, .string ⟨#[]⟩]) ∧ Below w.heap.size w w' := by
  have f1 : (k == 4) = false := by simpa using hk
  have f1' : decide (k = 4) = false := by simpa using hk
  have f2 : (k2 == 4) = false := by simpa using hk2
  have f2' : decide (k2 = 4) = false := by simpa using hk2
  have C := Lib.hid (fun W => order_all W _ _ hm1 hm2)
  rw [hc] at C
  have HR := Lib.hid hr
  clear hk hk2 hm1 hm2 hc hr
  go_enter Tryd.func13, Tryd.ntmps13
  go_wp2_with fail
  obtain ⟨W, hW⟩ : ∃ W, W = (((w.alloc (.cells #[.int .i64 k, .int .i64 n, .string s] 24)).alloc (.cells #[.int .i64 k2, .int .i64 n2, .string t] 24)).alloc (.cells #[.int .i64 0, .int .i64 0, .string ⟨#[]⟩] 24)) := ⟨_, rfl⟩
  have hs0 := heap_alloc_new w (.cells #[.int .i64 k, .int .i64 n, .string s] 24)
  have hs1 := heap_alloc_new (w.alloc (.cells #[.int .i64 k, .int .i64 n, .string s] 24)) (.cells #[.int .i64 k2, .int .i64 n2, .string t] 24)
  rw [World.size_alloc] at hs1
  have hs2 := heap_alloc_new ((w.alloc (.cells #[.int .i64 k, .int .i64 n, .string s] 24)).alloc (.cells #[.int .i64 k2, .int .i64 n2, .string t] 24)) (.cells #[.int .i64 0, .int .i64 0, .string ⟨#[]⟩] 24)
  rw [World.size_alloc, World.size_alloc] at hs2
  have hX : W.heap[w.heap.size]? = some (.cells #[.int .i64 k, .int .i64 n, .string s] 24 (0, 0)) := by rw [hW]; exact (Below.heap_alloc _ _ _ (by simp; try omega)).trans ((Below.heap_alloc _ _ _ (by simp; try omega)).trans (hs0))
  have hY : W.heap[w.heap.size + 1]? = some (.cells #[.int .i64 k2, .int .i64 n2, .string t] 24 (0, 0)) := by rw [hW]; exact (Below.heap_alloc _ _ _ (by simp; try omega)).trans (hs1)
  have hR : W.heap[w.heap.size + 1 + 1]? = some (.cells #[.int .i64 0, .int .i64 0, .string ⟨#[]⟩] 24 (0, 0)) := by rw [hW]; exact hs2
  have hsW : W.heap.size = w.heap.size + 3 := by rw [hW]; simp
  have hbW : Below w.heap.size w W := by rw [hW]; exact (((Below.refl _ _).alloc (Nat.le_refl _) _).alloc (by simp; try omega) _).alloc (by simp; try omega) _
  rw [← hW]
  clear hW hs0 hs1 hs2
  refine (C.out _).mono ?_
  rintro e w1 ⟨rfl, hbn⟩
  have hX := (hbn.block _ (Array.getElem?_eq_some_iff.1 hX).1).trans hX
  have hY := (hbn.block _ (Array.getElem?_eq_some_iff.1 hY).1).trans hY
  have hR := (hbn.block _ (Array.getElem?_eq_some_iff.1 hR).1).trans hR
  have hbW := hbW.trans (hbn.mono hbW.size)
  clear hbn
  go_wp2_with fail
  refine (rtruth_any _ _).mono ?_
  rintro e w2 ⟨rfl, hbn⟩
  have hX := (hbn.block _ (Array.getElem?_eq_some_iff.1 hX).1).trans hX
  have hY := (hbn.block _ (Array.getElem?_eq_some_iff.1 hY).1).trans hY
  have hR := (hbn.block _ (Array.getElem?_eq_some_iff.1 hR).1).trans hR
  have hbW := hbW.trans (hbn.mono hbW.size)
  clear hbn
  rw [HR.out]
  obtain ⟨r0, r1, r2, z0, z1, z2⟩ := val3 hR
  go_wp2
  have hz := val_store (x := .int .i64 3) (y := .int .i64 r) (z := .string ⟨#[]⟩) hR
  obtain ⟨q0, q1, q2, _⟩ := val3 hz
  refine bodyPost_ret (v := .agg #[.int .i64 3, .int .i64 r, .string ⟨#[]⟩]) ?_ rfl ?_
  · simp [results, Tryd.f13, go_sem, q0, q1, q2]
  · exact ⟨rfl, ((hbW.setCell (p := ⟨w.heap.size + 1 + 1, 0, none⟩) (by show w.heap.size ≤ w.heap.size + 1 + 1; omega) _).setCell (p := ⟨w.heap.size + 1 + 1, 1, none⟩) (by show w.heap.size ≤ w.heap.size + 1 + 1; omega) _).setCell (p := ⟨w.heap.size + 1 + 1, 2, none⟩) (by show w.heap.size ≤ w.heap.size + 1 + 1; omega) _⟩
set_option maxRecDepth 100000 in
set_option maxHeartbeats 1000000 in
theorem rtwo_lt (w : World) (k n k2 n2 c r : Int) (s t : ByteArray) (hk : k ≠ 4) (hk2 : k2 ≠ 4) (hm1 : mayV (k, n, s)) (hm2 : mayV (k2, n2, t)) (hc : vorder (k, n, s) (k2, n2, t) = c) (hr : bN (decide (c < 0)) = r) : Calls Tryd.prog 13 #[.int .i64 11, .agg #[.int .i64 k, .int .i64 n, .string s], .agg #[.int .i64 k2, .int .i64 n2, .string t]] w fun e w' => e = .returned (.agg #[.int .i64 3, .int .i64 r, .string ⟨#[]⟩]) ∧ Below w.heap.size w w' := by
  have f1 : (k == 4) = false := by simpa using hk
  have f1' : decide (k = 4) = false := by simpa using hk
  have f2 : (k2 == 4) = false := by simpa using hk2
  have f2' : decide (k2 = 4) = false := by simpa using hk2
  have C := Lib.hid (fun W => order_all W _ _ hm1 hm2)
  rw [hc] at C
  have HR := Lib.hid hr
  clear hk hk2 hm1 hm2 hc hr
  go_enter Tryd.func13, Tryd.ntmps13
  go_wp2_with fail
  obtain ⟨W, hW⟩ : ∃ W, W = (((w.alloc (.cells #[.int .i64 k, .int .i64 n, .string s] 24)).alloc (.cells #[.int .i64 k2, .int .i64 n2, .string t] 24)).alloc (.cells #[.int .i64 0, .int .i64 0, .string ⟨#[]⟩] 24)) := ⟨_, rfl⟩
  have hs0 := heap_alloc_new w (.cells #[.int .i64 k, .int .i64 n, .string s] 24)
  have hs1 := heap_alloc_new (w.alloc (.cells #[.int .i64 k, .int .i64 n, .string s] 24)) (.cells #[.int .i64 k2, .int .i64 n2, .string t] 24)
  rw [World.size_alloc] at hs1
  have hs2 := heap_alloc_new ((w.alloc (.cells #[.int .i64 k, .int .i64 n, .string s] 24)).alloc (.cells #[.int .i64 k2, .int .i64 n2, .string t] 24)) (.cells #[.int .i64 0, .int .i64 0, .string ⟨#[]⟩] 24)
  rw [World.size_alloc, World.size_alloc] at hs2
  have hX : W.heap[w.heap.size]? = some (.cells #[.int .i64 k, .int .i64 n, .string s] 24 (0, 0)) := by rw [hW]; exact (Below.heap_alloc _ _ _ (by simp; try omega)).trans ((Below.heap_alloc _ _ _ (by simp; try omega)).trans (hs0))
  have hY : W.heap[w.heap.size + 1]? = some (.cells #[.int .i64 k2, .int .i64 n2, .string t] 24 (0, 0)) := by rw [hW]; exact (Below.heap_alloc _ _ _ (by simp; try omega)).trans (hs1)
  have hR : W.heap[w.heap.size + 1 + 1]? = some (.cells #[.int .i64 0, .int .i64 0, .string ⟨#[]⟩] 24 (0, 0)) := by rw [hW]; exact hs2
  have hsW : W.heap.size = w.heap.size + 3 := by rw [hW]; simp
  have hbW : Below w.heap.size w W := by rw [hW]; exact (((Below.refl _ _).alloc (Nat.le_refl _) _).alloc (by simp; try omega) _).alloc (by simp; try omega) _
  rw [← hW]
  clear hW hs0 hs1 hs2
  refine (C.out _).mono ?_
  rintro e w1 ⟨rfl, hbn⟩
  have hX := (hbn.block _ (Array.getElem?_eq_some_iff.1 hX).1).trans hX
  have hY := (hbn.block _ (Array.getElem?_eq_some_iff.1 hY).1).trans hY
  have hR := (hbn.block _ (Array.getElem?_eq_some_iff.1 hR).1).trans hR
  have hbW := hbW.trans (hbn.mono hbW.size)
  clear hbn
  go_wp2_with fail
  refine (rtruth_any _ _).mono ?_
  rintro e w2 ⟨rfl, hbn⟩
  have hX := (hbn.block _ (Array.getElem?_eq_some_iff.1 hX).1).trans hX
  have hY := (hbn.block _ (Array.getElem?_eq_some_iff.1 hY).1).trans hY
  have hR := (hbn.block _ (Array.getElem?_eq_some_iff.1 hR).1).trans hR
  have hbW := hbW.trans (hbn.mono hbW.size)
  clear hbn
  rw [HR.out]
  obtain ⟨r0, r1, r2, z0, z1, z2⟩ := val3 hR
  go_wp2
  have hz := val_store (x := .int .i64 3) (y := .int .i64 r) (z := .string ⟨#[]⟩) hR
  obtain ⟨q0, q1, q2, _⟩ := val3 hz
  refine bodyPost_ret (v := .agg #[.int .i64 3, .int .i64 r, .string ⟨#[]⟩]) ?_ rfl ?_
  · simp [results, Tryd.f13, go_sem, q0, q1, q2]
  · exact ⟨rfl, ((hbW.setCell (p := ⟨w.heap.size + 1 + 1, 0, none⟩) (by show w.heap.size ≤ w.heap.size + 1 + 1; omega) _).setCell (p := ⟨w.heap.size + 1 + 1, 1, none⟩) (by show w.heap.size ≤ w.heap.size + 1 + 1; omega) _).setCell (p := ⟨w.heap.size + 1 + 1, 2, none⟩) (by show w.heap.size ≤ w.heap.size + 1 + 1; omega) _⟩
set_option maxRecDepth 100000 in
set_option maxHeartbeats 1000000 in
theorem rtwo_le (w : World) (k n k2 n2 c r : Int) (s t : ByteArray) (hk : k ≠ 4) (hk2 : k2 ≠ 4) (hm1 : mayV (k, n, s)) (hm2 : mayV (k2, n2, t)) (hc : vorder (k, n, s) (k2, n2, t) = c) (hr : bN (decide (c ≤ 0)) = r) : Calls Tryd.prog 13 #[.int .i64 12, .agg #[.int .i64 k, .int .i64 n, .string s], .agg #[.int .i64 k2, .int .i64 n2, .string t]] w fun e w' => e = .returned (.agg #[.int .i64 3, .int .i64 r, .string ⟨#[]⟩]) ∧ Below w.heap.size w w' := by
  have f1 : (k == 4) = false := by simpa using hk
  have f1' : decide (k = 4) = false := by simpa using hk
  have f2 : (k2 == 4) = false := by simpa using hk2
  have f2' : decide (k2 = 4) = false := by simpa using hk2
  have C := Lib.hid (fun W => order_all W _ _ hm1 hm2)
  rw [hc] at C
  have HR := Lib.hid hr
  clear hk hk2 hm1 hm2 hc hr
  go_enter Tryd.func13, Tryd.ntmps13
  go_wp2_with fail
  obtain ⟨W, hW⟩ : ∃ W, W = (((w.alloc (.cells #[.int .i64 k, .int .i64 n, .string s] 24)).alloc (.cells #[.int .i64 k2, .int .i64 n2, .string t] 24)).alloc (.cells #[.int .i64 0, .int .i64 0, .string ⟨#[]⟩] 24)) := ⟨_, rfl⟩
  have hs0 := heap_alloc_new w (.cells #[.int .i64 k, .int .i64 n, .string s] 24)
  have hs1 := heap_alloc_new (w.alloc (.cells #[.int .i64 k, .int .i64 n, .string s] 24)) (.cells #[.int .i64 k2, .int .i64 n2, .string t] 24)
  rw [World.size_alloc] at hs1
  have hs2 := heap_alloc_new ((w.alloc (.cells #[.int .i64 k, .int .i64 n, .string s] 24)).alloc (.cells #[.int .i64 k2, .int .i64 n2, .string t] 24)) (.cells #[.int .i64 0, .int .i64 0, .string ⟨#[]⟩] 24)
  rw [World.size_alloc, World.size_alloc] at hs2
  have hX : W.heap[w.heap.size]? = some (.cells #[.int .i64 k, .int .i64 n, .string s] 24 (0, 0)) := by rw [hW]; exact (Below.heap_alloc _ _ _ (by simp; try omega)).trans ((Below.heap_alloc _ _ _ (by simp; try omega)).trans (hs0))
  have hY : W.heap[w.heap.size + 1]? = some (.cells #[.int .i64 k2, .int .i64 n2, .string t] 24 (0, 0)) := by rw [hW]; exact (Below.heap_alloc _ _ _ (by simp; try omega)).trans (hs1)
  have hR : W.heap[w.heap.size + 1 + 1]? = some (.cells #[.int .i64 0, .int .i64 0, .string ⟨#[]⟩] 24 (0, 0)) := by rw [hW]; exact hs2
  have hsW : W.heap.size = w.heap.size + 3 := by rw [hW]; simp
  have hbW : Below w.heap.size w W := by rw [hW]; exact (((Below.refl _ _).alloc (Nat.le_refl _) _).alloc (by simp; try omega) _).alloc (by simp; try omega) _
  rw [← hW]
  clear hW hs0 hs1 hs2
  refine (C.out _).mono ?_
  rintro e w1 ⟨rfl, hbn⟩
  have hX := (hbn.block _ (Array.getElem?_eq_some_iff.1 hX).1).trans hX
  have hY := (hbn.block _ (Array.getElem?_eq_some_iff.1 hY).1).trans hY
  have hR := (hbn.block _ (Array.getElem?_eq_some_iff.1 hR).1).trans hR
  have hbW := hbW.trans (hbn.mono hbW.size)
  clear hbn
  go_wp2_with fail
  refine (rtruth_any _ _).mono ?_
  rintro e w2 ⟨rfl, hbn⟩
  have hX := (hbn.block _ (Array.getElem?_eq_some_iff.1 hX).1).trans hX
  have hY := (hbn.block _ (Array.getElem?_eq_some_iff.1 hY).1).trans hY
  have hR := (hbn.block _ (Array.getElem?_eq_some_iff.1 hR).1).trans hR
  have hbW := hbW.trans (hbn.mono hbW.size)
  clear hbn
  rw [HR.out]
  obtain ⟨r0, r1, r2, z0, z1, z2⟩ := val3 hR
  go_wp2
  have hz := val_store (x := .int .i64 3) (y := .int .i64 r) (z := .string ⟨#[]⟩) hR
  obtain ⟨q0, q1, q2, _⟩ := val3 hz
  refine bodyPost_ret (v := .agg #[.int .i64 3, .int .i64 r, .string ⟨#[]⟩]) ?_ rfl ?_
  · simp [results, Tryd.f13, go_sem, q0, q1, q2]
  · exact ⟨rfl, ((hbW.setCell (p := ⟨w.heap.size + 1 + 1, 0, none⟩) (by show w.heap.size ≤ w.heap.size + 1 + 1; omega) _).setCell (p := ⟨w.heap.size + 1 + 1, 1, none⟩) (by show w.heap.size ≤ w.heap.size + 1 + 1; omega) _).setCell (p := ⟨w.heap.size + 1 + 1, 2, none⟩) (by show w.heap.size ≤ w.heap.size + 1 + 1; omega) _⟩
set_option maxRecDepth 100000 in
set_option maxHeartbeats 1000000 in
theorem rtwo_gt (w : World) (k n k2 n2 c r : Int) (s t : ByteArray) (hk : k ≠ 4) (hk2 : k2 ≠ 4) (hm1 : mayV (k, n, s)) (hm2 : mayV (k2, n2, t)) (hc : vorder (k, n, s) (k2, n2, t) = c) (hr : bN (decide (0 < c)) = r) : Calls Tryd.prog 13 #[.int .i64 13, .agg #[.int .i64 k, .int .i64 n, .string s], .agg #[.int .i64 k2, .int .i64 n2, .string t]] w fun e w' => e = .returned (.agg #[.int .i64 3, .int .i64 r, .string ⟨#[]⟩]) ∧ Below w.heap.size w w' := by
  have f1 : (k == 4) = false := by simpa using hk
  have f1' : decide (k = 4) = false := by simpa using hk
  have f2 : (k2 == 4) = false := by simpa using hk2
  have f2' : decide (k2 = 4) = false := by simpa using hk2
  have C := Lib.hid (fun W => order_all W _ _ hm1 hm2)
  rw [hc] at C
  have HR := Lib.hid hr
  clear hk hk2 hm1 hm2 hc hr
  go_enter Tryd.func13, Tryd.ntmps13
  go_wp2_with fail
  obtain ⟨W, hW⟩ : ∃ W, W = (((w.alloc (.cells #[.int .i64 k, .int .i64 n, .string s] 24)).alloc (.cells #[.int .i64 k2, .int .i64 n2, .string t] 24)).alloc (.cells #[.int .i64 0, .int .i64 0, .string ⟨#[]⟩] 24)) := ⟨_, rfl⟩
  have hs0 := heap_alloc_new w (.cells #[.int .i64 k, .int .i64 n, .string s] 24)
  have hs1 := heap_alloc_new (w.alloc (.cells #[.int .i64 k, .int .i64 n, .string s] 24)) (.cells #[.int .i64 k2, .int .i64 n2, .string t] 24)
  rw [World.size_alloc] at hs1
  have hs2 := heap_alloc_new ((w.alloc (.cells #[.int .i64 k, .int .i64 n, .string s] 24)).alloc (.cells #[.int .i64 k2, .int .i64 n2, .string t] 24)) (.cells #[.int .i64 0, .int .i64 0, .string ⟨#[]⟩] 24)
  rw [World.size_alloc, World.size_alloc] at hs2
  have hX : W.heap[w.heap.size]? = some (.cells #[.int .i64 k, .int .i64 n, .string s] 24 (0, 0)) := by rw [hW]; exact (Below.heap_alloc _ _ _ (by simp; try omega)).trans ((Below.heap_alloc _ _ _ (by simp; try omega)).trans (hs0))
  have hY : W.heap[w.heap.size + 1]? = some (.cells #[.int .i64 k2, .int .i64 n2, .string t] 24 (0, 0)) := by rw [hW]; exact (Below.heap_alloc _ _ _ (by simp; try omega)).trans (hs1)
  have hR : W.heap[w.heap.size + 1 + 1]? = some (.cells #[.int .i64 0, .int .i64 0, .string ⟨#[]⟩] 24 (0, 0)) := by rw [hW]; exact hs2
  have hsW : W.heap.size = w.heap.size + 3 := by rw [hW]; simp
  have hbW : Below w.heap.size w W := by rw [hW]; exact (((Below.refl _ _).alloc (Nat.le_refl _) _).alloc (by simp; try omega) _).alloc (by simp; try omega) _
  rw [← hW]
  clear hW hs0 hs1 hs2
  refine (C.out _).mono ?_
  rintro e w1 ⟨rfl, hbn⟩
  have hX := (hbn.block _ (Array.getElem?_eq_some_iff.1 hX).1).trans hX
  have hY := (hbn.block _ (Array.getElem?_eq_some_iff.1 hY).1).trans hY
  have hR := (hbn.block _ (Array.getElem?_eq_some_iff.1 hR).1).trans hR
  have hbW := hbW.trans (hbn.mono hbW.size)
  clear hbn
  go_wp2_with fail
  refine (rtruth_any _ _).mono ?_
  rintro e w2 ⟨rfl, hbn⟩
  have hX := (hbn.block _ (Array.getElem?_eq_some_iff.1 hX).1).trans hX
  have hY := (hbn.block _ (Array.getElem?_eq_some_iff.1 hY).1).trans hY
  have hR := (hbn.block _ (Array.getElem?_eq_some_iff.1 hR).1).trans hR
  have hbW := hbW.trans (hbn.mono hbW.size)
  clear hbn
  rw [HR.out]
  obtain ⟨r0, r1, r2, z0, z1, z2⟩ := val3 hR
  go_wp2
  have hz := val_store (x := .int .i64 3) (y := .int .i64 r) (z := .string ⟨#[]⟩) hR
  obtain ⟨q0, q1, q2, _⟩ := val3 hz
  refine bodyPost_ret (v := .agg #[.int .i64 3, .int .i64 r, .string ⟨#[]⟩]) ?_ rfl ?_
  · simp [results, Tryd.f13, go_sem, q0, q1, q2]
  · exact ⟨rfl, ((hbW.setCell (p := ⟨w.heap.size + 1 + 1, 0, none⟩) (by show w.heap.size ≤ w.heap.size + 1 + 1; omega) _).setCell (p := ⟨w.heap.size + 1 + 1, 1, none⟩) (by show w.heap.size ≤ w.heap.size + 1 + 1; omega) _).setCell (p := ⟨w.heap.size + 1 + 1, 2, none⟩) (by show w.heap.size ≤ w.heap.size + 1 + 1; omega) _⟩
set_option maxRecDepth 100000 in
set_option maxHeartbeats 1000000 in
theorem rtwo_ge (w : World) (k n k2 n2 c r : Int) (s t : ByteArray) (hk : k ≠ 4) (hk2 : k2 ≠ 4) (hm1 : mayV (k, n, s)) (hm2 : mayV (k2, n2, t)) (hc : vorder (k, n, s) (k2, n2, t) = c) (hr : bN (decide (0 ≤ c)) = r) : Calls Tryd.prog 13 #[.int .i64 14, .agg #[.int .i64 k, .int .i64 n, .string s], .agg #[.int .i64 k2, .int .i64 n2, .string t]] w fun e w' => e = .returned (.agg #[.int .i64 3, .int .i64 r, .string ⟨#[]⟩]) ∧ Below w.heap.size w w' := by
  have f1 : (k == 4) = false := by simpa using hk
  have f1' : decide (k = 4) = false := by simpa using hk
  have f2 : (k2 == 4) = false := by simpa using hk2
  have f2' : decide (k2 = 4) = false := by simpa using hk2
  have C := Lib.hid (fun W => order_all W _ _ hm1 hm2)
  rw [hc] at C
  have HR := Lib.hid hr
  clear hk hk2 hm1 hm2 hc hr
  go_enter Tryd.func13, Tryd.ntmps13
  go_wp2_with fail
  obtain ⟨W, hW⟩ : ∃ W, W = (((w.alloc (.cells #[.int .i64 k, .int .i64 n, .string s] 24)).alloc (.cells #[.int .i64 k2, .int .i64 n2, .string t] 24)).alloc (.cells #[.int .i64 0, .int .i64 0, .string ⟨#[]⟩] 24)) := ⟨_, rfl⟩
  have hs0 := heap_alloc_new w (.cells #[.int .i64 k, .int .i64 n, .string s] 24)
  have hs1 := heap_alloc_new (w.alloc (.cells #[.int .i64 k, .int .i64 n, .string s] 24)) (.cells #[.int .i64 k2, .int .i64 n2, .string t] 24)
  rw [World.size_alloc] at hs1
  have hs2 := heap_alloc_new ((w.alloc (.cells #[.int .i64 k, .int .i64 n, .string s] 24)).alloc (.cells #[.int .i64 k2, .int .i64 n2, .string t] 24)) (.cells #[.int .i64 0, .int .i64 0, .string ⟨#[]⟩] 24)
  rw [World.size_alloc, World.size_alloc] at hs2
  have hX : W.heap[w.heap.size]? = some (.cells #[.int .i64 k, .int .i64 n, .string s] 24 (0, 0)) := by rw [hW]; exact (Below.heap_alloc _ _ _ (by simp; try omega)).trans ((Below.heap_alloc _ _ _ (by simp; try omega)).trans (hs0))
  have hY : W.heap[w.heap.size + 1]? = some (.cells #[.int .i64 k2, .int .i64 n2, .string t] 24 (0, 0)) := by rw [hW]; exact (Below.heap_alloc _ _ _ (by simp; try omega)).trans (hs1)
  have hR : W.heap[w.heap.size + 1 + 1]? = some (.cells #[.int .i64 0, .int .i64 0, .string ⟨#[]⟩] 24 (0, 0)) := by rw [hW]; exact hs2
  have hsW : W.heap.size = w.heap.size + 3 := by rw [hW]; simp
  have hbW : Below w.heap.size w W := by rw [hW]; exact (((Below.refl _ _).alloc (Nat.le_refl _) _).alloc (by simp; try omega) _).alloc (by simp; try omega) _
  rw [← hW]
  clear hW hs0 hs1 hs2
  refine (C.out _).mono ?_
  rintro e w1 ⟨rfl, hbn⟩
  have hX := (hbn.block _ (Array.getElem?_eq_some_iff.1 hX).1).trans hX
  have hY := (hbn.block _ (Array.getElem?_eq_some_iff.1 hY).1).trans hY
  have hR := (hbn.block _ (Array.getElem?_eq_some_iff.1 hR).1).trans hR
  have hbW := hbW.trans (hbn.mono hbW.size)
  clear hbn
  go_wp2_with fail
  refine (rtruth_any _ _).mono ?_
  rintro e w2 ⟨rfl, hbn⟩
  have hX := (hbn.block _ (Array.getElem?_eq_some_iff.1 hX).1).trans hX
  have hY := (hbn.block _ (Array.getElem?_eq_some_iff.1 hY).1).trans hY
  have hR := (hbn.block _ (Array.getElem?_eq_some_iff.1 hR).1).trans hR
  have hbW := hbW.trans (hbn.mono hbW.size)
  clear hbn
  rw [HR.out]
  obtain ⟨r0, r1, r2, z0, z1, z2⟩ := val3 hR
  go_wp2
  have hz := val_store (x := .int .i64 3) (y := .int .i64 r) (z := .string ⟨#[]⟩) hR
  obtain ⟨q0, q1, q2, _⟩ := val3 hz
  refine bodyPost_ret (v := .agg #[.int .i64 3, .int .i64 r, .string ⟨#[]⟩]) ?_ rfl ?_
  · simp [results, Tryd.f13, go_sem, q0, q1, q2]
  · exact ⟨rfl, ((hbW.setCell (p := ⟨w.heap.size + 1 + 1, 0, none⟩) (by show w.heap.size ≤ w.heap.size + 1 + 1; omega) _).setCell (p := ⟨w.heap.size + 1 + 1, 1, none⟩) (by show w.heap.size ≤ w.heap.size + 1 + 1; omega) _).setCell (p := ⟨w.heap.size + 1 + 1, 2, none⟩) (by show w.heap.size ≤ w.heap.size + 1 + 1; omega) _⟩
set_option maxRecDepth 100000 in
set_option maxHeartbeats 1000000 in
theorem rtwo_low (w : World) (kind k n k2 n2 : Int) (s t : ByteArray) (hk : k ≠ 4) (hk2 : k2 ≠ 4) (hm1 : mayV (k, n, s)) (hm2 : mayV (k2, n2, t)) (hkind : kind < 9) : Calls Tryd.prog 13 #[.int .i64 kind, .agg #[.int .i64 k, .int .i64 n, .string s], .agg #[.int .i64 k2, .int .i64 n2, .string t]] w fun e w' => e = .returned (.agg #[.int .i64 4, .int .i64 1, .string ⟨#[]⟩]) ∧ Below w.heap.size w w' := by
  have f1 : (k == 4) = false := by simpa using hk
  have f1' : decide (k = 4) = false := by simpa using hk
  have f2 : (k2 == 4) = false := by simpa using hk2
  have f2' : decide (k2 = 4) = false := by simpa using hk2
  have C := Lib.hid (fun W => order_all W _ _ hm1 hm2)
  obtain ⟨c, hc⟩ : ∃ c, vorder (k, n, s) (k2, n2, t) = c := ⟨_, rfl⟩
  rw [hc] at C
  have e9 : (kind == 9) = false := by rw [beq_eq_false_iff_ne]; omega
  have e9' : decide (kind = 9) = false := decide_eq_false (by omega)
  have e10 : (kind == 10) = false := by rw [beq_eq_false_iff_ne]; omega
  have e10' : decide (kind = 10) = false := decide_eq_false (by omega)
  have e11 : (kind == 11) = false := by rw [beq_eq_false_iff_ne]; omega
  have e11' : decide (kind = 11) = false := decide_eq_false (by omega)
  have e12 : (kind == 12) = false := by rw [beq_eq_false_iff_ne]; omega
  have e12' : decide (kind = 12) = false := decide_eq_false (by omega)
  have e13 : (kind == 13) = false := by rw [beq_eq_false_iff_ne]; omega
  have e13' : decide (kind = 13) = false := decide_eq_false (by omega)
  have e14 : (kind == 14) = false := by rw [beq_eq_false_iff_ne]; omega
  have e14' : decide (kind = 14) = false := decide_eq_false (by omega)
  have e15 : (kind == 15) = false := by rw [beq_eq_false_iff_ne]; omega
  have e15' : decide (kind = 15) = false := decide_eq_false (by omega)
  have e16 : decide (16 ≤ kind) = false := decide_eq_false (by omega)
  clear hk hk2 hm1 hm2 hc hkind
  go_enter Tryd.func13, Tryd.ntmps13
  go_wp2_with fail
  obtain ⟨W, hW⟩ : ∃ W, W = (((w.alloc (.cells #[.int .i64 k, .int .i64 n, .string s] 24)).alloc (.cells #[.int .i64 k2, .int .i64 n2, .string t] 24)).alloc (.cells #[.int .i64 0, .int .i64 0, .string ⟨#[]⟩] 24)) := ⟨_, rfl⟩
  have hs0 := heap_alloc_new w (.cells #[.int .i64 k, .int .i64 n, .string s] 24)
  have hs1 := heap_alloc_new (w.alloc (.cells #[.int .i64 k, .int .i64 n, .string s] 24)) (.cells #[.int .i64 k2, .int .i64 n2, .string t] 24)
  rw [World.size_alloc] at hs1
  have hs2 := heap_alloc_new ((w.alloc (.cells #[.int .i64 k, .int .i64 n, .string s] 24)).alloc (.cells #[.int .i64 k2, .int .i64 n2, .string t] 24)) (.cells #[.int .i64 0, .int .i64 0, .string ⟨#[]⟩] 24)
  rw [World.size_alloc, World.size_alloc] at hs2
  have hX : W.heap[w.heap.size]? = some (.cells #[.int .i64 k, .int .i64 n, .string s] 24 (0, 0)) := by rw [hW]; exact (Below.heap_alloc _ _ _ (by simp; try omega)).trans ((Below.heap_alloc _ _ _ (by simp; try omega)).trans (hs0))
  have hY : W.heap[w.heap.size + 1]? = some (.cells #[.int .i64 k2, .int .i64 n2, .string t] 24 (0, 0)) := by rw [hW]; exact (Below.heap_alloc _ _ _ (by simp; try omega)).trans (hs1)
  have hR : W.heap[w.heap.size + 1 + 1]? = some (.cells #[.int .i64 0, .int .i64 0, .string ⟨#[]⟩] 24 (0, 0)) := by rw [hW]; exact hs2
  have hsW : W.heap.size = w.heap.size + 3 := by rw [hW]; simp
  have hbW : Below w.heap.size w W := by rw [hW]; exact (((Below.refl _ _).alloc (Nat.le_refl _) _).alloc (by simp; try omega) _).alloc (by simp; try omega) _
  rw [← hW]
  clear hW hs0 hs1 hs2
  refine (C.out _).mono ?_
  rintro e w1 ⟨rfl, hbn⟩
  have hX := (hbn.block _ (Array.getElem?_eq_some_iff.1 hX).1).trans hX
  have hY := (hbn.block _ (Array.getElem?_eq_some_iff.1 hY).1).trans hY
  have hR := (hbn.block _ (Array.getElem?_eq_some_iff.1 hR).1).trans hR
  have hbW := hbW.trans (hbn.mono hbW.size)
  clear hbn
  go_wp2_with fail
  refine (no_any _ 1).mono ?_
  rintro e w2 ⟨rfl, hbn⟩
  have hX := (hbn.block _ (Array.getElem?_eq_some_iff.1 hX).1).trans hX
  have hY := (hbn.block _ (Array.getElem?_eq_some_iff.1 hY).1).trans hY
  have hR := (hbn.block _ (Array.getElem?_eq_some_iff.1 hR).1).trans hR
  have hbW := hbW.trans (hbn.mono hbW.size)
  clear hbn
  obtain ⟨r0, r1, r2, z0, z1, z2⟩ := val3 hR
  go_wp2
  have hz := val_store (x := .int .i64 4) (y := .int .i64 1) (z := .string ⟨#[]⟩) hR
  obtain ⟨q0, q1, q2, _⟩ := val3 hz
  refine bodyPost_ret (v := .agg #[.int .i64 4, .int .i64 1, .string ⟨#[]⟩]) ?_ rfl ?_
  · simp [results, Tryd.f13, go_sem, q0, q1, q2]
  · exact ⟨rfl, ((hbW.setCell (p := ⟨w.heap.size + 1 + 1, 0, none⟩) (by show w.heap.size ≤ w.heap.size + 1 + 1; omega) _).setCell (p := ⟨w.heap.size + 1 + 1, 1, none⟩) (by show w.heap.size ≤ w.heap.size + 1 + 1; omega) _).setCell (p := ⟨w.heap.size + 1 + 1, 2, none⟩) (by show w.heap.size ≤ w.heap.size + 1 + 1; omega) _⟩
set_option maxRecDepth 100000 in
set_option maxHeartbeats 1000000 in
theorem rtwo_high (w : World) (kind k n k2 n2 : Int) (s t : ByteArray) (hk : k ≠ 4) (hk2 : k2 ≠ 4) (hm1 : mayV (k, n, s)) (hm2 : mayV (k2, n2, t)) (hkind : 19 < kind) : Calls Tryd.prog 13 #[.int .i64 kind, .agg #[.int .i64 k, .int .i64 n, .string s], .agg #[.int .i64 k2, .int .i64 n2, .string t]] w fun e w' => e = .returned (.agg #[.int .i64 4, .int .i64 1, .string ⟨#[]⟩]) ∧ Below w.heap.size w w' := by
  have f1 : (k == 4) = false := by simpa using hk
  have f1' : decide (k = 4) = false := by simpa using hk
  have f2 : (k2 == 4) = false := by simpa using hk2
  have f2' : decide (k2 = 4) = false := by simpa using hk2
  have C := Lib.hid (fun W => order_all W _ _ hm1 hm2)
  obtain ⟨c, hc⟩ : ∃ c, vorder (k, n, s) (k2, n2, t) = c := ⟨_, rfl⟩
  rw [hc] at C
  have e9 : (kind == 9) = false := by rw [beq_eq_false_iff_ne]; omega
  have e9' : decide (kind = 9) = false := decide_eq_false (by omega)
  have e10 : (kind == 10) = false := by rw [beq_eq_false_iff_ne]; omega
  have e10' : decide (kind = 10) = false := decide_eq_false (by omega)
  have e11 : (kind == 11) = false := by rw [beq_eq_false_iff_ne]; omega
  have e11' : decide (kind = 11) = false := decide_eq_false (by omega)
  have e12 : (kind == 12) = false := by rw [beq_eq_false_iff_ne]; omega
  have e12' : decide (kind = 12) = false := decide_eq_false (by omega)
  have e13 : (kind == 13) = false := by rw [beq_eq_false_iff_ne]; omega
  have e13' : decide (kind = 13) = false := decide_eq_false (by omega)
  have e14 : (kind == 14) = false := by rw [beq_eq_false_iff_ne]; omega
  have e14' : decide (kind = 14) = false := decide_eq_false (by omega)
  have e15 : (kind == 15) = false := by rw [beq_eq_false_iff_ne]; omega
  have e15' : decide (kind = 15) = false := decide_eq_false (by omega)
  have e16 : decide (16 ≤ kind) = true := decide_eq_true (by omega)
  have e19 : decide (kind ≤ 19) = false := decide_eq_false (by omega)
  clear hk hk2 hm1 hm2 hc hkind
  go_enter Tryd.func13, Tryd.ntmps13
  go_wp2_with fail
  obtain ⟨W, hW⟩ : ∃ W, W = (((w.alloc (.cells #[.int .i64 k, .int .i64 n, .string s] 24)).alloc (.cells #[.int .i64 k2, .int .i64 n2, .string t] 24)).alloc (.cells #[.int .i64 0, .int .i64 0, .string ⟨#[]⟩] 24)) := ⟨_, rfl⟩
  have hs0 := heap_alloc_new w (.cells #[.int .i64 k, .int .i64 n, .string s] 24)
  have hs1 := heap_alloc_new (w.alloc (.cells #[.int .i64 k, .int .i64 n, .string s] 24)) (.cells #[.int .i64 k2, .int .i64 n2, .string t] 24)
  rw [World.size_alloc] at hs1
  have hs2 := heap_alloc_new ((w.alloc (.cells #[.int .i64 k, .int .i64 n, .string s] 24)).alloc (.cells #[.int .i64 k2, .int .i64 n2, .string t] 24)) (.cells #[.int .i64 0, .int .i64 0, .string ⟨#[]⟩] 24)
  rw [World.size_alloc, World.size_alloc] at hs2
  have hX : W.heap[w.heap.size]? = some (.cells #[.int .i64 k, .int .i64 n, .string s] 24 (0, 0)) := by rw [hW]; exact (Below.heap_alloc _ _ _ (by simp; try omega)).trans ((Below.heap_alloc _ _ _ (by simp; try omega)).trans (hs0))
  have hY : W.heap[w.heap.size + 1]? = some (.cells #[.int .i64 k2, .int .i64 n2, .string t] 24 (0, 0)) := by rw [hW]; exact (Below.heap_alloc _ _ _ (by simp; try omega)).trans (hs1)
  have hR : W.heap[w.heap.size + 1 + 1]? = some (.cells #[.int .i64 0, .int .i64 0, .string ⟨#[]⟩] 24 (0, 0)) := by rw [hW]; exact hs2
  have hsW : W.heap.size = w.heap.size + 3 := by rw [hW]; simp
  have hbW : Below w.heap.size w W := by rw [hW]; exact (((Below.refl _ _).alloc (Nat.le_refl _) _).alloc (by simp; try omega) _).alloc (by simp; try omega) _
  rw [← hW]
  clear hW hs0 hs1 hs2
  refine (C.out _).mono ?_
  rintro e w1 ⟨rfl, hbn⟩
  have hX := (hbn.block _ (Array.getElem?_eq_some_iff.1 hX).1).trans hX
  have hY := (hbn.block _ (Array.getElem?_eq_some_iff.1 hY).1).trans hY
  have hR := (hbn.block _ (Array.getElem?_eq_some_iff.1 hR).1).trans hR
  have hbW := hbW.trans (hbn.mono hbW.size)
  clear hbn
  go_wp2_with fail
  refine (no_any _ 1).mono ?_
  rintro e w2 ⟨rfl, hbn⟩
  have hX := (hbn.block _ (Array.getElem?_eq_some_iff.1 hX).1).trans hX
  have hY := (hbn.block _ (Array.getElem?_eq_some_iff.1 hY).1).trans hY
  have hR := (hbn.block _ (Array.getElem?_eq_some_iff.1 hR).1).trans hR
  have hbW := hbW.trans (hbn.mono hbW.size)
  clear hbn
  obtain ⟨r0, r1, r2, z0, z1, z2⟩ := val3 hR
  go_wp2
  have hz := val_store (x := .int .i64 4) (y := .int .i64 1) (z := .string ⟨#[]⟩) hR
  obtain ⟨q0, q1, q2, _⟩ := val3 hz
  refine bodyPost_ret (v := .agg #[.int .i64 4, .int .i64 1, .string ⟨#[]⟩]) ?_ rfl ?_
  · simp [results, Tryd.f13, go_sem, q0, q1, q2]
  · exact ⟨rfl, ((hbW.setCell (p := ⟨w.heap.size + 1 + 1, 0, none⟩) (by show w.heap.size ≤ w.heap.size + 1 + 1; omega) _).setCell (p := ⟨w.heap.size + 1 + 1, 1, none⟩) (by show w.heap.size ≤ w.heap.size + 1 + 1; omega) _).setCell (p := ⟨w.heap.size + 1 + 1, 2, none⟩) (by show w.heap.size ≤ w.heap.size + 1 + 1; omega) _⟩
set_option maxRecDepth 100000 in
set_option maxHeartbeats 1000000 in
theorem rtwo_num (w : World) (kind k n k2 n2 rk rn : Int) (s t : ByteArray) (rs : ByteArray) (hk : k ≠ 4) (hk2 : k2 ≠ 4) (h1 : 16 ≤ kind) (h2 : kind ≤ 19) (i1 : isNum (k, n, s)) (i2 : isNum (k2, n2, t)) (hn : InR n) (hn2 : InR n2) (hr : vnum kind n n2 = (rk, rn, rs)) : Calls Tryd.prog 13 #[.int .i64 kind, .agg #[.int .i64 k, .int .i64 n, .string s], .agg #[.int .i64 k2, .int .i64 n2, .string t]] w fun e w' => e = .returned (vv (rk, rn, rs)) ∧ Below w.heap.size w w' := by
  have f1 : (k == 4) = false := by simpa using hk
  have f1' : decide (k = 4) = false := by simpa using hk
  have f2 : (k2 == 4) = false := by simpa using hk2
  have f2' : decide (k2 = 4) = false := by simpa using hk2
  have C1 := Lib.hid (fun W => rInt_num W k n s i1)
  have C2 := Lib.hid (fun W => rInt_num W k2 n2 t i2)
  have C3 := Lib.hid (fun W => reckon_any W kind n n2 hn hn2 ⟨h1, h2⟩)
  rw [hr] at C3
  have e15 : (kind == 15) = false := by rw [beq_eq_false_iff_ne]; omega
  have e15' : decide (kind = 15) = false := decide_eq_false (by omega)
  have e16 : decide (16 ≤ kind) = true := decide_eq_true h1
  have e19 : decide (kind ≤ 19) = true := decide_eq_true h2
  clear hk hk2 i1 i2 hn hn2 hr h1 h2
  go_enter Tryd.func13, Tryd.ntmps13
  go_wp2_with fail
  obtain ⟨W, hW⟩ : ∃ W, W = (((w.alloc (.cells #[.int .i64 k, .int .i64 n, .string s] 24)).alloc (.cells #[.int .i64 k2, .int .i64 n2, .string t] 24)).alloc (.cells #[.int .i64 0, .int .i64 0, .string ⟨#[]⟩] 24)) := ⟨_, rfl⟩
  have hs0 := heap_alloc_new w (.cells #[.int .i64 k, .int .i64 n, .string s] 24)
  have hs1 := heap_alloc_new (w.alloc (.cells #[.int .i64 k, .int .i64 n, .string s] 24)) (.cells #[.int .i64 k2, .int .i64 n2, .string t] 24)
  rw [World.size_alloc] at hs1
  have hs2 := heap_alloc_new ((w.alloc (.cells #[.int .i64 k, .int .i64 n, .string s] 24)).alloc (.cells #[.int .i64 k2, .int .i64 n2, .string t] 24)) (.cells #[.int .i64 0, .int .i64 0, .string ⟨#[]⟩] 24)
  rw [World.size_alloc, World.size_alloc] at hs2
  have hX : W.heap[w.heap.size]? = some (.cells #[.int .i64 k, .int .i64 n, .string s] 24 (0, 0)) := by rw [hW]; exact (Below.heap_alloc _ _ _ (by simp; try omega)).trans ((Below.heap_alloc _ _ _ (by simp; try omega)).trans (hs0))
  have hY : W.heap[w.heap.size + 1]? = some (.cells #[.int .i64 k2, .int .i64 n2, .string t] 24 (0, 0)) := by rw [hW]; exact (Below.heap_alloc _ _ _ (by simp; try omega)).trans (hs1)
  have hR : W.heap[w.heap.size + 1 + 1]? = some (.cells #[.int .i64 0, .int .i64 0, .string ⟨#[]⟩] 24 (0, 0)) := by rw [hW]; exact hs2
  have hsW : W.heap.size = w.heap.size + 3 := by rw [hW]; simp
  have hbW : Below w.heap.size w W := by rw [hW]; exact (((Below.refl _ _).alloc (Nat.le_refl _) _).alloc (by simp; try omega) _).alloc (by simp; try omega) _
  rw [← hW]
  clear hW hs0 hs1 hs2
  refine (C1.out _).mono ?_
  rintro e w1 ⟨rfl, hbn⟩
  have hX := (hbn.block _ (Array.getElem?_eq_some_iff.1 hX).1).trans hX
  have hY := (hbn.block _ (Array.getElem?_eq_some_iff.1 hY).1).trans hY
  have hR := (hbn.block _ (Array.getElem?_eq_some_iff.1 hR).1).trans hR
  have hbW := hbW.trans (hbn.mono hbW.size)
  clear hbn
  obtain ⟨a0, a1, a2, _⟩ := val3 hX
  obtain ⟨b0, b1, b2, _⟩ := val3 hY
  go_wp2_with fail
  clear a0 a1 a2 b0 b1 b2
  refine (C2.out _).mono ?_
  rintro e w2 ⟨rfl, hbn⟩
  have hX := (hbn.block _ (Array.getElem?_eq_some_iff.1 hX).1).trans hX
  have hY := (hbn.block _ (Array.getElem?_eq_some_iff.1 hY).1).trans hY
  have hR := (hbn.block _ (Array.getElem?_eq_some_iff.1 hR).1).trans hR
  have hbW := hbW.trans (hbn.mono hbW.size)
  clear hbn
  obtain ⟨a0, a1, a2, _⟩ := val3 hX
  obtain ⟨b0, b1, b2, _⟩ := val3 hY
  go_wp2_with fail
  clear a0 a1 a2 b0 b1 b2
  refine (C3.out _).mono ?_
  rintro e w3 ⟨rfl, hbn⟩
  have hX := (hbn.block _ (Array.getElem?_eq_some_iff.1 hX).1).trans hX
  have hY := (hbn.block _ (Array.getElem?_eq_some_iff.1 hY).1).trans hY
  have hR := (hbn.block _ (Array.getElem?_eq_some_iff.1 hR).1).trans hR
  have hbW := hbW.trans (hbn.mono hbW.size)
  clear hbn
  obtain ⟨r0, r1, r2, z0, z1, z2⟩ := val3 hR
  go_wp2
  have hz := val_store (x := .int .i64 rk) (y := .int .i64 rn) (z := .string rs) hR
  obtain ⟨q0, q1, q2, _⟩ := val3 hz
  refine bodyPost_ret (v := .agg #[.int .i64 rk, .int .i64 rn, .string rs]) ?_ rfl ?_
  · simp [results, Tryd.f13, go_sem, q0, q1, q2]
  · exact ⟨rfl, ((hbW.setCell (p := ⟨w.heap.size + 1 + 1, 0, none⟩) (by show w.heap.size ≤ w.heap.size + 1 + 1; omega) _).setCell (p := ⟨w.heap.size + 1 + 1, 1, none⟩) (by show w.heap.size ≤ w.heap.size + 1 + 1; omega) _).setCell (p := ⟨w.heap.size + 1 + 1, 2, none⟩) (by show w.heap.size ≤ w.heap.size + 1 + 1; omega) _⟩
set_option maxRecDepth 100000 in
set_option maxHeartbeats 1000000 in
theorem rtwo_bad1 (w : World) (kind k n k2 n2 : Int) (s t : ByteArray) (hk : k ≠ 4) (hk2 : k2 ≠ 4) (h1 : 16 ≤ kind) (h2 : kind ≤ 19) (i1 : decide (isNum (k, n, s)) = false) (i2 : decide (isNum (k2, n2, t)) = true) : Calls Tryd.prog 13 #[.int .i64 kind, .agg #[.int .i64 k, .int .i64 n, .string s], .agg #[.int .i64 k2, .int .i64 n2, .string t]] w fun e w' => e = .returned (.agg #[.int .i64 4, .int .i64 1, .string ⟨#[]⟩]) ∧ Below w.heap.size w w' := by
  have f1 : (k == 4) = false := by simpa using hk
  have f1' : decide (k = 4) = false := by simpa using hk
  have f2 : (k2 == 4) = false := by simpa using hk2
  have f2' : decide (k2 = 4) = false := by simpa using hk2
  have C1 := Lib.hid (fun W => rInt_any W k n s)
  have C2 := Lib.hid (fun W => rInt_any W k2 n2 t)
  rw [i1] at C1
  rw [i2] at C2
  obtain ⟨a, ha⟩ : ∃ a, (if isNum (k, n, s) then n else 0) = a := ⟨_, rfl⟩
  obtain ⟨b, hb⟩ : ∃ b, (if isNum (k2, n2, t) then n2 else 0) = b := ⟨_, rfl⟩
  rw [ha] at C1
  rw [hb] at C2
  have e15 : (kind == 15) = false := by rw [beq_eq_false_iff_ne]; omega
  have e15' : decide (kind = 15) = false := decide_eq_false (by omega)
  have e16 : decide (16 ≤ kind) = true := decide_eq_true h1
  have e19 : decide (kind ≤ 19) = true := decide_eq_true h2
  clear hk hk2 i1 i2 h1 h2 ha hb
  go_enter Tryd.func13, Tryd.ntmps13
  go_wp2_with fail
  obtain ⟨W, hW⟩ : ∃ W, W = (((w.alloc (.cells #[.int .i64 k, .int .i64 n, .string s] 24)).alloc (.cells #[.int .i64 k2, .int .i64 n2, .string t] 24)).alloc (.cells #[.int .i64 0, .int .i64 0, .string ⟨#[]⟩] 24)) := ⟨_, rfl⟩
  have hs0 := heap_alloc_new w (.cells #[.int .i64 k, .int .i64 n, .string s] 24)
  have hs1 := heap_alloc_new (w.alloc (.cells #[.int .i64 k, .int .i64 n, .string s] 24)) (.cells #[.int .i64 k2, .int .i64 n2, .string t] 24)
  rw [World.size_alloc] at hs1
  have hs2 := heap_alloc_new ((w.alloc (.cells #[.int .i64 k, .int .i64 n, .string s] 24)).alloc (.cells #[.int .i64 k2, .int .i64 n2, .string t] 24)) (.cells #[.int .i64 0, .int .i64 0, .string ⟨#[]⟩] 24)
  rw [World.size_alloc, World.size_alloc] at hs2
  have hX : W.heap[w.heap.size]? = some (.cells #[.int .i64 k, .int .i64 n, .string s] 24 (0, 0)) := by rw [hW]; exact (Below.heap_alloc _ _ _ (by simp; try omega)).trans ((Below.heap_alloc _ _ _ (by simp; try omega)).trans (hs0))
  have hY : W.heap[w.heap.size + 1]? = some (.cells #[.int .i64 k2, .int .i64 n2, .string t] 24 (0, 0)) := by rw [hW]; exact (Below.heap_alloc _ _ _ (by simp; try omega)).trans (hs1)
  have hR : W.heap[w.heap.size + 1 + 1]? = some (.cells #[.int .i64 0, .int .i64 0, .string ⟨#[]⟩] 24 (0, 0)) := by rw [hW]; exact hs2
  have hsW : W.heap.size = w.heap.size + 3 := by rw [hW]; simp
  have hbW : Below w.heap.size w W := by rw [hW]; exact (((Below.refl _ _).alloc (Nat.le_refl _) _).alloc (by simp; try omega) _).alloc (by simp; try omega) _
  rw [← hW]
  clear hW hs0 hs1 hs2
  refine (C1.out _).mono ?_
  rintro e w1 ⟨rfl, hbn⟩
  have hX := (hbn.block _ (Array.getElem?_eq_some_iff.1 hX).1).trans hX
  have hY := (hbn.block _ (Array.getElem?_eq_some_iff.1 hY).1).trans hY
  have hR := (hbn.block _ (Array.getElem?_eq_some_iff.1 hR).1).trans hR
  have hbW := hbW.trans (hbn.mono hbW.size)
  clear hbn
  obtain ⟨a0, a1, a2, _⟩ := val3 hX
  obtain ⟨b0, b1, b2, _⟩ := val3 hY
  go_wp2_with fail
  clear a0 a1 a2 b0 b1 b2
  refine (C2.out _).mono ?_
  rintro e w2 ⟨rfl, hbn⟩
  have hX := (hbn.block _ (Array.getElem?_eq_some_iff.1 hX).1).trans hX
  have hY := (hbn.block _ (Array.getElem?_eq_some_iff.1 hY).1).trans hY
  have hR := (hbn.block _ (Array.getElem?_eq_some_iff.1 hR).1).trans hR
  have hbW := hbW.trans (hbn.mono hbW.size)
  clear hbn
  obtain ⟨a0, a1, a2, _⟩ := val3 hX
  obtain ⟨b0, b1, b2, _⟩ := val3 hY
  go_wp2_with fail
  clear a0 a1 a2 b0 b1 b2
  refine (no_any _ 1).mono ?_
  rintro e w3 ⟨rfl, hbn⟩
  have hX := (hbn.block _ (Array.getElem?_eq_some_iff.1 hX).1).trans hX
  have hY := (hbn.block _ (Array.getElem?_eq_some_iff.1 hY).1).trans hY
  have hR := (hbn.block _ (Array.getElem?_eq_some_iff.1 hR).1).trans hR
  have hbW := hbW.trans (hbn.mono hbW.size)
  clear hbn
  obtain ⟨r0, r1, r2, z0, z1, z2⟩ := val3 hR
  go_wp2
  have hz := val_store (x := .int .i64 4) (y := .int .i64 1) (z := .string ⟨#[]⟩) hR
  obtain ⟨q0, q1, q2, _⟩ := val3 hz
  refine bodyPost_ret (v := .agg #[.int .i64 4, .int .i64 1, .string ⟨#[]⟩]) ?_ rfl ?_
  · simp [results, Tryd.f13, go_sem, q0, q1, q2]
  · exact ⟨rfl, ((hbW.setCell (p := ⟨w.heap.size + 1 + 1, 0, none⟩) (by show w.heap.size ≤ w.heap.size + 1 + 1; omega) _).setCell (p := ⟨w.heap.size + 1 + 1, 1, none⟩) (by show w.heap.size ≤ w.heap.size + 1 + 1; omega) _).setCell (p := ⟨w.heap.size + 1 + 1, 2, none⟩) (by show w.heap.size ≤ w.heap.size + 1 + 1; omega) _⟩
set_option maxRecDepth 100000 in
set_option maxHeartbeats 1000000 in
theorem rtwo_bad2 (w : World) (kind k n k2 n2 : Int) (s t : ByteArray) (hk : k ≠ 4) (hk2 : k2 ≠ 4) (h1 : 16 ≤ kind) (h2 : kind ≤ 19) (i1 : decide (isNum (k, n, s)) = true) (i2 : decide (isNum (k2, n2, t)) = false) : Calls Tryd.prog 13 #[.int .i64 kind, .agg #[.int .i64 k, .int .i64 n, .string s], .agg #[.int .i64 k2, .int .i64 n2, .string t]] w fun e w' => e = .returned (.agg #[.int .i64 4, .int .i64 1, .string ⟨#[]⟩]) ∧ Below w.heap.size w w' := by
  have f1 : (k == 4) = false := by simpa using hk
  have f1' : decide (k = 4) = false := by simpa using hk
  have f2 : (k2 == 4) = false := by simpa using hk2
  have f2' : decide (k2 = 4) = false := by simpa using hk2
  have C1 := Lib.hid (fun W => rInt_any W k n s)
  have C2 := Lib.hid (fun W => rInt_any W k2 n2 t)
  rw [i1] at C1
  rw [i2] at C2
  obtain ⟨a, ha⟩ : ∃ a, (if isNum (k, n, s) then n else 0) = a := ⟨_, rfl⟩
  obtain ⟨b, hb⟩ : ∃ b, (if isNum (k2, n2, t) then n2 else 0) = b := ⟨_, rfl⟩
  rw [ha] at C1
  rw [hb] at C2
  have e15 : (kind == 15) = false := by rw [beq_eq_false_iff_ne]; omega
  have e15' : decide (kind = 15) = false := decide_eq_false (by omega)
  have e16 : decide (16 ≤ kind) = true := decide_eq_true h1
  have e19 : decide (kind ≤ 19) = true := decide_eq_true h2
  clear hk hk2 i1 i2 h1 h2 ha hb
  go_enter Tryd.func13, Tryd.ntmps13
  go_wp2_with fail
  obtain ⟨W, hW⟩ : ∃ W, W = (((w.alloc (.cells #[.int .i64 k, .int .i64 n, .string s] 24)).alloc (.cells #[.int .i64 k2, .int .i64 n2, .string t] 24)).alloc (.cells #[.int .i64 0, .int .i64 0, .string ⟨#[]⟩] 24)) := ⟨_, rfl⟩
  have hs0 := heap_alloc_new w (.cells #[.int .i64 k, .int .i64 n, .string s] 24)
  have hs1 := heap_alloc_new (w.alloc (.cells #[.int .i64 k, .int .i64 n, .string s] 24)) (.cells #[.int .i64 k2, .int .i64 n2, .string t] 24)
  rw [World.size_alloc] at hs1
  have hs2 := heap_alloc_new ((w.alloc (.cells #[.int .i64 k, .int .i64 n, .string s] 24)).alloc (.cells #[.int .i64 k2, .int .i64 n2, .string t] 24)) (.cells #[.int .i64 0, .int .i64 0, .string ⟨#[]⟩] 24)
  rw [World.size_alloc, World.size_alloc] at hs2
  have hX : W.heap[w.heap.size]? = some (.cells #[.int .i64 k, .int .i64 n, .string s] 24 (0, 0)) := by rw [hW]; exact (Below.heap_alloc _ _ _ (by simp; try omega)).trans ((Below.heap_alloc _ _ _ (by simp; try omega)).trans (hs0))
  have hY : W.heap[w.heap.size + 1]? = some (.cells #[.int .i64 k2, .int .i64 n2, .string t] 24 (0, 0)) := by rw [hW]; exact (Below.heap_alloc _ _ _ (by simp; try omega)).trans (hs1)
  have hR : W.heap[w.heap.size + 1 + 1]? = some (.cells #[.int .i64 0, .int .i64 0, .string ⟨#[]⟩] 24 (0, 0)) := by rw [hW]; exact hs2
  have hsW : W.heap.size = w.heap.size + 3 := by rw [hW]; simp
  have hbW : Below w.heap.size w W := by rw [hW]; exact (((Below.refl _ _).alloc (Nat.le_refl _) _).alloc (by simp; try omega) _).alloc (by simp; try omega) _
  rw [← hW]
  clear hW hs0 hs1 hs2
  refine (C1.out _).mono ?_
  rintro e w1 ⟨rfl, hbn⟩
  have hX := (hbn.block _ (Array.getElem?_eq_some_iff.1 hX).1).trans hX
  have hY := (hbn.block _ (Array.getElem?_eq_some_iff.1 hY).1).trans hY
  have hR := (hbn.block _ (Array.getElem?_eq_some_iff.1 hR).1).trans hR
  have hbW := hbW.trans (hbn.mono hbW.size)
  clear hbn
  obtain ⟨a0, a1, a2, _⟩ := val3 hX
  obtain ⟨b0, b1, b2, _⟩ := val3 hY
  go_wp2_with fail
  clear a0 a1 a2 b0 b1 b2
  refine (C2.out _).mono ?_
  rintro e w2 ⟨rfl, hbn⟩
  have hX := (hbn.block _ (Array.getElem?_eq_some_iff.1 hX).1).trans hX
  have hY := (hbn.block _ (Array.getElem?_eq_some_iff.1 hY).1).trans hY
  have hR := (hbn.block _ (Array.getElem?_eq_some_iff.1 hR).1).trans hR
  have hbW := hbW.trans (hbn.mono hbW.size)
  clear hbn
  obtain ⟨a0, a1, a2, _⟩ := val3 hX
  obtain ⟨b0, b1, b2, _⟩ := val3 hY
  go_wp2_with fail
  clear a0 a1 a2 b0 b1 b2
  refine (no_any _ 1).mono ?_
  rintro e w3 ⟨rfl, hbn⟩
  have hX := (hbn.block _ (Array.getElem?_eq_some_iff.1 hX).1).trans hX
  have hY := (hbn.block _ (Array.getElem?_eq_some_iff.1 hY).1).trans hY
  have hR := (hbn.block _ (Array.getElem?_eq_some_iff.1 hR).1).trans hR
  have hbW := hbW.trans (hbn.mono hbW.size)
  clear hbn
  obtain ⟨r0, r1, r2, z0, z1, z2⟩ := val3 hR
  go_wp2
  have hz := val_store (x := .int .i64 4) (y := .int .i64 1) (z := .string ⟨#[]⟩) hR
  obtain ⟨q0, q1, q2, _⟩ := val3 hz
  refine bodyPost_ret (v := .agg #[.int .i64 4, .int .i64 1, .string ⟨#[]⟩]) ?_ rfl ?_
  · simp [results, Tryd.f13, go_sem, q0, q1, q2]
  · exact ⟨rfl, ((hbW.setCell (p := ⟨w.heap.size + 1 + 1, 0, none⟩) (by show w.heap.size ≤ w.heap.size + 1 + 1; omega) _).setCell (p := ⟨w.heap.size + 1 + 1, 1, none⟩) (by show w.heap.size ≤ w.heap.size + 1 + 1; omega) _).setCell (p := ⟨w.heap.size + 1 + 1, 2, none⟩) (by show w.heap.size ≤ w.heap.size + 1 + 1; omega) _⟩
set_option maxRecDepth 100000 in
set_option maxHeartbeats 1000000 in
theorem rtwo_bad3 (w : World) (kind k n k2 n2 : Int) (s t : ByteArray) (hk : k ≠ 4) (hk2 : k2 ≠ 4) (h1 : 16 ≤ kind) (h2 : kind ≤ 19) (i1 : decide (isNum (k, n, s)) = false) (i2 : decide (isNum (k2, n2, t)) = false) : Calls Tryd.prog 13 #[.int .i64 kind, .agg #[.int .i64 k, .int .i64 n, .string s], .agg #[.int .i64 k2, .int .i64 n2, .string t]] w fun e w' => e = .returned (.agg #[.int .i64 4, .int .i64 1, .string ⟨#[]⟩]) ∧ Below w.heap.size w w' := by
  have f1 : (k == 4) = false := by simpa using hk
  have f1' : decide (k = 4) = false := by simpa using hk
  have f2 : (k2 == 4) = false := by simpa using hk2
  have f2' : decide (k2 = 4) = false := by simpa using hk2
  have C1 := Lib.hid (fun W => rInt_any W k n s)
  have C2 := Lib.hid (fun W => rInt_any W k2 n2 t)
  rw [i1] at C1
  rw [i2] at C2
  obtain ⟨a, ha⟩ : ∃ a, (if isNum (k, n, s) then n else 0) = a := ⟨_, rfl⟩
  obtain ⟨b, hb⟩ : ∃ b, (if isNum (k2, n2, t) then n2 else 0) = b := ⟨_, rfl⟩
  rw [ha] at C1
  rw [hb] at C2
  have e15 : (kind == 15) = false := by rw [beq_eq_false_iff_ne]; omega
  have e15' : decide (kind = 15) = false := decide_eq_false (by omega)
  have e16 : decide (16 ≤ kind) = true := decide_eq_true h1
  have e19 : decide (kind ≤ 19) = true := decide_eq_true h2
  clear hk hk2 i1 i2 h1 h2 ha hb
  go_enter Tryd.func13, Tryd.ntmps13
  go_wp2_with fail
  obtain ⟨W, hW⟩ : ∃ W, W = (((w.alloc (.cells #[.int .i64 k, .int .i64 n, .string s] 24)).alloc (.cells #[.int .i64 k2, .int .i64 n2, .string t] 24)).alloc (.cells #[.int .i64 0, .int .i64 0, .string ⟨#[]⟩] 24)) := ⟨_, rfl⟩
  have hs0 := heap_alloc_new w (.cells #[.int .i64 k, .int .i64 n, .string s] 24)
  have hs1 := heap_alloc_new (w.alloc (.cells #[.int .i64 k, .int .i64 n, .string s] 24)) (.cells #[.int .i64 k2, .int .i64 n2, .string t] 24)
  rw [World.size_alloc] at hs1
  have hs2 := heap_alloc_new ((w.alloc (.cells #[.int .i64 k, .int .i64 n, .string s] 24)).alloc (.cells #[.int .i64 k2, .int .i64 n2, .string t] 24)) (.cells #[.int .i64 0, .int .i64 0, .string ⟨#[]⟩] 24)
  rw [World.size_alloc, World.size_alloc] at hs2
  have hX : W.heap[w.heap.size]? = some (.cells #[.int .i64 k, .int .i64 n, .string s] 24 (0, 0)) := by rw [hW]; exact (Below.heap_alloc _ _ _ (by simp; try omega)).trans ((Below.heap_alloc _ _ _ (by simp; try omega)).trans (hs0))
  have hY : W.heap[w.heap.size + 1]? = some (.cells #[.int .i64 k2, .int .i64 n2, .string t] 24 (0, 0)) := by rw [hW]; exact (Below.heap_alloc _ _ _ (by simp; try omega)).trans (hs1)
  have hR : W.heap[w.heap.size + 1 + 1]? = some (.cells #[.int .i64 0, .int .i64 0, .string ⟨#[]⟩] 24 (0, 0)) := by rw [hW]; exact hs2
  have hsW : W.heap.size = w.heap.size + 3 := by rw [hW]; simp
  have hbW : Below w.heap.size w W := by rw [hW]; exact (((Below.refl _ _).alloc (Nat.le_refl _) _).alloc (by simp; try omega) _).alloc (by simp; try omega) _
  rw [← hW]
  clear hW hs0 hs1 hs2
  refine (C1.out _).mono ?_
  rintro e w1 ⟨rfl, hbn⟩
  have hX := (hbn.block _ (Array.getElem?_eq_some_iff.1 hX).1).trans hX
  have hY := (hbn.block _ (Array.getElem?_eq_some_iff.1 hY).1).trans hY
  have hR := (hbn.block _ (Array.getElem?_eq_some_iff.1 hR).1).trans hR
  have hbW := hbW.trans (hbn.mono hbW.size)
  clear hbn
  obtain ⟨a0, a1, a2, _⟩ := val3 hX
  obtain ⟨b0, b1, b2, _⟩ := val3 hY
  go_wp2_with fail
  clear a0 a1 a2 b0 b1 b2
  refine (C2.out _).mono ?_
  rintro e w2 ⟨rfl, hbn⟩
  have hX := (hbn.block _ (Array.getElem?_eq_some_iff.1 hX).1).trans hX
  have hY := (hbn.block _ (Array.getElem?_eq_some_iff.1 hY).1).trans hY
  have hR := (hbn.block _ (Array.getElem?_eq_some_iff.1 hR).1).trans hR
  have hbW := hbW.trans (hbn.mono hbW.size)
  clear hbn
  obtain ⟨a0, a1, a2, _⟩ := val3 hX
  obtain ⟨b0, b1, b2, _⟩ := val3 hY
  go_wp2_with fail
  clear a0 a1 a2 b0 b1 b2
  refine (no_any _ 1).mono ?_
  rintro e w3 ⟨rfl, hbn⟩
  have hX := (hbn.block _ (Array.getElem?_eq_some_iff.1 hX).1).trans hX
  have hY := (hbn.block _ (Array.getElem?_eq_some_iff.1 hY).1).trans hY
  have hR := (hbn.block _ (Array.getElem?_eq_some_iff.1 hR).1).trans hR
  have hbW := hbW.trans (hbn.mono hbW.size)
  clear hbn
  obtain ⟨r0, r1, r2, z0, z1, z2⟩ := val3 hR
  go_wp2
  have hz := val_store (x := .int .i64 4) (y := .int .i64 1) (z := .string ⟨#[]⟩) hR
  obtain ⟨q0, q1, q2, _⟩ := val3 hz
  refine bodyPost_ret (v := .agg #[.int .i64 4, .int .i64 1, .string ⟨#[]⟩]) ?_ rfl ?_
  · simp [results, Tryd.f13, go_sem, q0, q1, q2]
  · exact ⟨rfl, ((hbW.setCell (p := ⟨w.heap.size + 1 + 1, 0, none⟩) (by show w.heap.size ≤ w.heap.size + 1 + 1; omega) _).setCell (p := ⟨w.heap.size + 1 + 1, 1, none⟩) (by show w.heap.size ≤ w.heap.size + 1 + 1; omega) _).setCell (p := ⟨w.heap.size + 1 + 1, 2, none⟩) (by show w.heap.size ≤ w.heap.size + 1 + 1; omega) _⟩
end Go.Proofs.YtejpfpklgkcagaaDoor
