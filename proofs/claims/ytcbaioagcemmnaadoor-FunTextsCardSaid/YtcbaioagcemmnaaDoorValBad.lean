/- val.numbers, val.Two where no number comes of it; sums, differences, products, quotients. Written by valbadgen.py. -/
import Derived.Test.YtcbaioagcemmnaaDoorValNumOps
namespace Go.Proofs.YtcbaioagcemmnaaDoor
open Go.RowKit Go.Maps
abbrev V3 := Int × Int × ByteArray
abbrev vv (v : V3) : Value := .agg #[.int .i64 v.1, .int .i64 v.2.1, .string v.2.2]
def resV (z : Int) : V3 := if InR z then (1, z, ⟨#[]⟩) else (4, 2, ⟨#[]⟩)
theorem numRes_res (z r : Int) (h : InR z → r = z) : NumRes (decide (InR z)) r = vv (resV z) := by
  unfold NumRes resV
  by_cases hz : InR z
  · rw [decide_eq_true hz, if_pos rfl, if_pos hz, h hz]
  · rw [decide_eq_false hz, if_neg (by simp), if_neg hz]
theorem two_sum (w : World) (k1 k2 x y : Int) (s t : ByteArray) (hk1 : KNum k1 x) (hk2 : KNum k2 y) (hx : InR x) (hy : InR y) :
    Calls Tryd.prog 37 #[.int .i64 16, .agg #[.int .i64 k1, .int .i64 x, .string s], .agg #[.int .i64 k2, .int .i64 y, .string t]] w fun e w' => e = .returned (vv (resV (x + y))) ∧ Below w.heap.size w w' := by
  rw [← numRes_res (x + y) (wrap64 (x + y)) wrap_in]
  exact two_add w k1 k2 x y _ s t _ hk1 hk2 (fun W => add_ok W x y hx hy)
theorem two_dif (w : World) (k1 k2 x y : Int) (s t : ByteArray) (hk1 : KNum k1 x) (hk2 : KNum k2 y) (hx : InR x) (hy : InR y) :
    Calls Tryd.prog 37 #[.int .i64 17, .agg #[.int .i64 k1, .int .i64 x, .string s], .agg #[.int .i64 k2, .int .i64 y, .string t]] w fun e w' => e = .returned (vv (resV (x - y))) ∧ Below w.heap.size w w' := by
  rw [← numRes_res (x - y) (wrap64 (x - y)) wrap_in]
  exact two_sub w k1 k2 x y _ s t _ hk1 hk2 (fun W => sub_ok W x y hx hy)
theorem two_prod (w : World) (k1 k2 x y : Int) (s t : ByteArray) (hk1 : KNum k1 x) (hk2 : KNum k2 y) (hx : InR x) (hy : InR y) :
    Calls Tryd.prog 37 #[.int .i64 18, .agg #[.int .i64 k1, .int .i64 x, .string s], .agg #[.int .i64 k2, .int .i64 y, .string t]] w fun e w' => e = .returned (vv (resV (x * y))) ∧ Below w.heap.size w w' := by
  rw [← numRes_res (x * y) (wrap64 (x * y)) wrap_in]
  exact two_mul w k1 k2 x y _ s t _ hk1 hk2 (fun W => mul_ok W x y hx hy)
theorem two_quo (w : World) (k1 k2 x y : Int) (s t : ByteArray) (hk1 : KNum k1 x) (hk2 : KNum k2 y) (hx : InR x) (hy : y ≠ 0) :
    Calls Tryd.prog 37 #[.int .i64 19, .agg #[.int .i64 k1, .int .i64 x, .string s], .agg #[.int .i64 k2, .int .i64 y, .string t]] w fun e w' => e = .returned (vv (resV (x.tdiv y))) ∧ Below w.heap.size w w' := by
  rw [← numRes_res (x.tdiv y) (if InR (x.tdiv y) then x.tdiv y else 0) (fun h => if_pos h)]
  exact two_div w k1 k2 x y _ s t _ hk1 hk2 hy (fun W => div_ok W x y hx hy)
/-- a value as a number, and is it one -/
def kInt (k x : Int) : Int × Bool := if k = 0 ∨ k = 1 then (x, true) else (0, false)
theorem valInt_all (w : World) (k x : Int) (s : ByteArray) (hk : k = 0 → x = 0) : Calls Tryd.prog 45 #[.agg #[.int .i64 k, .int .i64 x, .string s]] w fun e w' => e = .returned (.tuple #[.int .i64 (kInt k x).1, .bool (kInt k x).2]) ∧ Below w.heap.size w w' := by
  by_cases h : k = 0 ∨ k = 1
  · have e : kInt k x = (x, true) := if_pos h
    rw [e]
    exact valInt_num w k x s (h.elim (fun h => .inr ⟨h, hk h⟩) .inl)
  · have e : kInt k x = (0, false) := if_neg h
    rw [e]
    exact valInt_bad w k x s (fun e => h (.inl e)) (fun e => h (.inr e))
theorem kNum_of {k x : Int} (h : k = 0 ∨ k = 1) (hk : k = 0 → x = 0) : KNum k x := h.elim (fun h => .inr ⟨h, hk h⟩) .inl
set_option maxRecDepth 100000 in
set_option maxHeartbeats 2000000 in
theorem numbers_bad (w : World) (kind k1 k2 x y a b : Int) (i j : Bool) (s t : ByteArray) (h1 : k1 = 0 → x = 0) (h2 : k2 = 0 → y = 0) (e1 : kInt k1 x = (a, i)) (e2 : kInt k2 y = (b, j)) (hij : i = false ∨ (i = true ∧ j = false)) :
    Calls Tryd.prog 50 #[.int .i64 kind, .agg #[.int .i64 k1, .int .i64 x, .string s], .agg #[.int .i64 k2, .int .i64 y, .string t]] w fun e w' => e = .returned (.agg #[.int .i64 4, .int .i64 1, .string ⟨#[]⟩]) ∧ Below w.heap.size w w' := by
  have c1 := fun W => valInt_all W k1 x s h1
  have c2 := fun W => valInt_all W k2 y t h2
  rw [e1] at c1
  rw [e2] at c2
  have C1 := Lib.hid c1
  have C2 := Lib.hid c2
  clear c1 c2 h1 h2 e1 e2
  go_enter Tryd.func50, Tryd.ntmps50
  go_wp2_with fail
  obtain ⟨W, hW⟩ : ∃ W, W = (((w.alloc (.cells #[.int .i64 k1, .int .i64 x, .string s] 31)).alloc (.cells #[.int .i64 k2, .int .i64 y, .string t] 31)).alloc (.cells #[.int .i64 0, .int .i64 0, .string ⟨#[]⟩] 31)) := ⟨_, rfl⟩
  have hs0 := heap_alloc_new w (.cells #[.int .i64 k1, .int .i64 x, .string s] 31)
  have hs1 := heap_alloc_new (w.alloc (.cells #[.int .i64 k1, .int .i64 x, .string s] 31)) (.cells #[.int .i64 k2, .int .i64 y, .string t] 31)
  rw [World.size_alloc] at hs1
  have hs2 := heap_alloc_new ((w.alloc (.cells #[.int .i64 k1, .int .i64 x, .string s] 31)).alloc (.cells #[.int .i64 k2, .int .i64 y, .string t] 31)) (.cells #[.int .i64 0, .int .i64 0, .string ⟨#[]⟩] 31)
  rw [World.size_alloc, World.size_alloc] at hs2
  have hS0 : W.heap[w.heap.size]? = some (.cells #[.int .i64 k1, .int .i64 x, .string s] 31 (0, 0)) := by rw [hW]; exact (Below.heap_alloc _ _ _ (by simp; try omega)).trans ((Below.heap_alloc _ _ _ (by simp; try omega)).trans (hs0))
  have hS1 : W.heap[w.heap.size + 1]? = some (.cells #[.int .i64 k2, .int .i64 y, .string t] 31 (0, 0)) := by rw [hW]; exact (Below.heap_alloc _ _ _ (by simp; try omega)).trans (hs1)
  have hR : W.heap[w.heap.size + 1 + 1]? = some (.cells #[.int .i64 0, .int .i64 0, .string ⟨#[]⟩] 31 (0, 0)) := by rw [hW]; exact hs2
  have hsW : W.heap.size = w.heap.size + 3 := by rw [hW]; simp
  have hbW : Below w.heap.size w W := by rw [hW]; exact (((Below.refl _ _).alloc (Nat.le_refl _) _).alloc (by simp; try omega) _).alloc (by simp; try omega) _
  rw [← hW]
  clear hW hs0 hs1 hs2
  refine (C1.out W).mono ?_
  rintro e w1 ⟨rfl, hb1⟩
  have hs1 := hb1.size
  obtain ⟨a0, a1, a2, _⟩ := val3 ((hb1.block (w.heap.size + 1) (by omega)).trans hS1)
  go_wp2_with fail
  refine (C2.out w1).mono ?_
  rintro e w2 ⟨rfl, hb2⟩
  have hb3 := hb1.trans (hb2.mono hs1)
  have hs3 := hb3.size
  have hRR := (hb3.block (w.heap.size + 1 + 1) (by omega)).trans hR
  have hbw := hbW.trans (hb3.mono hbW.size)
  clear a0 a1 a2 hb1 hb2 hb3 hS0 hS1 hR hbW
  rcases hij with rfl | ⟨rfl, rfl⟩
  · go_wp2_with fail
    refine (err_any _ 1).mono ?_
    rintro e wn ⟨rfl, hbn⟩
    have hR6 := (hbn.block _ (by omega)).trans hRR
    have hb6 := hbw.trans (hbn.mono hbw.size)
    obtain ⟨r0, r1, r2, z0, z1, z2⟩ := val3 hR6
    go_wp2
    have hz := val_store (x := .int .i64 4) (y := .int .i64 1) (z := .string ⟨#[]⟩) hR6
    obtain ⟨q0, q1, q2, _⟩ := val3 hz
    refine bodyPost_ret (v := .agg #[.int .i64 4, .int .i64 1, .string ⟨#[]⟩]) ?_ rfl ?_
    · simp [results, Tryd.f50, go_sem, q0, q1, q2]
    · exact ⟨rfl, ((hb6.setCell (p := ⟨w.heap.size + 1 + 1, 0, none⟩) (by show w.heap.size ≤ w.heap.size + 1 + 1; omega) _).setCell (p := ⟨w.heap.size + 1 + 1, 1, none⟩) (by show w.heap.size ≤ w.heap.size + 1 + 1; omega) _).setCell (p := ⟨w.heap.size + 1 + 1, 2, none⟩) (by show w.heap.size ≤ w.heap.size + 1 + 1; omega) _⟩
  · go_wp2_with fail
    refine (err_any _ 1).mono ?_
    rintro e wn ⟨rfl, hbn⟩
    have hR6 := (hbn.block _ (by omega)).trans hRR
    have hb6 := hbw.trans (hbn.mono hbw.size)
    obtain ⟨r0, r1, r2, z0, z1, z2⟩ := val3 hR6
    go_wp2
    have hz := val_store (x := .int .i64 4) (y := .int .i64 1) (z := .string ⟨#[]⟩) hR6
    obtain ⟨q0, q1, q2, _⟩ := val3 hz
    refine bodyPost_ret (v := .agg #[.int .i64 4, .int .i64 1, .string ⟨#[]⟩]) ?_ rfl ?_
    · simp [results, Tryd.f50, go_sem, q0, q1, q2]
    · exact ⟨rfl, ((hb6.setCell (p := ⟨w.heap.size + 1 + 1, 0, none⟩) (by show w.heap.size ≤ w.heap.size + 1 + 1; omega) _).setCell (p := ⟨w.heap.size + 1 + 1, 1, none⟩) (by show w.heap.size ≤ w.heap.size + 1 + 1; omega) _).setCell (p := ⟨w.heap.size + 1 + 1, 2, none⟩) (by show w.heap.size ≤ w.heap.size + 1 + 1; omega) _⟩
set_option maxRecDepth 100000 in
set_option maxHeartbeats 2000000 in
theorem numbers_nought (w : World) (k1 k2 x : Int) (s t : ByteArray) (h1 : KNum k1 x) (h2 : KNum k2 0) :
    Calls Tryd.prog 50 #[.int .i64 19, .agg #[.int .i64 k1, .int .i64 x, .string s], .agg #[.int .i64 k2, .int .i64 0, .string t]] w fun e w' => e = .returned (.agg #[.int .i64 4, .int .i64 3, .string ⟨#[]⟩]) ∧ Below w.heap.size w w' := by
  have C1 := Lib.hid (fun W => valInt_num W k1 x s h1)
  have C2 := Lib.hid (fun W => valInt_num W k2 0 t h2)
  clear h1 h2
  go_enter Tryd.func50, Tryd.ntmps50
  go_wp2_with fail
  obtain ⟨W, hW⟩ : ∃ W, W = (((w.alloc (.cells #[.int .i64 k1, .int .i64 x, .string s] 31)).alloc (.cells #[.int .i64 k2, .int .i64 0, .string t] 31)).alloc (.cells #[.int .i64 0, .int .i64 0, .string ⟨#[]⟩] 31)) := ⟨_, rfl⟩
  have hs0 := heap_alloc_new w (.cells #[.int .i64 k1, .int .i64 x, .string s] 31)
  have hs1 := heap_alloc_new (w.alloc (.cells #[.int .i64 k1, .int .i64 x, .string s] 31)) (.cells #[.int .i64 k2, .int .i64 0, .string t] 31)
  rw [World.size_alloc] at hs1
  have hs2 := heap_alloc_new ((w.alloc (.cells #[.int .i64 k1, .int .i64 x, .string s] 31)).alloc (.cells #[.int .i64 k2, .int .i64 0, .string t] 31)) (.cells #[.int .i64 0, .int .i64 0, .string ⟨#[]⟩] 31)
  rw [World.size_alloc, World.size_alloc] at hs2
  have hS0 : W.heap[w.heap.size]? = some (.cells #[.int .i64 k1, .int .i64 x, .string s] 31 (0, 0)) := by rw [hW]; exact (Below.heap_alloc _ _ _ (by simp; try omega)).trans ((Below.heap_alloc _ _ _ (by simp; try omega)).trans (hs0))
  have hS1 : W.heap[w.heap.size + 1]? = some (.cells #[.int .i64 k2, .int .i64 0, .string t] 31 (0, 0)) := by rw [hW]; exact (Below.heap_alloc _ _ _ (by simp; try omega)).trans (hs1)
  have hR : W.heap[w.heap.size + 1 + 1]? = some (.cells #[.int .i64 0, .int .i64 0, .string ⟨#[]⟩] 31 (0, 0)) := by rw [hW]; exact hs2
  have hsW : W.heap.size = w.heap.size + 3 := by rw [hW]; simp
  have hbW : Below w.heap.size w W := by rw [hW]; exact (((Below.refl _ _).alloc (Nat.le_refl _) _).alloc (by simp; try omega) _).alloc (by simp; try omega) _
  rw [← hW]
  clear hW hs0 hs1 hs2
  refine (C1.out W).mono ?_
  rintro e w1 ⟨rfl, hb1⟩
  have hs1 := hb1.size
  obtain ⟨a0, a1, a2, _⟩ := val3 ((hb1.block (w.heap.size + 1) (by omega)).trans hS1)
  go_wp2_with fail
  refine (C2.out w1).mono ?_
  rintro e w2 ⟨rfl, hb2⟩
  have hb3 := hb1.trans (hb2.mono hs1)
  have hs3 := hb3.size
  have hRR := (hb3.block (w.heap.size + 1 + 1) (by omega)).trans hR
  have hbw := hbW.trans (hb3.mono hbW.size)
  clear a0 a1 a2 hb1 hb2 hb3 hS0 hS1 hR hbW
  go_wp2_with fail
  refine (err_any _ 3).mono ?_
  rintro e wn ⟨rfl, hbn⟩
  have hR6 := (hbn.block _ (by omega)).trans hRR
  have hb6 := hbw.trans (hbn.mono hbw.size)
  obtain ⟨r0, r1, r2, z0, z1, z2⟩ := val3 hR6
  go_wp2
  have hz := val_store (x := .int .i64 4) (y := .int .i64 3) (z := .string ⟨#[]⟩) hR6
  obtain ⟨q0, q1, q2, _⟩ := val3 hz
  refine bodyPost_ret (v := .agg #[.int .i64 4, .int .i64 3, .string ⟨#[]⟩]) ?_ rfl ?_
  · simp [results, Tryd.f50, go_sem, q0, q1, q2]
  · exact ⟨rfl, ((hb6.setCell (p := ⟨w.heap.size + 1 + 1, 0, none⟩) (by show w.heap.size ≤ w.heap.size + 1 + 1; omega) _).setCell (p := ⟨w.heap.size + 1 + 1, 1, none⟩) (by show w.heap.size ≤ w.heap.size + 1 + 1; omega) _).setCell (p := ⟨w.heap.size + 1 + 1, 2, none⟩) (by show w.heap.size ≤ w.heap.size + 1 + 1; omega) _⟩
set_option maxRecDepth 100000 in
set_option maxHeartbeats 2000000 in
theorem two_bad16 (w : World) (k1 k2 x y : Int) (s t : ByteArray) (hk1 : k1 ≠ 4) (hk2 : k2 ≠ 4) (h1 : k1 = 0 → x = 0) (h2 : k2 = 0 → y = 0) (hij : (kInt k1 x).2 = false ∨ ((kInt k1 x).2 = true ∧ (kInt k2 y).2 = false)) :
    Calls Tryd.prog 37 #[.int .i64 16, .agg #[.int .i64 k1, .int .i64 x, .string s], .agg #[.int .i64 k2, .int .i64 y, .string t]] w fun e w' => e = .returned (.agg #[.int .i64 4, .int .i64 1, .string ⟨#[]⟩]) ∧ Below w.heap.size w w' := by
  have a1 : (k1 == 4) = false := by simpa using hk1
  have a2 : decide (k1 = 4) = false := decide_eq_false hk1
  have a3 : (k2 == 4) = false := by simpa using hk2
  have a4 : decide (k2 = 4) = false := decide_eq_false hk2
  have C := Lib.hid (fun W => numbers_bad W 16 k1 k2 x y _ _ _ _ s t h1 h2 rfl rfl hij)
  clear h1 h2 hij
  go_enter Tryd.func37, Tryd.ntmps37
  go_wp2_with fail
  obtain ⟨W, hW⟩ : ∃ W, W = (((w.alloc (.cells #[.int .i64 k1, .int .i64 x, .string s] 31)).alloc (.cells #[.int .i64 k2, .int .i64 y, .string t] 31)).alloc (.cells #[.int .i64 0, .int .i64 0, .string ⟨#[]⟩] 31)) := ⟨_, rfl⟩
  have hs0 := heap_alloc_new w (.cells #[.int .i64 k1, .int .i64 x, .string s] 31)
  have hs1 := heap_alloc_new (w.alloc (.cells #[.int .i64 k1, .int .i64 x, .string s] 31)) (.cells #[.int .i64 k2, .int .i64 y, .string t] 31)
  rw [World.size_alloc] at hs1
  have hs2 := heap_alloc_new ((w.alloc (.cells #[.int .i64 k1, .int .i64 x, .string s] 31)).alloc (.cells #[.int .i64 k2, .int .i64 y, .string t] 31)) (.cells #[.int .i64 0, .int .i64 0, .string ⟨#[]⟩] 31)
  rw [World.size_alloc, World.size_alloc] at hs2
  have hS0 : W.heap[w.heap.size]? = some (.cells #[.int .i64 k1, .int .i64 x, .string s] 31 (0, 0)) := by rw [hW]; exact (Below.heap_alloc _ _ _ (by simp; try omega)).trans ((Below.heap_alloc _ _ _ (by simp; try omega)).trans (hs0))
  have hS1 : W.heap[w.heap.size + 1]? = some (.cells #[.int .i64 k2, .int .i64 y, .string t] 31 (0, 0)) := by rw [hW]; exact (Below.heap_alloc _ _ _ (by simp; try omega)).trans (hs1)
  have hR : W.heap[w.heap.size + 1 + 1]? = some (.cells #[.int .i64 0, .int .i64 0, .string ⟨#[]⟩] 31 (0, 0)) := by rw [hW]; exact hs2
  have hsW : W.heap.size = w.heap.size + 3 := by rw [hW]; simp
  have hbW : Below w.heap.size w W := by rw [hW]; exact (((Below.refl _ _).alloc (Nat.le_refl _) _).alloc (by simp; try omega) _).alloc (by simp; try omega) _
  rw [← hW]
  clear hW hs0 hs1 hs2
  refine (C.out W).mono ?_
  rintro e w1 ⟨rfl, hb1⟩
  have hs1 := hb1.size
  have hR6 := (hb1.block (w.heap.size + 1 + 1) (by omega)).trans hR
  have hb6 := hbW.trans (hb1.mono hbW.size)
  clear hS0 hS1 hR
  obtain ⟨r0, r1, r2, z0, z1, z2⟩ := val3 hR6
  go_wp2
  have hz := val_store (x := .int .i64 4) (y := .int .i64 1) (z := .string ⟨#[]⟩) hR6
  obtain ⟨q0, q1, q2, _⟩ := val3 hz
  refine bodyPost_ret (v := .agg #[.int .i64 4, .int .i64 1, .string ⟨#[]⟩]) ?_ rfl ?_
  · simp [results, Tryd.f37, go_sem, q0, q1, q2]
  · exact ⟨rfl, ((hb6.setCell (p := ⟨w.heap.size + 1 + 1, 0, none⟩) (by show w.heap.size ≤ w.heap.size + 1 + 1; omega) _).setCell (p := ⟨w.heap.size + 1 + 1, 1, none⟩) (by show w.heap.size ≤ w.heap.size + 1 + 1; omega) _).setCell (p := ⟨w.heap.size + 1 + 1, 2, none⟩) (by show w.heap.size ≤ w.heap.size + 1 + 1; omega) _⟩
set_option maxRecDepth 100000 in
set_option maxHeartbeats 2000000 in
theorem two_bad17 (w : World) (k1 k2 x y : Int) (s t : ByteArray) (hk1 : k1 ≠ 4) (hk2 : k2 ≠ 4) (h1 : k1 = 0 → x = 0) (h2 : k2 = 0 → y = 0) (hij : (kInt k1 x).2 = false ∨ ((kInt k1 x).2 = true ∧ (kInt k2 y).2 = false)) :
    Calls Tryd.prog 37 #[.int .i64 17, .agg #[.int .i64 k1, .int .i64 x, .string s], .agg #[.int .i64 k2, .int .i64 y, .string t]] w fun e w' => e = .returned (.agg #[.int .i64 4, .int .i64 1, .string ⟨#[]⟩]) ∧ Below w.heap.size w w' := by
  have a1 : (k1 == 4) = false := by simpa using hk1
  have a2 : decide (k1 = 4) = false := decide_eq_false hk1
  have a3 : (k2 == 4) = false := by simpa using hk2
  have a4 : decide (k2 = 4) = false := decide_eq_false hk2
  have C := Lib.hid (fun W => numbers_bad W 17 k1 k2 x y _ _ _ _ s t h1 h2 rfl rfl hij)
  clear h1 h2 hij
  go_enter Tryd.func37, Tryd.ntmps37
  go_wp2_with fail
  obtain ⟨W, hW⟩ : ∃ W, W = (((w.alloc (.cells #[.int .i64 k1, .int .i64 x, .string s] 31)).alloc (.cells #[.int .i64 k2, .int .i64 y, .string t] 31)).alloc (.cells #[.int .i64 0, .int .i64 0, .string ⟨#[]⟩] 31)) := ⟨_, rfl⟩
  have hs0 := heap_alloc_new w (.cells #[.int .i64 k1, .int .i64 x, .string s] 31)
  have hs1 := heap_alloc_new (w.alloc (.cells #[.int .i64 k1, .int .i64 x, .string s] 31)) (.cells #[.int .i64 k2, .int .i64 y, .string t] 31)
  rw [World.size_alloc] at hs1
  have hs2 := heap_alloc_new ((w.alloc (.cells #[.int .i64 k1, .int .i64 x, .string s] 31)).alloc (.cells #[.int .i64 k2, .int .i64 y, .string t] 31)) (.cells #[.int .i64 0, .int .i64 0, .string ⟨#[]⟩] 31)
  rw [World.size_alloc, World.size_alloc] at hs2
  have hS0 : W.heap[w.heap.size]? = some (.cells #[.int .i64 k1, .int .i64 x, .string s] 31 (0, 0)) := by rw [hW]; exact (Below.heap_alloc _ _ _ (by simp; try omega)).trans ((Below.heap_alloc _ _ _ (by simp; try omega)).trans (hs0))
  have hS1 : W.heap[w.heap.size + 1]? = some (.cells #[.int .i64 k2, .int .i64 y, .string t] 31 (0, 0)) := by rw [hW]; exact (Below.heap_alloc _ _ _ (by simp; try omega)).trans (hs1)
  have hR : W.heap[w.heap.size + 1 + 1]? = some (.cells #[.int .i64 0, .int .i64 0, .string ⟨#[]⟩] 31 (0, 0)) := by rw [hW]; exact hs2
  have hsW : W.heap.size = w.heap.size + 3 := by rw [hW]; simp
  have hbW : Below w.heap.size w W := by rw [hW]; exact (((Below.refl _ _).alloc (Nat.le_refl _) _).alloc (by simp; try omega) _).alloc (by simp; try omega) _
  rw [← hW]
  clear hW hs0 hs1 hs2
  refine (C.out W).mono ?_
  rintro e w1 ⟨rfl, hb1⟩
  have hs1 := hb1.size
  have hR6 := (hb1.block (w.heap.size + 1 + 1) (by omega)).trans hR
  have hb6 := hbW.trans (hb1.mono hbW.size)
  clear hS0 hS1 hR
  obtain ⟨r0, r1, r2, z0, z1, z2⟩ := val3 hR6
  go_wp2
  have hz := val_store (x := .int .i64 4) (y := .int .i64 1) (z := .string ⟨#[]⟩) hR6
  obtain ⟨q0, q1, q2, _⟩ := val3 hz
  refine bodyPost_ret (v := .agg #[.int .i64 4, .int .i64 1, .string ⟨#[]⟩]) ?_ rfl ?_
  · simp [results, Tryd.f37, go_sem, q0, q1, q2]
  · exact ⟨rfl, ((hb6.setCell (p := ⟨w.heap.size + 1 + 1, 0, none⟩) (by show w.heap.size ≤ w.heap.size + 1 + 1; omega) _).setCell (p := ⟨w.heap.size + 1 + 1, 1, none⟩) (by show w.heap.size ≤ w.heap.size + 1 + 1; omega) _).setCell (p := ⟨w.heap.size + 1 + 1, 2, none⟩) (by show w.heap.size ≤ w.heap.size + 1 + 1; omega) _⟩
set_option maxRecDepth 100000 in
set_option maxHeartbeats 2000000 in
theorem two_bad18 (w : World) (k1 k2 x y : Int) (s t : ByteArray) (hk1 : k1 ≠ 4) (hk2 : k2 ≠ 4) (h1 : k1 = 0 → x = 0) (h2 : k2 = 0 → y = 0) (hij : (kInt k1 x).2 = false ∨ ((kInt k1 x).2 = true ∧ (kInt k2 y).2 = false)) :
    Calls Tryd.prog 37 #[.int .i64 18, .agg #[.int .i64 k1, .int .i64 x, .string s], .agg #[.int .i64 k2, .int .i64 y, .string t]] w fun e w' => e = .returned (.agg #[.int .i64 4, .int .i64 1, .string ⟨#[]⟩]) ∧ Below w.heap.size w w' := by
  have a1 : (k1 == 4) = false := by simpa using hk1
  have a2 : decide (k1 = 4) = false := decide_eq_false hk1
  have a3 : (k2 == 4) = false := by simpa using hk2
  have a4 : decide (k2 = 4) = false := decide_eq_false hk2
  have C := Lib.hid (fun W => numbers_bad W 18 k1 k2 x y _ _ _ _ s t h1 h2 rfl rfl hij)
  clear h1 h2 hij
  go_enter Tryd.func37, Tryd.ntmps37
  go_wp2_with fail
  obtain ⟨W, hW⟩ : ∃ W, W = (((w.alloc (.cells #[.int .i64 k1, .int .i64 x, .string s] 31)).alloc (.cells #[.int .i64 k2, .int .i64 y, .string t] 31)).alloc (.cells #[.int .i64 0, .int .i64 0, .string ⟨#[]⟩] 31)) := ⟨_, rfl⟩
  have hs0 := heap_alloc_new w (.cells #[.int .i64 k1, .int .i64 x, .string s] 31)
  have hs1 := heap_alloc_new (w.alloc (.cells #[.int .i64 k1, .int .i64 x, .string s] 31)) (.cells #[.int .i64 k2, .int .i64 y, .string t] 31)
  rw [World.size_alloc] at hs1
  have hs2 := heap_alloc_new ((w.alloc (.cells #[.int .i64 k1, .int .i64 x, .string s] 31)).alloc (.cells #[.int .i64 k2, .int .i64 y, .string t] 31)) (.cells #[.int .i64 0, .int .i64 0, .string ⟨#[]⟩] 31)
  rw [World.size_alloc, World.size_alloc] at hs2
  have hS0 : W.heap[w.heap.size]? = some (.cells #[.int .i64 k1, .int .i64 x, .string s] 31 (0, 0)) := by rw [hW]; exact (Below.heap_alloc _ _ _ (by simp; try omega)).trans ((Below.heap_alloc _ _ _ (by simp; try omega)).trans (hs0))
  have hS1 : W.heap[w.heap.size + 1]? = some (.cells #[.int .i64 k2, .int .i64 y, .string t] 31 (0, 0)) := by rw [hW]; exact (Below.heap_alloc _ _ _ (by simp; try omega)).trans (hs1)
  have hR : W.heap[w.heap.size + 1 + 1]? = some (.cells #[.int .i64 0, .int .i64 0, .string ⟨#[]⟩] 31 (0, 0)) := by rw [hW]; exact hs2
  have hsW : W.heap.size = w.heap.size + 3 := by rw [hW]; simp
  have hbW : Below w.heap.size w W := by rw [hW]; exact (((Below.refl _ _).alloc (Nat.le_refl _) _).alloc (by simp; try omega) _).alloc (by simp; try omega) _
  rw [← hW]
  clear hW hs0 hs1 hs2
  refine (C.out W).mono ?_
  rintro e w1 ⟨rfl, hb1⟩
  have hs1 := hb1.size
  have hR6 := (hb1.block (w.heap.size + 1 + 1) (by omega)).trans hR
  have hb6 := hbW.trans (hb1.mono hbW.size)
  clear hS0 hS1 hR
  obtain ⟨r0, r1, r2, z0, z1, z2⟩ := val3 hR6
  go_wp2
  have hz := val_store (x := .int .i64 4) (y := .int .i64 1) (z := .string ⟨#[]⟩) hR6
  obtain ⟨q0, q1, q2, _⟩ := val3 hz
  refine bodyPost_ret (v := .agg #[.int .i64 4, .int .i64 1, .string ⟨#[]⟩]) ?_ rfl ?_
  · simp [results, Tryd.f37, go_sem, q0, q1, q2]
  · exact ⟨rfl, ((hb6.setCell (p := ⟨w.heap.size + 1 + 1, 0, none⟩) (by show w.heap.size ≤ w.heap.size + 1 + 1; omega) _).setCell (p := ⟨w.heap.size + 1 + 1, 1, none⟩) (by show w.heap.size ≤ w.heap.size + 1 + 1; omega) _).setCell (p := ⟨w.heap.size + 1 + 1, 2, none⟩) (by show w.heap.size ≤ w.heap.size + 1 + 1; omega) _⟩
set_option maxRecDepth 100000 in
set_option maxHeartbeats 2000000 in
theorem two_bad19 (w : World) (k1 k2 x y : Int) (s t : ByteArray) (hk1 : k1 ≠ 4) (hk2 : k2 ≠ 4) (h1 : k1 = 0 → x = 0) (h2 : k2 = 0 → y = 0) (hij : (kInt k1 x).2 = false ∨ ((kInt k1 x).2 = true ∧ (kInt k2 y).2 = false)) :
    Calls Tryd.prog 37 #[.int .i64 19, .agg #[.int .i64 k1, .int .i64 x, .string s], .agg #[.int .i64 k2, .int .i64 y, .string t]] w fun e w' => e = .returned (.agg #[.int .i64 4, .int .i64 1, .string ⟨#[]⟩]) ∧ Below w.heap.size w w' := by
  have a1 : (k1 == 4) = false := by simpa using hk1
  have a2 : decide (k1 = 4) = false := decide_eq_false hk1
  have a3 : (k2 == 4) = false := by simpa using hk2
  have a4 : decide (k2 = 4) = false := decide_eq_false hk2
  have C := Lib.hid (fun W => numbers_bad W 19 k1 k2 x y _ _ _ _ s t h1 h2 rfl rfl hij)
  clear h1 h2 hij
  go_enter Tryd.func37, Tryd.ntmps37
  go_wp2_with fail
  obtain ⟨W, hW⟩ : ∃ W, W = (((w.alloc (.cells #[.int .i64 k1, .int .i64 x, .string s] 31)).alloc (.cells #[.int .i64 k2, .int .i64 y, .string t] 31)).alloc (.cells #[.int .i64 0, .int .i64 0, .string ⟨#[]⟩] 31)) := ⟨_, rfl⟩
  have hs0 := heap_alloc_new w (.cells #[.int .i64 k1, .int .i64 x, .string s] 31)
  have hs1 := heap_alloc_new (w.alloc (.cells #[.int .i64 k1, .int .i64 x, .string s] 31)) (.cells #[.int .i64 k2, .int .i64 y, .string t] 31)
  rw [World.size_alloc] at hs1
  have hs2 := heap_alloc_new ((w.alloc (.cells #[.int .i64 k1, .int .i64 x, .string s] 31)).alloc (.cells #[.int .i64 k2, .int .i64 y, .string t] 31)) (.cells #[.int .i64 0, .int .i64 0, .string ⟨#[]⟩] 31)
  rw [World.size_alloc, World.size_alloc] at hs2
  have hS0 : W.heap[w.heap.size]? = some (.cells #[.int .i64 k1, .int .i64 x, .string s] 31 (0, 0)) := by rw [hW]; exact (Below.heap_alloc _ _ _ (by simp; try omega)).trans ((Below.heap_alloc _ _ _ (by simp; try omega)).trans (hs0))
  have hS1 : W.heap[w.heap.size + 1]? = some (.cells #[.int .i64 k2, .int .i64 y, .string t] 31 (0, 0)) := by rw [hW]; exact (Below.heap_alloc _ _ _ (by simp; try omega)).trans (hs1)
  have hR : W.heap[w.heap.size + 1 + 1]? = some (.cells #[.int .i64 0, .int .i64 0, .string ⟨#[]⟩] 31 (0, 0)) := by rw [hW]; exact hs2
  have hsW : W.heap.size = w.heap.size + 3 := by rw [hW]; simp
  have hbW : Below w.heap.size w W := by rw [hW]; exact (((Below.refl _ _).alloc (Nat.le_refl _) _).alloc (by simp; try omega) _).alloc (by simp; try omega) _
  rw [← hW]
  clear hW hs0 hs1 hs2
  refine (C.out W).mono ?_
  rintro e w1 ⟨rfl, hb1⟩
  have hs1 := hb1.size
  have hR6 := (hb1.block (w.heap.size + 1 + 1) (by omega)).trans hR
  have hb6 := hbW.trans (hb1.mono hbW.size)
  clear hS0 hS1 hR
  obtain ⟨r0, r1, r2, z0, z1, z2⟩ := val3 hR6
  go_wp2
  have hz := val_store (x := .int .i64 4) (y := .int .i64 1) (z := .string ⟨#[]⟩) hR6
  obtain ⟨q0, q1, q2, _⟩ := val3 hz
  refine bodyPost_ret (v := .agg #[.int .i64 4, .int .i64 1, .string ⟨#[]⟩]) ?_ rfl ?_
  · simp [results, Tryd.f37, go_sem, q0, q1, q2]
  · exact ⟨rfl, ((hb6.setCell (p := ⟨w.heap.size + 1 + 1, 0, none⟩) (by show w.heap.size ≤ w.heap.size + 1 + 1; omega) _).setCell (p := ⟨w.heap.size + 1 + 1, 1, none⟩) (by show w.heap.size ≤ w.heap.size + 1 + 1; omega) _).setCell (p := ⟨w.heap.size + 1 + 1, 2, none⟩) (by show w.heap.size ≤ w.heap.size + 1 + 1; omega) _⟩
set_option maxRecDepth 100000 in
set_option maxHeartbeats 2000000 in
theorem two_nought (w : World) (k1 k2 x : Int) (s t : ByteArray) (h1 : KNum k1 x) (h2 : KNum k2 0) (hk1 : k1 ≠ 4) (hk2 : k2 ≠ 4) :
    Calls Tryd.prog 37 #[.int .i64 19, .agg #[.int .i64 k1, .int .i64 x, .string s], .agg #[.int .i64 k2, .int .i64 0, .string t]] w fun e w' => e = .returned (.agg #[.int .i64 4, .int .i64 3, .string ⟨#[]⟩]) ∧ Below w.heap.size w w' := by
  have a1 : (k1 == 4) = false := by simpa using hk1
  have a2 : decide (k1 = 4) = false := decide_eq_false hk1
  have a3 : (k2 == 4) = false := by simpa using hk2
  have a4 : decide (k2 = 4) = false := decide_eq_false hk2
  have C := Lib.hid (fun W => numbers_nought W k1 k2 x s t h1 h2)
  clear h1 h2
  go_enter Tryd.func37, Tryd.ntmps37
  go_wp2_with fail
  obtain ⟨W, hW⟩ : ∃ W, W = (((w.alloc (.cells #[.int .i64 k1, .int .i64 x, .string s] 31)).alloc (.cells #[.int .i64 k2, .int .i64 0, .string t] 31)).alloc (.cells #[.int .i64 0, .int .i64 0, .string ⟨#[]⟩] 31)) := ⟨_, rfl⟩
  have hs0 := heap_alloc_new w (.cells #[.int .i64 k1, .int .i64 x, .string s] 31)
  have hs1 := heap_alloc_new (w.alloc (.cells #[.int .i64 k1, .int .i64 x, .string s] 31)) (.cells #[.int .i64 k2, .int .i64 0, .string t] 31)
  rw [World.size_alloc] at hs1
  have hs2 := heap_alloc_new ((w.alloc (.cells #[.int .i64 k1, .int .i64 x, .string s] 31)).alloc (.cells #[.int .i64 k2, .int .i64 0, .string t] 31)) (.cells #[.int .i64 0, .int .i64 0, .string ⟨#[]⟩] 31)
  rw [World.size_alloc, World.size_alloc] at hs2
  have hS0 : W.heap[w.heap.size]? = some (.cells #[.int .i64 k1, .int .i64 x, .string s] 31 (0, 0)) := by rw [hW]; exact (Below.heap_alloc _ _ _ (by simp; try omega)).trans ((Below.heap_alloc _ _ _ (by simp; try omega)).trans (hs0))
  have hS1 : W.heap[w.heap.size + 1]? = some (.cells #[.int .i64 k2, .int .i64 0, .string t] 31 (0, 0)) := by rw [hW]; exact (Below.heap_alloc _ _ _ (by simp; try omega)).trans (hs1)
  have hR : W.heap[w.heap.size + 1 + 1]? = some (.cells #[.int .i64 0, .int .i64 0, .string ⟨#[]⟩] 31 (0, 0)) := by rw [hW]; exact hs2
  have hsW : W.heap.size = w.heap.size + 3 := by rw [hW]; simp
  have hbW : Below w.heap.size w W := by rw [hW]; exact (((Below.refl _ _).alloc (Nat.le_refl _) _).alloc (by simp; try omega) _).alloc (by simp; try omega) _
  rw [← hW]
  clear hW hs0 hs1 hs2
  refine (C.out W).mono ?_
  rintro e w1 ⟨rfl, hb1⟩
  have hs1 := hb1.size
  have hR6 := (hb1.block (w.heap.size + 1 + 1) (by omega)).trans hR
  have hb6 := hbW.trans (hb1.mono hbW.size)
  clear hS0 hS1 hR
  obtain ⟨r0, r1, r2, z0, z1, z2⟩ := val3 hR6
  go_wp2
  have hz := val_store (x := .int .i64 4) (y := .int .i64 3) (z := .string ⟨#[]⟩) hR6
  obtain ⟨q0, q1, q2, _⟩ := val3 hz
  refine bodyPost_ret (v := .agg #[.int .i64 4, .int .i64 3, .string ⟨#[]⟩]) ?_ rfl ?_
  · simp [results, Tryd.f37, go_sem, q0, q1, q2]
  · exact ⟨rfl, ((hb6.setCell (p := ⟨w.heap.size + 1 + 1, 0, none⟩) (by show w.heap.size ≤ w.heap.size + 1 + 1; omega) _).setCell (p := ⟨w.heap.size + 1 + 1, 1, none⟩) (by show w.heap.size ≤ w.heap.size + 1 + 1; omega) _).setCell (p := ⟨w.heap.size + 1 + 1, 2, none⟩) (by show w.heap.size ≤ w.heap.size + 1 + 1; omega) _⟩
set_option maxRecDepth 100000 in
set_option maxHeartbeats 2000000 in
theorem two_other (w : World) (kind k1 k2 x y : Int) (s t : ByteArray) (hk1 : k1 ≠ 4) (hk2 : k2 ≠ 4) (hkind : kind < 9 ∨ 19 < kind) :
    Calls Tryd.prog 37 #[.int .i64 kind, .agg #[.int .i64 k1, .int .i64 x, .string s], .agg #[.int .i64 k2, .int .i64 y, .string t]] w fun e w' => e = .returned (.agg #[.int .i64 4, .int .i64 1, .string ⟨#[]⟩]) ∧ Below w.heap.size w w' := by
  have a1 : (k1 == 4) = false := by simpa using hk1
  have a2 : decide (k1 = 4) = false := decide_eq_false hk1
  have a3 : (k2 == 4) = false := by simpa using hk2
  have a4 : decide (k2 = 4) = false := decide_eq_false hk2
  have n9 : (kind == 9) = false := by rw [beq_eq_false_iff_ne]; omega
  have n10 : (kind == 10) = false := by rw [beq_eq_false_iff_ne]; omega
  have n11 : (kind == 11) = false := by rw [beq_eq_false_iff_ne]; omega
  have n12 : (kind == 12) = false := by rw [beq_eq_false_iff_ne]; omega
  have n13 : (kind == 13) = false := by rw [beq_eq_false_iff_ne]; omega
  have n14 : (kind == 14) = false := by rw [beq_eq_false_iff_ne]; omega
  have n15 : (kind == 15) = false := by rw [beq_eq_false_iff_ne]; omega
  have n16 : (kind == 16) = false := by rw [beq_eq_false_iff_ne]; omega
  have n17 : (kind == 17) = false := by rw [beq_eq_false_iff_ne]; omega
  have n18 : (kind == 18) = false := by rw [beq_eq_false_iff_ne]; omega
  have n19 : (kind == 19) = false := by rw [beq_eq_false_iff_ne]; omega
  clear hkind
  go_enter Tryd.func37, Tryd.ntmps37
  go_wp2_with fail
  obtain ⟨W, hW⟩ : ∃ W, W = (((w.alloc (.cells #[.int .i64 k1, .int .i64 x, .string s] 31)).alloc (.cells #[.int .i64 k2, .int .i64 y, .string t] 31)).alloc (.cells #[.int .i64 0, .int .i64 0, .string ⟨#[]⟩] 31)) := ⟨_, rfl⟩
  have hs0 := heap_alloc_new w (.cells #[.int .i64 k1, .int .i64 x, .string s] 31)
  have hs1 := heap_alloc_new (w.alloc (.cells #[.int .i64 k1, .int .i64 x, .string s] 31)) (.cells #[.int .i64 k2, .int .i64 y, .string t] 31)
  rw [World.size_alloc] at hs1
  have hs2 := heap_alloc_new ((w.alloc (.cells #[.int .i64 k1, .int .i64 x, .string s] 31)).alloc (.cells #[.int .i64 k2, .int .i64 y, .string t] 31)) (.cells #[.int .i64 0, .int .i64 0, .string ⟨#[]⟩] 31)
  rw [World.size_alloc, World.size_alloc] at hs2
  have hS0 : W.heap[w.heap.size]? = some (.cells #[.int .i64 k1, .int .i64 x, .string s] 31 (0, 0)) := by rw [hW]; exact (Below.heap_alloc _ _ _ (by simp; try omega)).trans ((Below.heap_alloc _ _ _ (by simp; try omega)).trans (hs0))
  have hS1 : W.heap[w.heap.size + 1]? = some (.cells #[.int .i64 k2, .int .i64 y, .string t] 31 (0, 0)) := by rw [hW]; exact (Below.heap_alloc _ _ _ (by simp; try omega)).trans (hs1)
  have hR : W.heap[w.heap.size + 1 + 1]? = some (.cells #[.int .i64 0, .int .i64 0, .string ⟨#[]⟩] 31 (0, 0)) := by rw [hW]; exact hs2
  have hsW : W.heap.size = w.heap.size + 3 := by rw [hW]; simp
  have hbW : Below w.heap.size w W := by rw [hW]; exact (((Below.refl _ _).alloc (Nat.le_refl _) _).alloc (by simp; try omega) _).alloc (by simp; try omega) _
  rw [← hW]
  clear hW hs0 hs1 hs2
  refine (err_any W 1).mono ?_
  rintro e w1 ⟨rfl, hb1⟩
  have hs1 := hb1.size
  have hR6 := (hb1.block (w.heap.size + 1 + 1) (by omega)).trans hR
  have hb6 := hbW.trans (hb1.mono hbW.size)
  clear hS0 hS1 hR
  obtain ⟨r0, r1, r2, z0, z1, z2⟩ := val3 hR6
  go_wp2
  have hz := val_store (x := .int .i64 4) (y := .int .i64 1) (z := .string ⟨#[]⟩) hR6
  obtain ⟨q0, q1, q2, _⟩ := val3 hz
  refine bodyPost_ret (v := .agg #[.int .i64 4, .int .i64 1, .string ⟨#[]⟩]) ?_ rfl ?_
  · simp [results, Tryd.f37, go_sem, q0, q1, q2]
  · exact ⟨rfl, ((hb6.setCell (p := ⟨w.heap.size + 1 + 1, 0, none⟩) (by show w.heap.size ≤ w.heap.size + 1 + 1; omega) _).setCell (p := ⟨w.heap.size + 1 + 1, 1, none⟩) (by show w.heap.size ≤ w.heap.size + 1 + 1; omega) _).setCell (p := ⟨w.heap.size + 1 + 1, 2, none⟩) (by show w.heap.size ≤ w.heap.size + 1 + 1; omega) _⟩
end Go.Proofs.YtcbaioagcemmnaaDoor
