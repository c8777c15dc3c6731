/- The walks of val.Two at two numbers and at errors, of val.Neg at errors. Written by valtwogen.py. -/
import Derived.Test.YtcbaioagcemmnaaDoorValNum
namespace Go.Proofs.YtcbaioagcemmnaaDoor
open Go.RowKit Go.Maps

set_option maxRecDepth 100000 in
set_option maxHeartbeats 2000000 in
theorem two_add (w : World) (k1 k2 x y r : Int) (s t : ByteArray) (ok : Bool) (hk1 : KNum k1 x) (hk2 : KNum k2 y)
    (hc : ∀ W : World, Calls Tryd.prog 53 #[.agg #[.int .i64 x, .int .i64 y]] W fun e w' => e = .returned (.tuple #[.int .i64 r, .bool ok]) ∧ Below W.heap.size W w') :
    Calls Tryd.prog 37 #[.int .i64 16, .agg #[.int .i64 k1, .int .i64 x, .string s], .agg #[.int .i64 k2, .int .i64 y, .string t]] w fun e w' => e = .returned (NumRes ok r) ∧ Below w.heap.size w w' := by
  have HC := Lib.hid hc
  have a1 : (k1 == 4) = false := by rcases hk1 with rfl | ⟨rfl, _⟩ <;> rfl
  have a2 : decide (k1 = 4) = false := by rcases hk1 with rfl | ⟨rfl, _⟩ <;> rfl
  have a3 : (k2 == 4) = false := by rcases hk2 with rfl | ⟨rfl, _⟩ <;> rfl
  have a4 : decide (k2 = 4) = false := by rcases hk2 with rfl | ⟨rfl, _⟩ <;> rfl
  have HK1 := Lib.hid hk1
  have HK2 := Lib.hid hk2
  clear hc hk1 hk2
  go_enter Tryd.func37, Tryd.ntmps37
  go_wp2_with fail
  obtain ⟨W, hW⟩ : ∃ W, W = (((w.alloc (.cells #[.int .i64 k1, .int .i64 x, .string s] 31)).alloc (.cells #[.int .i64 k2, .int .i64 y, .string t] 31)).alloc (.cells #[.int .i64 0, .int .i64 0, .string ⟨#[]⟩] 31)) := ⟨_, rfl⟩
  have hs0 := heap_alloc_new w (.cells #[.int .i64 k1, .int .i64 x, .string s] 31)
  have hs1 := heap_alloc_new (w.alloc (.cells #[.int .i64 k1, .int .i64 x, .string s] 31)) (.cells #[.int .i64 k2, .int .i64 y, .string t] 31)
  rw [World.size_alloc] at hs1
  have hs2 := heap_alloc_new ((w.alloc (.cells #[.int .i64 k1, .int .i64 x, .string s] 31)).alloc (.cells #[.int .i64 k2, .int .i64 y, .string t] 31)) (.cells #[.int .i64 0, .int .i64 0, .string ⟨#[]⟩] 31)
  rw [World.size_alloc, World.size_alloc] at hs2
  have hS0 : W.heap[w.heap.size]? = some (.cells #[.int .i64 k1, .int .i64 x, .string s] 31 (0, 0)) := by rw [hW]; exact (Below.heap_alloc _ _ _ (by simp; try omega)).trans ((Below.heap_alloc _ _ _ (by simp; try omega)).trans (hs0))
  have hS1 : W.heap[w.heap.size + 1]? = some (.cells #[.int .i64 k2, .int .i64 y, .string t] 31 (0, 0)) := by rw [hW]; exact (Below.heap_alloc _ _ _ (by simp; try omega)).trans (hs1)
  have hR : W.heap[w.heap.size + 1 + 1]? = some (.cells #[.int .i64 0, .int .i64 0, .string ⟨#[]⟩] 31 (0, 0)) := by rw [hW]; exact hs2
  have hsW : W.heap.size = w.heap.size + 3 := by rw [hW]; simp
  have hbW : Below w.heap.size w W := by rw [hW]; exact (((Below.refl _ _).alloc (Nat.le_refl _) _).alloc (by simp; try omega) _).alloc (by simp; try omega) _
  rw [← hW]
  clear hW hs0 hs1 hs2
  refine (numbers_add W k1 k2 x y r s t ok HK1.out HK2.out HC.out).mono ?_
  rintro e w1 ⟨rfl, hb1⟩
  have hs1 := hb1.size
  have hR6 := (hb1.block (w.heap.size + 1 + 1) (by omega)).trans hR
  have hb6 := hbW.trans (hb1.mono hbW.size)
  clear hS0 hS1 hR
  cases ok with
  | true =>
    have hn : NumRes true r = .agg #[.int .i64 1, .int .i64 r, .string ⟨#[]⟩] := rfl
    rw [hn]
    obtain ⟨r0, r1, r2, z0, z1, z2⟩ := val3 hR6
    go_wp2
    have hz := val_store (x := .int .i64 1) (y := .int .i64 r) (z := .string ⟨#[]⟩) hR6
    obtain ⟨q0, q1, q2, _⟩ := val3 hz
    refine bodyPost_ret (v := .agg #[.int .i64 1, .int .i64 r, .string ⟨#[]⟩]) ?_ rfl ?_
    · simp [results, Tryd.f37, go_sem, q0, q1, q2]
    · exact ⟨rfl, ((hb6.setCell (p := ⟨w.heap.size + 1 + 1, 0, none⟩) (by show w.heap.size ≤ w.heap.size + 1 + 1; omega) _).setCell (p := ⟨w.heap.size + 1 + 1, 1, none⟩) (by show w.heap.size ≤ w.heap.size + 1 + 1; omega) _).setCell (p := ⟨w.heap.size + 1 + 1, 2, none⟩) (by show w.heap.size ≤ w.heap.size + 1 + 1; omega) _⟩
  | false =>
    have hn : NumRes false r = .agg #[.int .i64 4, .int .i64 2, .string ⟨#[]⟩] := rfl
    rw [hn]
    obtain ⟨r0, r1, r2, z0, z1, z2⟩ := val3 hR6
    go_wp2
    have hz := val_store (x := .int .i64 4) (y := .int .i64 2) (z := .string ⟨#[]⟩) hR6
    obtain ⟨q0, q1, q2, _⟩ := val3 hz
    refine bodyPost_ret (v := .agg #[.int .i64 4, .int .i64 2, .string ⟨#[]⟩]) ?_ rfl ?_
    · simp [results, Tryd.f37, go_sem, q0, q1, q2]
    · exact ⟨rfl, ((hb6.setCell (p := ⟨w.heap.size + 1 + 1, 0, none⟩) (by show w.heap.size ≤ w.heap.size + 1 + 1; omega) _).setCell (p := ⟨w.heap.size + 1 + 1, 1, none⟩) (by show w.heap.size ≤ w.heap.size + 1 + 1; omega) _).setCell (p := ⟨w.heap.size + 1 + 1, 2, none⟩) (by show w.heap.size ≤ w.heap.size + 1 + 1; omega) _⟩

set_option maxRecDepth 100000 in
set_option maxHeartbeats 2000000 in
theorem two_sub (w : World) (k1 k2 x y r : Int) (s t : ByteArray) (ok : Bool) (hk1 : KNum k1 x) (hk2 : KNum k2 y)
    (hc : ∀ W : World, Calls Tryd.prog 54 #[.agg #[.int .i64 x, .int .i64 y]] W fun e w' => e = .returned (.tuple #[.int .i64 r, .bool ok]) ∧ Below W.heap.size W w') :
    Calls Tryd.prog 37 #[.int .i64 17, .agg #[.int .i64 k1, .int .i64 x, .string s], .agg #[.int .i64 k2, .int .i64 y, .string t]] w fun e w' => e = .returned (NumRes ok r) ∧ Below w.heap.size w w' := by
  have HC := Lib.hid hc
  have a1 : (k1 == 4) = false := by rcases hk1 with rfl | ⟨rfl, _⟩ <;> rfl
  have a2 : decide (k1 = 4) = false := by rcases hk1 with rfl | ⟨rfl, _⟩ <;> rfl
  have a3 : (k2 == 4) = false := by rcases hk2 with rfl | ⟨rfl, _⟩ <;> rfl
  have a4 : decide (k2 = 4) = false := by rcases hk2 with rfl | ⟨rfl, _⟩ <;> rfl
  have HK1 := Lib.hid hk1
  have HK2 := Lib.hid hk2
  clear hc hk1 hk2
  go_enter Tryd.func37, Tryd.ntmps37
  go_wp2_with fail
  obtain ⟨W, hW⟩ : ∃ W, W = (((w.alloc (.cells #[.int .i64 k1, .int .i64 x, .string s] 31)).alloc (.cells #[.int .i64 k2, .int .i64 y, .string t] 31)).alloc (.cells #[.int .i64 0, .int .i64 0, .string ⟨#[]⟩] 31)) := ⟨_, rfl⟩
  have hs0 := heap_alloc_new w (.cells #[.int .i64 k1, .int .i64 x, .string s] 31)
  have hs1 := heap_alloc_new (w.alloc (.cells #[.int .i64 k1, .int .i64 x, .string s] 31)) (.cells #[.int .i64 k2, .int .i64 y, .string t] 31)
  rw [World.size_alloc] at hs1
  have hs2 := heap_alloc_new ((w.alloc (.cells #[.int .i64 k1, .int .i64 x, .string s] 31)).alloc (.cells #[.int .i64 k2, .int .i64 y, .string t] 31)) (.cells #[.int .i64 0, .int .i64 0, .string ⟨#[]⟩] 31)
  rw [World.size_alloc, World.size_alloc] at hs2
  have hS0 : W.heap[w.heap.size]? = some (.cells #[.int .i64 k1, .int .i64 x, .string s] 31 (0, 0)) := by rw [hW]; exact (Below.heap_alloc _ _ _ (by simp; try omega)).trans ((Below.heap_alloc _ _ _ (by simp; try omega)).trans (hs0))
  have hS1 : W.heap[w.heap.size + 1]? = some (.cells #[.int .i64 k2, .int .i64 y, .string t] 31 (0, 0)) := by rw [hW]; exact (Below.heap_alloc _ _ _ (by simp; try omega)).trans (hs1)
  have hR : W.heap[w.heap.size + 1 + 1]? = some (.cells #[.int .i64 0, .int .i64 0, .string ⟨#[]⟩] 31 (0, 0)) := by rw [hW]; exact hs2
  have hsW : W.heap.size = w.heap.size + 3 := by rw [hW]; simp
  have hbW : Below w.heap.size w W := by rw [hW]; exact (((Below.refl _ _).alloc (Nat.le_refl _) _).alloc (by simp; try omega) _).alloc (by simp; try omega) _
  rw [← hW]
  clear hW hs0 hs1 hs2
  refine (numbers_sub W k1 k2 x y r s t ok HK1.out HK2.out HC.out).mono ?_
  rintro e w1 ⟨rfl, hb1⟩
  have hs1 := hb1.size
  have hR6 := (hb1.block (w.heap.size + 1 + 1) (by omega)).trans hR
  have hb6 := hbW.trans (hb1.mono hbW.size)
  clear hS0 hS1 hR
  cases ok with
  | true =>
    have hn : NumRes true r = .agg #[.int .i64 1, .int .i64 r, .string ⟨#[]⟩] := rfl
    rw [hn]
    obtain ⟨r0, r1, r2, z0, z1, z2⟩ := val3 hR6
    go_wp2
    have hz := val_store (x := .int .i64 1) (y := .int .i64 r) (z := .string ⟨#[]⟩) hR6
    obtain ⟨q0, q1, q2, _⟩ := val3 hz
    refine bodyPost_ret (v := .agg #[.int .i64 1, .int .i64 r, .string ⟨#[]⟩]) ?_ rfl ?_
    · simp [results, Tryd.f37, go_sem, q0, q1, q2]
    · exact ⟨rfl, ((hb6.setCell (p := ⟨w.heap.size + 1 + 1, 0, none⟩) (by show w.heap.size ≤ w.heap.size + 1 + 1; omega) _).setCell (p := ⟨w.heap.size + 1 + 1, 1, none⟩) (by show w.heap.size ≤ w.heap.size + 1 + 1; omega) _).setCell (p := ⟨w.heap.size + 1 + 1, 2, none⟩) (by show w.heap.size ≤ w.heap.size + 1 + 1; omega) _⟩
  | false =>
    have hn : NumRes false r = .agg #[.int .i64 4, .int .i64 2, .string ⟨#[]⟩] := rfl
    rw [hn]
    obtain ⟨r0, r1, r2, z0, z1, z2⟩ := val3 hR6
    go_wp2
    have hz := val_store (x := .int .i64 4) (y := .int .i64 2) (z := .string ⟨#[]⟩) hR6
    obtain ⟨q0, q1, q2, _⟩ := val3 hz
    refine bodyPost_ret (v := .agg #[.int .i64 4, .int .i64 2, .string ⟨#[]⟩]) ?_ rfl ?_
    · simp [results, Tryd.f37, go_sem, q0, q1, q2]
    · exact ⟨rfl, ((hb6.setCell (p := ⟨w.heap.size + 1 + 1, 0, none⟩) (by show w.heap.size ≤ w.heap.size + 1 + 1; omega) _).setCell (p := ⟨w.heap.size + 1 + 1, 1, none⟩) (by show w.heap.size ≤ w.heap.size + 1 + 1; omega) _).setCell (p := ⟨w.heap.size + 1 + 1, 2, none⟩) (by show w.heap.size ≤ w.heap.size + 1 + 1; omega) _⟩

set_option maxRecDepth 100000 in
set_option maxHeartbeats 2000000 in
theorem two_mul (w : World) (k1 k2 x y r : Int) (s t : ByteArray) (ok : Bool) (hk1 : KNum k1 x) (hk2 : KNum k2 y)
    (hc : ∀ W : World, Calls Tryd.prog 55 #[.agg #[.int .i64 x, .int .i64 y]] W fun e w' => e = .returned (.tuple #[.int .i64 r, .bool ok]) ∧ Below W.heap.size W w') :
    Calls Tryd.prog 37 #[.int .i64 18, .agg #[.int .i64 k1, .int .i64 x, .string s], .agg #[.int .i64 k2, .int .i64 y, .string t]] w fun e w' => e = .returned (NumRes ok r) ∧ Below w.heap.size w w' := by
  have HC := Lib.hid hc
  have a1 : (k1 == 4) = false := by rcases hk1 with rfl | ⟨rfl, _⟩ <;> rfl
  have a2 : decide (k1 = 4) = false := by rcases hk1 with rfl | ⟨rfl, _⟩ <;> rfl
  have a3 : (k2 == 4) = false := by rcases hk2 with rfl | ⟨rfl, _⟩ <;> rfl
  have a4 : decide (k2 = 4) = false := by rcases hk2 with rfl | ⟨rfl, _⟩ <;> rfl
  have HK1 := Lib.hid hk1
  have HK2 := Lib.hid hk2
  clear hc hk1 hk2
  go_enter Tryd.func37, Tryd.ntmps37
  go_wp2_with fail
  obtain ⟨W, hW⟩ : ∃ W, W = (((w.alloc (.cells #[.int .i64 k1, .int .i64 x, .string s] 31)).alloc (.cells #[.int .i64 k2, .int .i64 y, .string t] 31)).alloc (.cells #[.int .i64 0, .int .i64 0, .string ⟨#[]⟩] 31)) := ⟨_, rfl⟩
  have hs0 := heap_alloc_new w (.cells #[.int .i64 k1, .int .i64 x, .string s] 31)
  have hs1 := heap_alloc_new (w.alloc (.cells #[.int .i64 k1, .int .i64 x, .string s] 31)) (.cells #[.int .i64 k2, .int .i64 y, .string t] 31)
  rw [World.size_alloc] at hs1
  have hs2 := heap_alloc_new ((w.alloc (.cells #[.int .i64 k1, .int .i64 x, .string s] 31)).alloc (.cells #[.int .i64 k2, .int .i64 y, .string t] 31)) (.cells #[.int .i64 0, .int .i64 0, .string ⟨#[]⟩] 31)
  rw [World.size_alloc, World.size_alloc] at hs2
  have hS0 : W.heap[w.heap.size]? = some (.cells #[.int .i64 k1, .int .i64 x, .string s] 31 (0, 0)) := by rw [hW]; exact (Below.heap_alloc _ _ _ (by simp; try omega)).trans ((Below.heap_alloc _ _ _ (by simp; try omega)).trans (hs0))
  have hS1 : W.heap[w.heap.size + 1]? = some (.cells #[.int .i64 k2, .int .i64 y, .string t] 31 (0, 0)) := by rw [hW]; exact (Below.heap_alloc _ _ _ (by simp; try omega)).trans (hs1)
  have hR : W.heap[w.heap.size + 1 + 1]? = some (.cells #[.int .i64 0, .int .i64 0, .string ⟨#[]⟩] 31 (0, 0)) := by rw [hW]; exact hs2
  have hsW : W.heap.size = w.heap.size + 3 := by rw [hW]; simp
  have hbW : Below w.heap.size w W := by rw [hW]; exact (((Below.refl _ _).alloc (Nat.le_refl _) _).alloc (by simp; try omega) _).alloc (by simp; try omega) _
  rw [← hW]
  clear hW hs0 hs1 hs2
  refine (numbers_mul W k1 k2 x y r s t ok HK1.out HK2.out HC.out).mono ?_
  rintro e w1 ⟨rfl, hb1⟩
  have hs1 := hb1.size
  have hR6 := (hb1.block (w.heap.size + 1 + 1) (by omega)).trans hR
  have hb6 := hbW.trans (hb1.mono hbW.size)
  clear hS0 hS1 hR
  cases ok with
  | true =>
    have hn : NumRes true r = .agg #[.int .i64 1, .int .i64 r, .string ⟨#[]⟩] := rfl
    rw [hn]
    obtain ⟨r0, r1, r2, z0, z1, z2⟩ := val3 hR6
    go_wp2
    have hz := val_store (x := .int .i64 1) (y := .int .i64 r) (z := .string ⟨#[]⟩) hR6
    obtain ⟨q0, q1, q2, _⟩ := val3 hz
    refine bodyPost_ret (v := .agg #[.int .i64 1, .int .i64 r, .string ⟨#[]⟩]) ?_ rfl ?_
    · simp [results, Tryd.f37, go_sem, q0, q1, q2]
    · exact ⟨rfl, ((hb6.setCell (p := ⟨w.heap.size + 1 + 1, 0, none⟩) (by show w.heap.size ≤ w.heap.size + 1 + 1; omega) _).setCell (p := ⟨w.heap.size + 1 + 1, 1, none⟩) (by show w.heap.size ≤ w.heap.size + 1 + 1; omega) _).setCell (p := ⟨w.heap.size + 1 + 1, 2, none⟩) (by show w.heap.size ≤ w.heap.size + 1 + 1; omega) _⟩
  | false =>
    have hn : NumRes false r = .agg #[.int .i64 4, .int .i64 2, .string ⟨#[]⟩] := rfl
    rw [hn]
    obtain ⟨r0, r1, r2, z0, z1, z2⟩ := val3 hR6
    go_wp2
    have hz := val_store (x := .int .i64 4) (y := .int .i64 2) (z := .string ⟨#[]⟩) hR6
    obtain ⟨q0, q1, q2, _⟩ := val3 hz
    refine bodyPost_ret (v := .agg #[.int .i64 4, .int .i64 2, .string ⟨#[]⟩]) ?_ rfl ?_
    · simp [results, Tryd.f37, go_sem, q0, q1, q2]
    · exact ⟨rfl, ((hb6.setCell (p := ⟨w.heap.size + 1 + 1, 0, none⟩) (by show w.heap.size ≤ w.heap.size + 1 + 1; omega) _).setCell (p := ⟨w.heap.size + 1 + 1, 1, none⟩) (by show w.heap.size ≤ w.heap.size + 1 + 1; omega) _).setCell (p := ⟨w.heap.size + 1 + 1, 2, none⟩) (by show w.heap.size ≤ w.heap.size + 1 + 1; omega) _⟩

set_option maxRecDepth 100000 in
set_option maxHeartbeats 2000000 in
theorem two_div (w : World) (k1 k2 x y r : Int) (s t : ByteArray) (ok : Bool) (hk1 : KNum k1 x) (hk2 : KNum k2 y) (hy0 : y ≠ 0)
    (hc : ∀ W : World, Calls Tryd.prog 56 #[.agg #[.int .i64 x, .int .i64 y]] W fun e w' => e = .returned (.tuple #[.int .i64 r, .bool ok]) ∧ Below W.heap.size W w') :
    Calls Tryd.prog 37 #[.int .i64 19, .agg #[.int .i64 k1, .int .i64 x, .string s], .agg #[.int .i64 k2, .int .i64 y, .string t]] w fun e w' => e = .returned (NumRes ok r) ∧ Below w.heap.size w w' := by
  have HC := Lib.hid hc
  have a1 : (k1 == 4) = false := by rcases hk1 with rfl | ⟨rfl, _⟩ <;> rfl
  have a2 : decide (k1 = 4) = false := by rcases hk1 with rfl | ⟨rfl, _⟩ <;> rfl
  have a3 : (k2 == 4) = false := by rcases hk2 with rfl | ⟨rfl, _⟩ <;> rfl
  have a4 : decide (k2 = 4) = false := by rcases hk2 with rfl | ⟨rfl, _⟩ <;> rfl
  have HK1 := Lib.hid hk1
  have HK2 := Lib.hid hk2
  clear hc hk1 hk2
  go_enter Tryd.func37, Tryd.ntmps37
  go_wp2_with fail
  obtain ⟨W, hW⟩ : ∃ W, W = (((w.alloc (.cells #[.int .i64 k1, .int .i64 x, .string s] 31)).alloc (.cells #[.int .i64 k2, .int .i64 y, .string t] 31)).alloc (.cells #[.int .i64 0, .int .i64 0, .string ⟨#[]⟩] 31)) := ⟨_, rfl⟩
  have hs0 := heap_alloc_new w (.cells #[.int .i64 k1, .int .i64 x, .string s] 31)
  have hs1 := heap_alloc_new (w.alloc (.cells #[.int .i64 k1, .int .i64 x, .string s] 31)) (.cells #[.int .i64 k2, .int .i64 y, .string t] 31)
  rw [World.size_alloc] at hs1
  have hs2 := heap_alloc_new ((w.alloc (.cells #[.int .i64 k1, .int .i64 x, .string s] 31)).alloc (.cells #[.int .i64 k2, .int .i64 y, .string t] 31)) (.cells #[.int .i64 0, .int .i64 0, .string ⟨#[]⟩] 31)
  rw [World.size_alloc, World.size_alloc] at hs2
  have hS0 : W.heap[w.heap.size]? = some (.cells #[.int .i64 k1, .int .i64 x, .string s] 31 (0, 0)) := by rw [hW]; exact (Below.heap_alloc _ _ _ (by simp; try omega)).trans ((Below.heap_alloc _ _ _ (by simp; try omega)).trans (hs0))
  have hS1 : W.heap[w.heap.size + 1]? = some (.cells #[.int .i64 k2, .int .i64 y, .string t] 31 (0, 0)) := by rw [hW]; exact (Below.heap_alloc _ _ _ (by simp; try omega)).trans (hs1)
  have hR : W.heap[w.heap.size + 1 + 1]? = some (.cells #[.int .i64 0, .int .i64 0, .string ⟨#[]⟩] 31 (0, 0)) := by rw [hW]; exact hs2
  have hsW : W.heap.size = w.heap.size + 3 := by rw [hW]; simp
  have hbW : Below w.heap.size w W := by rw [hW]; exact (((Below.refl _ _).alloc (Nat.le_refl _) _).alloc (by simp; try omega) _).alloc (by simp; try omega) _
  rw [← hW]
  clear hW hs0 hs1 hs2
  refine (numbers_div W k1 k2 x y r s t ok HK1.out HK2.out hy0 HC.out).mono ?_
  rintro e w1 ⟨rfl, hb1⟩
  have hs1 := hb1.size
  have hR6 := (hb1.block (w.heap.size + 1 + 1) (by omega)).trans hR
  have hb6 := hbW.trans (hb1.mono hbW.size)
  clear hS0 hS1 hR
  cases ok with
  | true =>
    have hn : NumRes true r = .agg #[.int .i64 1, .int .i64 r, .string ⟨#[]⟩] := rfl
    rw [hn]
    obtain ⟨r0, r1, r2, z0, z1, z2⟩ := val3 hR6
    go_wp2
    have hz := val_store (x := .int .i64 1) (y := .int .i64 r) (z := .string ⟨#[]⟩) hR6
    obtain ⟨q0, q1, q2, _⟩ := val3 hz
    refine bodyPost_ret (v := .agg #[.int .i64 1, .int .i64 r, .string ⟨#[]⟩]) ?_ rfl ?_
    · simp [results, Tryd.f37, go_sem, q0, q1, q2]
    · exact ⟨rfl, ((hb6.setCell (p := ⟨w.heap.size + 1 + 1, 0, none⟩) (by show w.heap.size ≤ w.heap.size + 1 + 1; omega) _).setCell (p := ⟨w.heap.size + 1 + 1, 1, none⟩) (by show w.heap.size ≤ w.heap.size + 1 + 1; omega) _).setCell (p := ⟨w.heap.size + 1 + 1, 2, none⟩) (by show w.heap.size ≤ w.heap.size + 1 + 1; omega) _⟩
  | false =>
    have hn : NumRes false r = .agg #[.int .i64 4, .int .i64 2, .string ⟨#[]⟩] := rfl
    rw [hn]
    obtain ⟨r0, r1, r2, z0, z1, z2⟩ := val3 hR6
    go_wp2
    have hz := val_store (x := .int .i64 4) (y := .int .i64 2) (z := .string ⟨#[]⟩) hR6
    obtain ⟨q0, q1, q2, _⟩ := val3 hz
    refine bodyPost_ret (v := .agg #[.int .i64 4, .int .i64 2, .string ⟨#[]⟩]) ?_ rfl ?_
    · simp [results, Tryd.f37, go_sem, q0, q1, q2]
    · exact ⟨rfl, ((hb6.setCell (p := ⟨w.heap.size + 1 + 1, 0, none⟩) (by show w.heap.size ≤ w.heap.size + 1 + 1; omega) _).setCell (p := ⟨w.heap.size + 1 + 1, 1, none⟩) (by show w.heap.size ≤ w.heap.size + 1 + 1; omega) _).setCell (p := ⟨w.heap.size + 1 + 1, 2, none⟩) (by show w.heap.size ≤ w.heap.size + 1 + 1; omega) _⟩

set_option maxRecDepth 100000 in
set_option maxHeartbeats 2000000 in
theorem two_errL (w : World) (kind n k2 n2 : Int) (s t : ByteArray) :
    Calls Tryd.prog 37 #[.int .i64 kind, .agg #[.int .i64 4, .int .i64 n, .string s], .agg #[.int .i64 k2, .int .i64 n2, .string t]] w fun e w' => e = .returned (.agg #[.int .i64 4, .int .i64 n, .string s]) ∧ Below w.heap.size w w' := by
  go_enter Tryd.func37, Tryd.ntmps37
  go_wp2
  refine bodyPost_ret (v := .agg #[.int .i64 4, .int .i64 n, .string s]) ?_ rfl ?_
  · simp [results, Tryd.f37, go_sem]
  · exact ⟨rfl, (((Below.refl _ _).alloc (Nat.le_refl _) _).alloc (by simp) _).alloc (by simp; omega) _⟩
set_option maxRecDepth 100000 in
set_option maxHeartbeats 2000000 in
theorem two_errR (w : World) (kind k1 n1 n : Int) (s t : ByteArray) (hk : k1 ≠ 4) :
    Calls Tryd.prog 37 #[.int .i64 kind, .agg #[.int .i64 k1, .int .i64 n1, .string s], .agg #[.int .i64 4, .int .i64 n, .string t]] w fun e w' => e = .returned (.agg #[.int .i64 4, .int .i64 n, .string t]) ∧ Below w.heap.size w w' := by
  have hk2 : (k1 == 4) = false := by simpa using hk
  have hk3 : decide (k1 = 4) = false := decide_eq_false hk
  go_enter Tryd.func37, Tryd.ntmps37
  go_wp2
  refine bodyPost_ret (v := .agg #[.int .i64 4, .int .i64 n, .string t]) ?_ rfl ?_
  · simp [results, Tryd.f37, go_sem]
  · exact ⟨rfl, (((Below.refl _ _).alloc (Nat.le_refl _) _).alloc (by simp) _).alloc (by simp; omega) _⟩
set_option maxRecDepth 100000 in
theorem neg_err (w : World) (n : Int) (s : ByteArray) :
    Calls Tryd.prog 46 #[.agg #[.int .i64 4, .int .i64 n, .string s]] w fun e w' => e = .returned (.agg #[.int .i64 4, .int .i64 n, .string s]) ∧ Below w.heap.size w w' := by
  go_enter Tryd.func46, Tryd.ntmps46
  go_wp2
  refine bodyPost_ret (v := .agg #[.int .i64 4, .int .i64 n, .string s]) ?_ rfl ?_
  · simp [results, Tryd.f46, go_sem]
  · exact ⟨rfl, ((Below.refl _ _).alloc (Nat.le_refl _) _).alloc (by simp) _⟩
end Go.Proofs.YtcbaioagcemmnaaDoor
