/- The walk of val.numbers at two numbers. Written by valnumgen.py. -/
import Derived.Test.YtcbaioagcemmnaaDoorVal
namespace Go.Proofs.YtcbaioagcemmnaaDoor
open Go.RowKit Go.Maps

theorem val3 {w1 : World} {g : Nat} {a b c : Value} {t : TypeId} (z : w1.heap[g]? = some (.cells #[a, b, c] t (0, 0))) :
    w1.cell? ⟨g, 0, none⟩ = some a ∧ w1.cell? ⟨g, 1, none⟩ = some b ∧ w1.cell? ⟨g, 2, none⟩ = some c ∧ w1.frozen? ⟨g, 0, none⟩ = false ∧ w1.frozen? ⟨g, 1, none⟩ = false ∧ w1.frozen? ⟨g, 2, none⟩ = false :=
  ⟨by simp [World.cell?, z], by simp [World.cell?, z], by simp [World.cell?, z], by simp [World.frozen?, z], by simp [World.frozen?, z], by simp [World.frozen?, z]⟩
theorem val_store {W : World} {O : Nat} {a b c x y z : Value} (h : W.heap[O]? = some (.cells #[a, b, c] 31 (0, 0))) : (((W.setCell ⟨O, 0, none⟩ x).setCell ⟨O, 1, none⟩ y).setCell ⟨O, 2, none⟩ z).heap[O]? = some (.cells #[x, y, z] 31 (0, 0)) := by
  simp [World.setCell, Array.getElem?_modify, h]
theorem grown_blk {w w' : World} {b g : Nat} {o : Obj} (h : w.grownBy w' (some b)) (hg : w.heap[g]? = some o) (hne : g ≠ b) : w'.heap[g]? = some o :=
  (h.block g (Array.getElem?_eq_some_iff.1 hg).1 (fun e => hne (Option.some.inj e))).trans hg
theorem below_map {B b : Nat} {w0 w w' : World} (hb : Below B w0 w) (h : w.grownBy w' (some b)) (hB : B ≤ b) (hs : B ≤ w.heap.size) : Below B w0 w' := hb.grown h hs fun k hk => by injection hk with hk; omega

set_option maxRecDepth 100000 in
theorem valInt_int (w : World) (x : Int) (s : ByteArray) : Calls Tryd.prog 45 #[.agg #[.int .i64 1, .int .i64 x, .string s]] w fun e w' => e = .returned (.tuple #[.int .i64 x, .bool true]) ∧ Below w.heap.size w w' := by
  go_enter Tryd.func45, Tryd.ntmps45
  go_wp2
  go_ret2
  exact ⟨rfl, (Below.refl _ _).alloc (Nat.le_refl _) _⟩
/-- what counts as a number -/
def KNum (k x : Int) : Prop := k = 1 ∨ (k = 0 ∧ x = 0)
theorem valInt_num (w : World) (k x : Int) (s : ByteArray) (hk : KNum k x) : Calls Tryd.prog 45 #[.agg #[.int .i64 k, .int .i64 x, .string s]] w fun e w' => e = .returned (.tuple #[.int .i64 x, .bool true]) ∧ Below w.heap.size w w' := by
  rcases hk with rfl | ⟨rfl, rfl⟩
  · exact valInt_int w x s
  · go_enter Tryd.func45, Tryd.ntmps45
    go_wp2
    go_ret2
    exact ⟨rfl, (Below.refl _ _).alloc (Nat.le_refl _) _⟩
set_option maxRecDepth 100000 in
theorem valInt_bad (w : World) (k x : Int) (s : ByteArray) (h0 : k ≠ 0) (h1 : k ≠ 1) : Calls Tryd.prog 45 #[.agg #[.int .i64 k, .int .i64 x, .string s]] w fun e w' => e = .returned (.tuple #[.int .i64 0, .bool false]) ∧ Below w.heap.size w w' := by
  have a1 : (k == 0) = false := by simpa using h0
  have a2 : decide (k = 0) = false := decide_eq_false h0
  have a3 : (k == 1) = false := by simpa using h1
  have a4 : decide (k = 1) = false := decide_eq_false h1
  go_enter Tryd.func45, Tryd.ntmps45
  go_wp2
  go_ret2
  exact ⟨rfl, (Below.refl _ _).alloc (Nat.le_refl _) _⟩
/-- a value made by Num, Err -/
theorem num_any (w : World) (x : Int) : Calls Tryd.prog 36 #[.int .i64 x] w fun e w' => e = .returned (.agg #[.int .i64 1, .int .i64 x, .string ⟨#[]⟩]) ∧ Below w.heap.size w w' := by
  go_enter Tryd.func36, Tryd.ntmps36
  go_wp2
  refine bodyPost_ret (v := .agg #[.int .i64 1, .int .i64 x, .string ⟨#[]⟩]) ?_ rfl ?_
  · simp [results, Tryd.f36, go_sem]
  · exact ⟨rfl, (Below.refl _ _).alloc (Nat.le_refl _) _⟩
theorem err_any (w : World) (x : Int) : Calls Tryd.prog 16 #[.int .i64 x] w fun e w' => e = .returned (.agg #[.int .i64 4, .int .i64 x, .string ⟨#[]⟩]) ∧ Below w.heap.size w w' := by
  go_enter Tryd.func16, Tryd.ntmps16
  go_wp2
  refine bodyPost_ret (v := .agg #[.int .i64 4, .int .i64 x, .string ⟨#[]⟩]) ?_ rfl ?_
  · simp [results, Tryd.f16, go_sem]
  · exact ⟨rfl, (Below.refl _ _).alloc (Nat.le_refl _) _⟩

def NumRes (ok : Bool) (r : Int) : Value := if ok then .agg #[.int .i64 1, .int .i64 r, .string ⟨#[]⟩] else .agg #[.int .i64 4, .int .i64 2, .string ⟨#[]⟩]

set_option maxRecDepth 100000 in
set_option maxHeartbeats 2000000 in
theorem numbers_add (w : World) (k1 k2 x y r : Int) (s t : ByteArray) (ok : Bool) (hk1 : KNum k1 x) (hk2 : KNum k2 y)
    (hc : ∀ W : World, Calls Tryd.prog 53 #[.agg #[.int .i64 x, .int .i64 y]] W fun e w' => e = .returned (.tuple #[.int .i64 r, .bool ok]) ∧ Below W.heap.size W w') :
    Calls Tryd.prog 50 #[.int .i64 16, .agg #[.int .i64 k1, .int .i64 x, .string s], .agg #[.int .i64 k2, .int .i64 y, .string t]] w fun e w' => e = .returned (NumRes ok r) ∧ Below w.heap.size w w' := by
  have hmm := @run_makeMap Tryd.prog
  have HC := Lib.hid hc
  have HK1 := Lib.hid hk1
  have HK2 := Lib.hid hk2
  clear hc hk1 hk2
  go_enter Tryd.func50, Tryd.ntmps50
  go_wp2_with fail
  obtain ⟨W, hW⟩ : ∃ W, W = (((w.alloc (.cells #[.int .i64 k1, .int .i64 x, .string s] 31)).alloc (.cells #[.int .i64 k2, .int .i64 y, .string t] 31)).alloc (.cells #[.int .i64 0, .int .i64 0, .string ⟨#[]⟩] 31)) := ⟨_, rfl⟩
  have hs0 := heap_alloc_new w (.cells #[.int .i64 k1, .int .i64 x, .string s] 31)
  have hs1 := heap_alloc_new (w.alloc (.cells #[.int .i64 k1, .int .i64 x, .string s] 31)) (.cells #[.int .i64 k2, .int .i64 y, .string t] 31)
  rw [World.size_alloc] at hs1
  have hs2 := heap_alloc_new ((w.alloc (.cells #[.int .i64 k1, .int .i64 x, .string s] 31)).alloc (.cells #[.int .i64 k2, .int .i64 y, .string t] 31)) (.cells #[.int .i64 0, .int .i64 0, .string ⟨#[]⟩] 31)
  rw [World.size_alloc, World.size_alloc] at hs2
  have hS0 : W.heap[w.heap.size]? = some (.cells #[.int .i64 k1, .int .i64 x, .string s] 31 (0, 0)) := by rw [hW]; exact (Below.heap_alloc _ _ _ (by simp; try omega)).trans ((Below.heap_alloc _ _ _ (by simp; try omega)).trans (hs0))
  have hS1 : W.heap[w.heap.size + 1]? = some (.cells #[.int .i64 k2, .int .i64 y, .string t] 31 (0, 0)) := by rw [hW]; exact (Below.heap_alloc _ _ _ (by simp; try omega)).trans (hs1)
  have hR : W.heap[w.heap.size + 1 + 1]? = some (.cells #[.int .i64 0, .int .i64 0, .string ⟨#[]⟩] 31 (0, 0)) := by rw [hW]; exact hs2
  have hsW : W.heap.size = w.heap.size + 3 := by rw [hW]; simp
  have hbW : Below w.heap.size w W := by rw [hW]; exact (((Below.refl _ _).alloc (Nat.le_refl _) _).alloc (by simp; try omega) _).alloc (by simp; try omega) _
  rw [← hW]
  clear hW hs0 hs1 hs2
  refine (valInt_num W k1 x s HK1.out).mono ?_
  rintro e w1 ⟨rfl, hb1⟩
  have hs1 := hb1.size
  obtain ⟨a0, a1, a2, _⟩ := val3 ((hb1.block (w.heap.size + 1) (by omega)).trans hS1)
  go_wp2_with fail
  refine (valInt_num w1 k2 y t HK2.out).mono ?_
  rintro e w2 ⟨rfl, hb2⟩
  have hb3 := hb1.trans (hb2.mono hs1)
  have hs3 := hb3.size
  have hRR := (hb3.block (w.heap.size + 1 + 1) (by omega)).trans hR
  have hbw := hbW.trans (hb3.mono hbW.size)
  clear a0 a1 a2 hb1 hb2 hb3 hS0 hS1 hR hbW
  obtain ⟨B, hBe⟩ : ∃ B, w2.heap.size = B := ⟨_, rfl⟩
  have hown0 : (w2.alloc (.map #[] 0)).ownsMap Tryd.prog 3 FR B 0 (.map []) := by rw [← hBe]; exact World.ownsMap_made _ _ _ _
  have hR0 : (w2.alloc (.map #[] 0)).heap[w.heap.size + 1 + 1]? = some (.cells #[.int .i64 0, .int .i64 0, .string ⟨#[]⟩] 31 (0, 0)) := (Below.heap_alloc _ _ _ (by omega)).trans hRR
  have hb0 : Below w.heap.size w (w2.alloc (.map #[] 0)) := hbw.alloc (by omega) _
  have hz0 : w.heap.size ≤ (w2.alloc (.map #[] 0)).heap.size := by simp; omega
  have hBR : w.heap.size + 1 + 1 ≠ B ∧ w.heap.size ≤ B := by omega
  clear hRR hbw
  go_wp2_with (first | (refine wpList_insert_own _ rfl _ _ _ 75 rfl 3 71 keyInt Tryd.underlying75 FR B 0 _ (by first | rfl | simp [hBe]) hown0 (by unfold maxLen; omega) _ _ (.int .i64 16) rfl rfl (keyOfInt _ rfl) (.lit (.int .i64 53)) [] rfl ?_; intro w11 hown1 hgr1) | (refine wpList_insert_own _ rfl _ _ _ 75 rfl 3 71 keyInt Tryd.underlying75 FR B 1 _ (by first | rfl | simp [hBe]) hown1 (by unfold maxLen; omega) _ _ (.int .i64 17) rfl rfl (keyOfInt _ rfl) (.lit (.int .i64 54)) [] rfl ?_; intro w12 hown2 hgr2) | (refine wpList_insert_own _ rfl _ _ _ 75 rfl 3 71 keyInt Tryd.underlying75 FR B 2 _ (by first | rfl | simp [hBe]) hown2 (by unfold maxLen; omega) _ _ (.int .i64 18) rfl rfl (keyOfInt _ rfl) (.lit (.int .i64 55)) [] rfl ?_; intro w13 hown3 hgr3) | (refine wpList_insert_own _ rfl _ _ _ 75 rfl 3 71 keyInt Tryd.underlying75 FR B 3 _ (by first | rfl | simp [hBe]) hown3 (by unfold maxLen; omega) _ _ (.int .i64 19) rfl rfl (keyOfInt _ rfl) (.lit (.int .i64 56)) [] rfl ?_; intro w14 hown4 hgr4) | (at_lookup; refine wpList_lookup_own _ rfl _ _ 75 rfl 3 71 keyInt Tryd.underlying75 FR (zeroFn _) rfl B 4 _ (by first | rfl | simp [hBe]) hown4 _ (.int .i64 16) rfl (keyOfInt _ rfl) ?_; intro vf psf hvf; have hvf2 : FR vf = some (.lit (.int .i64 53), psf) := (by rw [← opTab16]; exact hvf); obtain rfl := FR_inv hvf2))
  refine (HC.out _).mono ?_
  rintro e wn ⟨rfl, hbn⟩
  have hR4 := grown_blk hgr4 (grown_blk hgr3 (grown_blk hgr2 (grown_blk hgr1 hR0 hBR.1) hBR.1) hBR.1) hBR.1
  have hb4 := below_map (below_map (below_map (below_map hb0 hgr1 hBR.2 hz0) hgr2 hBR.2 (Nat.le_trans hz0 hgr1.size)) hgr3 hBR.2 (Nat.le_trans hz0 (Nat.le_trans hgr1.size hgr2.size))) hgr4 hBR.2 (Nat.le_trans hz0 (Nat.le_trans hgr1.size (Nat.le_trans hgr2.size hgr3.size)))
  have hb5 := hb4.trans (hbn.mono hb4.size)
  have hR5 := (hbn.block _ (Array.getElem?_eq_some_iff.1 hR4).1).trans hR4
  obtain ⟨r0, r1, r2, z0, z1, z2⟩ := val3 hR5
  clear hown0 hown1 hown2 hown3 hown4 hgr1 hgr2 hgr3 hgr4 hvf hvf2 hR4 hb4 hR0 hb0 hbn
  cases ok with
  | true =>
    go_wp2_with fail
    refine (num_any _ r).mono ?_
    rintro e wm ⟨rfl, hbm⟩
    have hR6 := (hbm.block _ (Array.getElem?_eq_some_iff.1 hR5).1).trans hR5
    have hb6 := hb5.trans (hbm.mono hb5.size)
    clear r0 r1 r2 z0 z1 z2
    obtain ⟨r0, r1, r2, z0, z1, z2⟩ := val3 hR6
    go_wp2
    have hz := val_store (x := .int .i64 1) (y := .int .i64 r) (z := .string ⟨#[]⟩) hR6
    obtain ⟨q0, q1, q2, _⟩ := val3 hz
    refine bodyPost_ret (v := .agg #[.int .i64 1, .int .i64 r, .string ⟨#[]⟩]) ?_ rfl ?_
    · simp [results, Tryd.f50, go_sem, q0, q1, q2]
    · exact ⟨rfl, ((hb6.setCell (p := ⟨w.heap.size + 1 + 1, 0, none⟩) (by show w.heap.size ≤ w.heap.size + 1 + 1; omega) _).setCell (p := ⟨w.heap.size + 1 + 1, 1, none⟩) (by show w.heap.size ≤ w.heap.size + 1 + 1; omega) _).setCell (p := ⟨w.heap.size + 1 + 1, 2, none⟩) (by show w.heap.size ≤ w.heap.size + 1 + 1; omega) _⟩
  | false =>
    go_wp2_with fail
    refine (err_any _ 2).mono ?_
    rintro e wm ⟨rfl, hbm⟩
    have hR6 := (hbm.block _ (Array.getElem?_eq_some_iff.1 hR5).1).trans hR5
    have hb6 := hb5.trans (hbm.mono hb5.size)
    clear r0 r1 r2 z0 z1 z2
    obtain ⟨r0, r1, r2, z0, z1, z2⟩ := val3 hR6
    go_wp2
    have hz := val_store (x := .int .i64 4) (y := .int .i64 2) (z := .string ⟨#[]⟩) hR6
    obtain ⟨q0, q1, q2, _⟩ := val3 hz
    refine bodyPost_ret (v := .agg #[.int .i64 4, .int .i64 2, .string ⟨#[]⟩]) ?_ rfl ?_
    · simp [results, Tryd.f50, go_sem, q0, q1, q2]
    · exact ⟨rfl, ((hb6.setCell (p := ⟨w.heap.size + 1 + 1, 0, none⟩) (by show w.heap.size ≤ w.heap.size + 1 + 1; omega) _).setCell (p := ⟨w.heap.size + 1 + 1, 1, none⟩) (by show w.heap.size ≤ w.heap.size + 1 + 1; omega) _).setCell (p := ⟨w.heap.size + 1 + 1, 2, none⟩) (by show w.heap.size ≤ w.heap.size + 1 + 1; omega) _⟩

set_option maxRecDepth 100000 in
set_option maxHeartbeats 2000000 in
theorem numbers_sub (w : World) (k1 k2 x y r : Int) (s t : ByteArray) (ok : Bool) (hk1 : KNum k1 x) (hk2 : KNum k2 y)
    (hc : ∀ W : World, Calls Tryd.prog 54 #[.agg #[.int .i64 x, .int .i64 y]] W fun e w' => e = .returned (.tuple #[.int .i64 r, .bool ok]) ∧ Below W.heap.size W w') :
    Calls Tryd.prog 50 #[.int .i64 17, .agg #[.int .i64 k1, .int .i64 x, .string s], .agg #[.int .i64 k2, .int .i64 y, .string t]] w fun e w' => e = .returned (NumRes ok r) ∧ Below w.heap.size w w' := by
  have hmm := @run_makeMap Tryd.prog
  have HC := Lib.hid hc
  have HK1 := Lib.hid hk1
  have HK2 := Lib.hid hk2
  clear hc hk1 hk2
  go_enter Tryd.func50, Tryd.ntmps50
  go_wp2_with fail
  obtain ⟨W, hW⟩ : ∃ W, W = (((w.alloc (.cells #[.int .i64 k1, .int .i64 x, .string s] 31)).alloc (.cells #[.int .i64 k2, .int .i64 y, .string t] 31)).alloc (.cells #[.int .i64 0, .int .i64 0, .string ⟨#[]⟩] 31)) := ⟨_, rfl⟩
  have hs0 := heap_alloc_new w (.cells #[.int .i64 k1, .int .i64 x, .string s] 31)
  have hs1 := heap_alloc_new (w.alloc (.cells #[.int .i64 k1, .int .i64 x, .string s] 31)) (.cells #[.int .i64 k2, .int .i64 y, .string t] 31)
  rw [World.size_alloc] at hs1
  have hs2 := heap_alloc_new ((w.alloc (.cells #[.int .i64 k1, .int .i64 x, .string s] 31)).alloc (.cells #[.int .i64 k2, .int .i64 y, .string t] 31)) (.cells #[.int .i64 0, .int .i64 0, .string ⟨#[]⟩] 31)
  rw [World.size_alloc, World.size_alloc] at hs2
  have hS0 : W.heap[w.heap.size]? = some (.cells #[.int .i64 k1, .int .i64 x, .string s] 31 (0, 0)) := by rw [hW]; exact (Below.heap_alloc _ _ _ (by simp; try omega)).trans ((Below.heap_alloc _ _ _ (by simp; try omega)).trans (hs0))
  have hS1 : W.heap[w.heap.size + 1]? = some (.cells #[.int .i64 k2, .int .i64 y, .string t] 31 (0, 0)) := by rw [hW]; exact (Below.heap_alloc _ _ _ (by simp; try omega)).trans (hs1)
  have hR : W.heap[w.heap.size + 1 + 1]? = some (.cells #[.int .i64 0, .int .i64 0, .string ⟨#[]⟩] 31 (0, 0)) := by rw [hW]; exact hs2
  have hsW : W.heap.size = w.heap.size + 3 := by rw [hW]; simp
  have hbW : Below w.heap.size w W := by rw [hW]; exact (((Below.refl _ _).alloc (Nat.le_refl _) _).alloc (by simp; try omega) _).alloc (by simp; try omega) _
  rw [← hW]
  clear hW hs0 hs1 hs2
  refine (valInt_num W k1 x s HK1.out).mono ?_
  rintro e w1 ⟨rfl, hb1⟩
  have hs1 := hb1.size
  obtain ⟨a0, a1, a2, _⟩ := val3 ((hb1.block (w.heap.size + 1) (by omega)).trans hS1)
  go_wp2_with fail
  refine (valInt_num w1 k2 y t HK2.out).mono ?_
  rintro e w2 ⟨rfl, hb2⟩
  have hb3 := hb1.trans (hb2.mono hs1)
  have hs3 := hb3.size
  have hRR := (hb3.block (w.heap.size + 1 + 1) (by omega)).trans hR
  have hbw := hbW.trans (hb3.mono hbW.size)
  clear a0 a1 a2 hb1 hb2 hb3 hS0 hS1 hR hbW
  obtain ⟨B, hBe⟩ : ∃ B, w2.heap.size = B := ⟨_, rfl⟩
  have hown0 : (w2.alloc (.map #[] 0)).ownsMap Tryd.prog 3 FR B 0 (.map []) := by rw [← hBe]; exact World.ownsMap_made _ _ _ _
  have hR0 : (w2.alloc (.map #[] 0)).heap[w.heap.size + 1 + 1]? = some (.cells #[.int .i64 0, .int .i64 0, .string ⟨#[]⟩] 31 (0, 0)) := (Below.heap_alloc _ _ _ (by omega)).trans hRR
  have hb0 : Below w.heap.size w (w2.alloc (.map #[] 0)) := hbw.alloc (by omega) _
  have hz0 : w.heap.size ≤ (w2.alloc (.map #[] 0)).heap.size := by simp; omega
  have hBR : w.heap.size + 1 + 1 ≠ B ∧ w.heap.size ≤ B := by omega
  clear hRR hbw
  go_wp2_with (first | (refine wpList_insert_own _ rfl _ _ _ 75 rfl 3 71 keyInt Tryd.underlying75 FR B 0 _ (by first | rfl | simp [hBe]) hown0 (by unfold maxLen; omega) _ _ (.int .i64 16) rfl rfl (keyOfInt _ rfl) (.lit (.int .i64 53)) [] rfl ?_; intro w11 hown1 hgr1) | (refine wpList_insert_own _ rfl _ _ _ 75 rfl 3 71 keyInt Tryd.underlying75 FR B 1 _ (by first | rfl | simp [hBe]) hown1 (by unfold maxLen; omega) _ _ (.int .i64 17) rfl rfl (keyOfInt _ rfl) (.lit (.int .i64 54)) [] rfl ?_; intro w12 hown2 hgr2) | (refine wpList_insert_own _ rfl _ _ _ 75 rfl 3 71 keyInt Tryd.underlying75 FR B 2 _ (by first | rfl | simp [hBe]) hown2 (by unfold maxLen; omega) _ _ (.int .i64 18) rfl rfl (keyOfInt _ rfl) (.lit (.int .i64 55)) [] rfl ?_; intro w13 hown3 hgr3) | (refine wpList_insert_own _ rfl _ _ _ 75 rfl 3 71 keyInt Tryd.underlying75 FR B 3 _ (by first | rfl | simp [hBe]) hown3 (by unfold maxLen; omega) _ _ (.int .i64 19) rfl rfl (keyOfInt _ rfl) (.lit (.int .i64 56)) [] rfl ?_; intro w14 hown4 hgr4) | (at_lookup; refine wpList_lookup_own _ rfl _ _ 75 rfl 3 71 keyInt Tryd.underlying75 FR (zeroFn _) rfl B 4 _ (by first | rfl | simp [hBe]) hown4 _ (.int .i64 17) rfl (keyOfInt _ rfl) ?_; intro vf psf hvf; have hvf2 : FR vf = some (.lit (.int .i64 54), psf) := (by rw [← opTab17]; exact hvf); obtain rfl := FR_inv hvf2))
  refine (HC.out _).mono ?_
  rintro e wn ⟨rfl, hbn⟩
  have hR4 := grown_blk hgr4 (grown_blk hgr3 (grown_blk hgr2 (grown_blk hgr1 hR0 hBR.1) hBR.1) hBR.1) hBR.1
  have hb4 := below_map (below_map (below_map (below_map hb0 hgr1 hBR.2 hz0) hgr2 hBR.2 (Nat.le_trans hz0 hgr1.size)) hgr3 hBR.2 (Nat.le_trans hz0 (Nat.le_trans hgr1.size hgr2.size))) hgr4 hBR.2 (Nat.le_trans hz0 (Nat.le_trans hgr1.size (Nat.le_trans hgr2.size hgr3.size)))
  have hb5 := hb4.trans (hbn.mono hb4.size)
  have hR5 := (hbn.block _ (Array.getElem?_eq_some_iff.1 hR4).1).trans hR4
  obtain ⟨r0, r1, r2, z0, z1, z2⟩ := val3 hR5
  clear hown0 hown1 hown2 hown3 hown4 hgr1 hgr2 hgr3 hgr4 hvf hvf2 hR4 hb4 hR0 hb0 hbn
  cases ok with
  | true =>
    go_wp2_with fail
    refine (num_any _ r).mono ?_
    rintro e wm ⟨rfl, hbm⟩
    have hR6 := (hbm.block _ (Array.getElem?_eq_some_iff.1 hR5).1).trans hR5
    have hb6 := hb5.trans (hbm.mono hb5.size)
    clear r0 r1 r2 z0 z1 z2
    obtain ⟨r0, r1, r2, z0, z1, z2⟩ := val3 hR6
    go_wp2
    have hz := val_store (x := .int .i64 1) (y := .int .i64 r) (z := .string ⟨#[]⟩) hR6
    obtain ⟨q0, q1, q2, _⟩ := val3 hz
    refine bodyPost_ret (v := .agg #[.int .i64 1, .int .i64 r, .string ⟨#[]⟩]) ?_ rfl ?_
    · simp [results, Tryd.f50, go_sem, q0, q1, q2]
    · exact ⟨rfl, ((hb6.setCell (p := ⟨w.heap.size + 1 + 1, 0, none⟩) (by show w.heap.size ≤ w.heap.size + 1 + 1; omega) _).setCell (p := ⟨w.heap.size + 1 + 1, 1, none⟩) (by show w.heap.size ≤ w.heap.size + 1 + 1; omega) _).setCell (p := ⟨w.heap.size + 1 + 1, 2, none⟩) (by show w.heap.size ≤ w.heap.size + 1 + 1; omega) _⟩
  | false =>
    go_wp2_with fail
    refine (err_any _ 2).mono ?_
    rintro e wm ⟨rfl, hbm⟩
    have hR6 := (hbm.block _ (Array.getElem?_eq_some_iff.1 hR5).1).trans hR5
    have hb6 := hb5.trans (hbm.mono hb5.size)
    clear r0 r1 r2 z0 z1 z2
    obtain ⟨r0, r1, r2, z0, z1, z2⟩ := val3 hR6
    go_wp2
    have hz := val_store (x := .int .i64 4) (y := .int .i64 2) (z := .string ⟨#[]⟩) hR6
    obtain ⟨q0, q1, q2, _⟩ := val3 hz
    refine bodyPost_ret (v := .agg #[.int .i64 4, .int .i64 2, .string ⟨#[]⟩]) ?_ rfl ?_
    · simp [results, Tryd.f50, go_sem, q0, q1, q2]
    · exact ⟨rfl, ((hb6.setCell (p := ⟨w.heap.size + 1 + 1, 0, none⟩) (by show w.heap.size ≤ w.heap.size + 1 + 1; omega) _).setCell (p := ⟨w.heap.size + 1 + 1, 1, none⟩) (by show w.heap.size ≤ w.heap.size + 1 + 1; omega) _).setCell (p := ⟨w.heap.size + 1 + 1, 2, none⟩) (by show w.heap.size ≤ w.heap.size + 1 + 1; omega) _⟩

set_option maxRecDepth 100000 in
set_option maxHeartbeats 2000000 in
theorem numbers_mul (w : World) (k1 k2 x y r : Int) (s t : ByteArray) (ok : Bool) (hk1 : KNum k1 x) (hk2 : KNum k2 y)
    (hc : ∀ W : World, Calls Tryd.prog 55 #[.agg #[.int .i64 x, .int .i64 y]] W fun e w' => e = .returned (.tuple #[.int .i64 r, .bool ok]) ∧ Below W.heap.size W w') :
    Calls Tryd.prog 50 #[.int .i64 18, .agg #[.int .i64 k1, .int .i64 x, .string s], .agg #[.int .i64 k2, .int .i64 y, .string t]] w fun e w' => e = .returned (NumRes ok r) ∧ Below w.heap.size w w' := by
  have hmm := @run_makeMap Tryd.prog
  have HC := Lib.hid hc
  have HK1 := Lib.hid hk1
  have HK2 := Lib.hid hk2
  clear hc hk1 hk2
  go_enter Tryd.func50, Tryd.ntmps50
  go_wp2_with fail
  obtain ⟨W, hW⟩ : ∃ W, W = (((w.alloc (.cells #[.int .i64 k1, .int .i64 x, .string s] 31)).alloc (.cells #[.int .i64 k2, .int .i64 y, .string t] 31)).alloc (.cells #[.int .i64 0, .int .i64 0, .string ⟨#[]⟩] 31)) := ⟨_, rfl⟩
  have hs0 := heap_alloc_new w (.cells #[.int .i64 k1, .int .i64 x, .string s] 31)
  have hs1 := heap_alloc_new (w.alloc (.cells #[.int .i64 k1, .int .i64 x, .string s] 31)) (.cells #[.int .i64 k2, .int .i64 y, .string t] 31)
  rw [World.size_alloc] at hs1
  have hs2 := heap_alloc_new ((w.alloc (.cells #[.int .i64 k1, .int .i64 x, .string s] 31)).alloc (.cells #[.int .i64 k2, .int .i64 y, .string t] 31)) (.cells #[.int .i64 0, .int .i64 0, .string ⟨#[]⟩] 31)
  rw [World.size_alloc, World.size_alloc] at hs2
  have hS0 : W.heap[w.heap.size]? = some (.cells #[.int .i64 k1, .int .i64 x, .string s] 31 (0, 0)) := by rw [hW]; exact (Below.heap_alloc _ _ _ (by simp; try omega)).trans ((Below.heap_alloc _ _ _ (by simp; try omega)).trans (hs0))
  have hS1 : W.heap[w.heap.size + 1]? = some (.cells #[.int .i64 k2, .int .i64 y, .string t] 31 (0, 0)) := by rw [hW]; exact (Below.heap_alloc _ _ _ (by simp; try omega)).trans (hs1)
  have hR : W.heap[w.heap.size + 1 + 1]? = some (.cells #[.int .i64 0, .int .i64 0, .string ⟨#[]⟩] 31 (0, 0)) := by rw [hW]; exact hs2
  have hsW : W.heap.size = w.heap.size + 3 := by rw [hW]; simp
  have hbW : Below w.heap.size w W := by rw [hW]; exact (((Below.refl _ _).alloc (Nat.le_refl _) _).alloc (by simp; try omega) _).alloc (by simp; try omega) _
  rw [← hW]
  clear hW hs0 hs1 hs2
  refine (valInt_num W k1 x s HK1.out).mono ?_
  rintro e w1 ⟨rfl, hb1⟩
  have hs1 := hb1.size
  obtain ⟨a0, a1, a2, _⟩ := val3 ((hb1.block (w.heap.size + 1) (by omega)).trans hS1)
  go_wp2_with fail
  refine (valInt_num w1 k2 y t HK2.out).mono ?_
  rintro e w2 ⟨rfl, hb2⟩
  have hb3 := hb1.trans (hb2.mono hs1)
  have hs3 := hb3.size
  have hRR := (hb3.block (w.heap.size + 1 + 1) (by omega)).trans hR
  have hbw := hbW.trans (hb3.mono hbW.size)
  clear a0 a1 a2 hb1 hb2 hb3 hS0 hS1 hR hbW
  obtain ⟨B, hBe⟩ : ∃ B, w2.heap.size = B := ⟨_, rfl⟩
  have hown0 : (w2.alloc (.map #[] 0)).ownsMap Tryd.prog 3 FR B 0 (.map []) := by rw [← hBe]; exact World.ownsMap_made _ _ _ _
  have hR0 : (w2.alloc (.map #[] 0)).heap[w.heap.size + 1 + 1]? = some (.cells #[.int .i64 0, .int .i64 0, .string ⟨#[]⟩] 31 (0, 0)) := (Below.heap_alloc _ _ _ (by omega)).trans hRR
  have hb0 : Below w.heap.size w (w2.alloc (.map #[] 0)) := hbw.alloc (by omega) _
  have hz0 : w.heap.size ≤ (w2.alloc (.map #[] 0)).heap.size := by simp; omega
  have hBR : w.heap.size + 1 + 1 ≠ B ∧ w.heap.size ≤ B := by omega
  clear hRR hbw
  go_wp2_with (first | (refine wpList_insert_own _ rfl _ _ _ 75 rfl 3 71 keyInt Tryd.underlying75 FR B 0 _ (by first | rfl | simp [hBe]) hown0 (by unfold maxLen; omega) _ _ (.int .i64 16) rfl rfl (keyOfInt _ rfl) (.lit (.int .i64 53)) [] rfl ?_; intro w11 hown1 hgr1) | (refine wpList_insert_own _ rfl _ _ _ 75 rfl 3 71 keyInt Tryd.underlying75 FR B 1 _ (by first | rfl | simp [hBe]) hown1 (by unfold maxLen; omega) _ _ (.int .i64 17) rfl rfl (keyOfInt _ rfl) (.lit (.int .i64 54)) [] rfl ?_; intro w12 hown2 hgr2) | (refine wpList_insert_own _ rfl _ _ _ 75 rfl 3 71 keyInt Tryd.underlying75 FR B 2 _ (by first | rfl | simp [hBe]) hown2 (by unfold maxLen; omega) _ _ (.int .i64 18) rfl rfl (keyOfInt _ rfl) (.lit (.int .i64 55)) [] rfl ?_; intro w13 hown3 hgr3) | (refine wpList_insert_own _ rfl _ _ _ 75 rfl 3 71 keyInt Tryd.underlying75 FR B 3 _ (by first | rfl | simp [hBe]) hown3 (by unfold maxLen; omega) _ _ (.int .i64 19) rfl rfl (keyOfInt _ rfl) (.lit (.int .i64 56)) [] rfl ?_; intro w14 hown4 hgr4) | (at_lookup; refine wpList_lookup_own _ rfl _ _ 75 rfl 3 71 keyInt Tryd.underlying75 FR (zeroFn _) rfl B 4 _ (by first | rfl | simp [hBe]) hown4 _ (.int .i64 18) rfl (keyOfInt _ rfl) ?_; intro vf psf hvf; have hvf2 : FR vf = some (.lit (.int .i64 55), psf) := (by rw [← opTab18]; exact hvf); obtain rfl := FR_inv hvf2))
  refine (HC.out _).mono ?_
  rintro e wn ⟨rfl, hbn⟩
  have hR4 := grown_blk hgr4 (grown_blk hgr3 (grown_blk hgr2 (grown_blk hgr1 hR0 hBR.1) hBR.1) hBR.1) hBR.1
  have hb4 := below_map (below_map (below_map (below_map hb0 hgr1 hBR.2 hz0) hgr2 hBR.2 (Nat.le_trans hz0 hgr1.size)) hgr3 hBR.2 (Nat.le_trans hz0 (Nat.le_trans hgr1.size hgr2.size))) hgr4 hBR.2 (Nat.le_trans hz0 (Nat.le_trans hgr1.size (Nat.le_trans hgr2.size hgr3.size)))
  have hb5 := hb4.trans (hbn.mono hb4.size)
  have hR5 := (hbn.block _ (Array.getElem?_eq_some_iff.1 hR4).1).trans hR4
  obtain ⟨r0, r1, r2, z0, z1, z2⟩ := val3 hR5
  clear hown0 hown1 hown2 hown3 hown4 hgr1 hgr2 hgr3 hgr4 hvf hvf2 hR4 hb4 hR0 hb0 hbn
  cases ok with
  | true =>
    go_wp2_with fail
    refine (num_any _ r).mono ?_
    rintro e wm ⟨rfl, hbm⟩
    have hR6 := (hbm.block _ (Array.getElem?_eq_some_iff.1 hR5).1).trans hR5
    have hb6 := hb5.trans (hbm.mono hb5.size)
    clear r0 r1 r2 z0 z1 z2
    obtain ⟨r0, r1, r2, z0, z1, z2⟩ := val3 hR6
    go_wp2
    have hz := val_store (x := .int .i64 1) (y := .int .i64 r) (z := .string ⟨#[]⟩) hR6
    obtain ⟨q0, q1, q2, _⟩ := val3 hz
    refine bodyPost_ret (v := .agg #[.int .i64 1, .int .i64 r, .string ⟨#[]⟩]) ?_ rfl ?_
    · simp [results, Tryd.f50, go_sem, q0, q1, q2]
    · exact ⟨rfl, ((hb6.setCell (p := ⟨w.heap.size + 1 + 1, 0, none⟩) (by show w.heap.size ≤ w.heap.size + 1 + 1; omega) _).setCell (p := ⟨w.heap.size + 1 + 1, 1, none⟩) (by show w.heap.size ≤ w.heap.size + 1 + 1; omega) _).setCell (p := ⟨w.heap.size + 1 + 1, 2, none⟩) (by show w.heap.size ≤ w.heap.size + 1 + 1; omega) _⟩
  | false =>
    go_wp2_with fail
    refine (err_any _ 2).mono ?_
    rintro e wm ⟨rfl, hbm⟩
    have hR6 := (hbm.block _ (Array.getElem?_eq_some_iff.1 hR5).1).trans hR5
    have hb6 := hb5.trans (hbm.mono hb5.size)
    clear r0 r1 r2 z0 z1 z2
    obtain ⟨r0, r1, r2, z0, z1, z2⟩ := val3 hR6
    go_wp2
    have hz := val_store (x := .int .i64 4) (y := .int .i64 2) (z := .string ⟨#[]⟩) hR6
    obtain ⟨q0, q1, q2, _⟩ := val3 hz
    refine bodyPost_ret (v := .agg #[.int .i64 4, .int .i64 2, .string ⟨#[]⟩]) ?_ rfl ?_
    · simp [results, Tryd.f50, go_sem, q0, q1, q2]
    · exact ⟨rfl, ((hb6.setCell (p := ⟨w.heap.size + 1 + 1, 0, none⟩) (by show w.heap.size ≤ w.heap.size + 1 + 1; omega) _).setCell (p := ⟨w.heap.size + 1 + 1, 1, none⟩) (by show w.heap.size ≤ w.heap.size + 1 + 1; omega) _).setCell (p := ⟨w.heap.size + 1 + 1, 2, none⟩) (by show w.heap.size ≤ w.heap.size + 1 + 1; omega) _⟩

set_option maxRecDepth 100000 in
set_option maxHeartbeats 2000000 in
theorem numbers_div (w : World) (k1 k2 x y r : Int) (s t : ByteArray) (ok : Bool) (hk1 : KNum k1 x) (hk2 : KNum k2 y) (hy0 : y ≠ 0)
    (hc : ∀ W : World, Calls Tryd.prog 56 #[.agg #[.int .i64 x, .int .i64 y]] W fun e w' => e = .returned (.tuple #[.int .i64 r, .bool ok]) ∧ Below W.heap.size W w') :
    Calls Tryd.prog 50 #[.int .i64 19, .agg #[.int .i64 k1, .int .i64 x, .string s], .agg #[.int .i64 k2, .int .i64 y, .string t]] w fun e w' => e = .returned (NumRes ok r) ∧ Below w.heap.size w w' := by
  have hmm := @run_makeMap Tryd.prog
  have HC := Lib.hid hc
  have HK1 := Lib.hid hk1
  have HK2 := Lib.hid hk2
  clear hc hk1 hk2
  go_enter Tryd.func50, Tryd.ntmps50
  go_wp2_with fail
  obtain ⟨W, hW⟩ : ∃ W, W = (((w.alloc (.cells #[.int .i64 k1, .int .i64 x, .string s] 31)).alloc (.cells #[.int .i64 k2, .int .i64 y, .string t] 31)).alloc (.cells #[.int .i64 0, .int .i64 0, .string ⟨#[]⟩] 31)) := ⟨_, rfl⟩
  have hs0 := heap_alloc_new w (.cells #[.int .i64 k1, .int .i64 x, .string s] 31)
  have hs1 := heap_alloc_new (w.alloc (.cells #[.int .i64 k1, .int .i64 x, .string s] 31)) (.cells #[.int .i64 k2, .int .i64 y, .string t] 31)
  rw [World.size_alloc] at hs1
  have hs2 := heap_alloc_new ((w.alloc (.cells #[.int .i64 k1, .int .i64 x, .string s] 31)).alloc (.cells #[.int .i64 k2, .int .i64 y, .string t] 31)) (.cells #[.int .i64 0, .int .i64 0, .string ⟨#[]⟩] 31)
  rw [World.size_alloc, World.size_alloc] at hs2
  have hS0 : W.heap[w.heap.size]? = some (.cells #[.int .i64 k1, .int .i64 x, .string s] 31 (0, 0)) := by rw [hW]; exact (Below.heap_alloc _ _ _ (by simp; try omega)).trans ((Below.heap_alloc _ _ _ (by simp; try omega)).trans (hs0))
  have hS1 : W.heap[w.heap.size + 1]? = some (.cells #[.int .i64 k2, .int .i64 y, .string t] 31 (0, 0)) := by rw [hW]; exact (Below.heap_alloc _ _ _ (by simp; try omega)).trans (hs1)
  have hR : W.heap[w.heap.size + 1 + 1]? = some (.cells #[.int .i64 0, .int .i64 0, .string ⟨#[]⟩] 31 (0, 0)) := by rw [hW]; exact hs2
  have hsW : W.heap.size = w.heap.size + 3 := by rw [hW]; simp
  have hbW : Below w.heap.size w W := by rw [hW]; exact (((Below.refl _ _).alloc (Nat.le_refl _) _).alloc (by simp; try omega) _).alloc (by simp; try omega) _
  rw [← hW]
  clear hW hs0 hs1 hs2
  refine (valInt_num W k1 x s HK1.out).mono ?_
  rintro e w1 ⟨rfl, hb1⟩
  have hs1 := hb1.size
  obtain ⟨a0, a1, a2, _⟩ := val3 ((hb1.block (w.heap.size + 1) (by omega)).trans hS1)
  go_wp2_with fail
  refine (valInt_num w1 k2 y t HK2.out).mono ?_
  rintro e w2 ⟨rfl, hb2⟩
  have hb3 := hb1.trans (hb2.mono hs1)
  have hs3 := hb3.size
  have hRR := (hb3.block (w.heap.size + 1 + 1) (by omega)).trans hR
  have hbw := hbW.trans (hb3.mono hbW.size)
  clear a0 a1 a2 hb1 hb2 hb3 hS0 hS1 hR hbW
  obtain ⟨B, hBe⟩ : ∃ B, w2.heap.size = B := ⟨_, rfl⟩
  have hown0 : (w2.alloc (.map #[] 0)).ownsMap Tryd.prog 3 FR B 0 (.map []) := by rw [← hBe]; exact World.ownsMap_made _ _ _ _
  have hR0 : (w2.alloc (.map #[] 0)).heap[w.heap.size + 1 + 1]? = some (.cells #[.int .i64 0, .int .i64 0, .string ⟨#[]⟩] 31 (0, 0)) := (Below.heap_alloc _ _ _ (by omega)).trans hRR
  have hb0 : Below w.heap.size w (w2.alloc (.map #[] 0)) := hbw.alloc (by omega) _
  have hz0 : w.heap.size ≤ (w2.alloc (.map #[] 0)).heap.size := by simp; omega
  have hBR : w.heap.size + 1 + 1 ≠ B ∧ w.heap.size ≤ B := by omega
  clear hRR hbw
  have hyd : decide (y = 0) = false := decide_eq_false hy0
  go_wp2_with (first | (refine wpList_insert_own _ rfl _ _ _ 75 rfl 3 71 keyInt Tryd.underlying75 FR B 0 _ (by first | rfl | simp [hBe]) hown0 (by unfold maxLen; omega) _ _ (.int .i64 16) rfl rfl (keyOfInt _ rfl) (.lit (.int .i64 53)) [] rfl ?_; intro w11 hown1 hgr1) | (refine wpList_insert_own _ rfl _ _ _ 75 rfl 3 71 keyInt Tryd.underlying75 FR B 1 _ (by first | rfl | simp [hBe]) hown1 (by unfold maxLen; omega) _ _ (.int .i64 17) rfl rfl (keyOfInt _ rfl) (.lit (.int .i64 54)) [] rfl ?_; intro w12 hown2 hgr2) | (refine wpList_insert_own _ rfl _ _ _ 75 rfl 3 71 keyInt Tryd.underlying75 FR B 2 _ (by first | rfl | simp [hBe]) hown2 (by unfold maxLen; omega) _ _ (.int .i64 18) rfl rfl (keyOfInt _ rfl) (.lit (.int .i64 55)) [] rfl ?_; intro w13 hown3 hgr3) | (refine wpList_insert_own _ rfl _ _ _ 75 rfl 3 71 keyInt Tryd.underlying75 FR B 3 _ (by first | rfl | simp [hBe]) hown3 (by unfold maxLen; omega) _ _ (.int .i64 19) rfl rfl (keyOfInt _ rfl) (.lit (.int .i64 56)) [] rfl ?_; intro w14 hown4 hgr4) | (at_lookup; refine wpList_lookup_own _ rfl _ _ 75 rfl 3 71 keyInt Tryd.underlying75 FR (zeroFn _) rfl B 4 _ (by first | rfl | simp [hBe]) hown4 _ (.int .i64 19) rfl (keyOfInt _ rfl) ?_; intro vf psf hvf; have hvf2 : FR vf = some (.lit (.int .i64 56), psf) := (by rw [← opTab19]; exact hvf); obtain rfl := FR_inv hvf2))
  refine (HC.out _).mono ?_
  rintro e wn ⟨rfl, hbn⟩
  have hR4 := grown_blk hgr4 (grown_blk hgr3 (grown_blk hgr2 (grown_blk hgr1 hR0 hBR.1) hBR.1) hBR.1) hBR.1
  have hb4 := below_map (below_map (below_map (below_map hb0 hgr1 hBR.2 hz0) hgr2 hBR.2 (Nat.le_trans hz0 hgr1.size)) hgr3 hBR.2 (Nat.le_trans hz0 (Nat.le_trans hgr1.size hgr2.size))) hgr4 hBR.2 (Nat.le_trans hz0 (Nat.le_trans hgr1.size (Nat.le_trans hgr2.size hgr3.size)))
  have hb5 := hb4.trans (hbn.mono hb4.size)
  have hR5 := (hbn.block _ (Array.getElem?_eq_some_iff.1 hR4).1).trans hR4
  obtain ⟨r0, r1, r2, z0, z1, z2⟩ := val3 hR5
  clear hown0 hown1 hown2 hown3 hown4 hgr1 hgr2 hgr3 hgr4 hvf hvf2 hR4 hb4 hR0 hb0 hbn
  cases ok with
  | true =>
    go_wp2_with fail
    refine (num_any _ r).mono ?_
    rintro e wm ⟨rfl, hbm⟩
    have hR6 := (hbm.block _ (Array.getElem?_eq_some_iff.1 hR5).1).trans hR5
    have hb6 := hb5.trans (hbm.mono hb5.size)
    clear r0 r1 r2 z0 z1 z2
    obtain ⟨r0, r1, r2, z0, z1, z2⟩ := val3 hR6
    go_wp2
    have hz := val_store (x := .int .i64 1) (y := .int .i64 r) (z := .string ⟨#[]⟩) hR6
    obtain ⟨q0, q1, q2, _⟩ := val3 hz
    refine bodyPost_ret (v := .agg #[.int .i64 1, .int .i64 r, .string ⟨#[]⟩]) ?_ rfl ?_
    · simp [results, Tryd.f50, go_sem, q0, q1, q2]
    · exact ⟨rfl, ((hb6.setCell (p := ⟨w.heap.size + 1 + 1, 0, none⟩) (by show w.heap.size ≤ w.heap.size + 1 + 1; omega) _).setCell (p := ⟨w.heap.size + 1 + 1, 1, none⟩) (by show w.heap.size ≤ w.heap.size + 1 + 1; omega) _).setCell (p := ⟨w.heap.size + 1 + 1, 2, none⟩) (by show w.heap.size ≤ w.heap.size + 1 + 1; omega) _⟩
  | false =>
    go_wp2_with fail
    refine (err_any _ 2).mono ?_
    rintro e wm ⟨rfl, hbm⟩
    have hR6 := (hbm.block _ (Array.getElem?_eq_some_iff.1 hR5).1).trans hR5
    have hb6 := hb5.trans (hbm.mono hb5.size)
    clear r0 r1 r2 z0 z1 z2
    obtain ⟨r0, r1, r2, z0, z1, z2⟩ := val3 hR6
    go_wp2
    have hz := val_store (x := .int .i64 4) (y := .int .i64 2) (z := .string ⟨#[]⟩) hR6
    obtain ⟨q0, q1, q2, _⟩ := val3 hz
    refine bodyPost_ret (v := .agg #[.int .i64 4, .int .i64 2, .string ⟨#[]⟩]) ?_ rfl ?_
    · simp [results, Tryd.f50, go_sem, q0, q1, q2]
    · exact ⟨rfl, ((hb6.setCell (p := ⟨w.heap.size + 1 + 1, 0, none⟩) (by show w.heap.size ≤ w.heap.size + 1 + 1; omega) _).setCell (p := ⟨w.heap.size + 1 + 1, 1, none⟩) (by show w.heap.size ≤ w.heap.size + 1 + 1; omega) _).setCell (p := ⟨w.heap.size + 1 + 1, 2, none⟩) (by show w.heap.size ≤ w.heap.size + 1 + 1; omega) _⟩
end Go.Proofs.YtcbaioagcemmnaaDoor
