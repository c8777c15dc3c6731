/- val.Text, val.Str. Written by valtextgen.py. -/
import Derived.Test.YtcbaioagcemmnaaDoorValBad
import Derived.Test.YtcbaioagcemmnaaDoorValLoad
import Derived.Test.YtcbaioagcemmnaaDoorItoa
import Derived.Lib.AppendIntMem
import Derived.Lib.ItoaLen
namespace Go.Proofs.YtcbaioagcemmnaaDoor
open Go.RowKit Go.Maps
/-- the table that strconv reads -/
def Tab (w : World) : Prop := Lib.TabIs Tryd.prog w "internal/strconv.uint64pow10" .u64 Lib.pow10Tab
theorem Tab.on {w w' : World} (h : Tab w) (hb : Below w.heap.size w w') : Tab w' := Lib.tabBelow_of_tabIs h w' hb
def errText (n : Int) : ByteArray := if n = 1 then ⟨#[35, 86, 65, 76, 85, 69, 33]⟩ else if n = 2 then ⟨#[35, 78, 85, 77, 33]⟩ else if n = 3 then ⟨#[35, 68, 73, 86, 48, 33]⟩ else if n = 4 then ⟨#[35, 82, 69, 70, 33]⟩ else if n = 5 then ⟨#[35, 78, 65, 77, 69, 33]⟩ else if n = 6 then ⟨#[35, 67, 89, 67, 76, 69, 33]⟩ else ⟨#[]⟩
def vtext (v : V3) : ByteArray := if v.1 = 1 then ⟨(Lib.itoa v.2.1).toArray⟩ else if v.1 = 2 then v.2.2 else if v.1 = 3 then (if v.2.1 = 1 then ⟨#[84, 82, 85, 69]⟩ else ⟨#[70, 65, 76, 83, 69]⟩) else if v.1 = 4 then errText v.2.1 else ⟨#[]⟩
set_option maxRecDepth 100000 in
theorem text_num (w : World) (n : Int) (s : ByteArray) (hn : InR n) (ht : Tab w) : Calls Tryd.prog 47 #[.agg #[.int .i64 1, .int .i64 n, .string s]] w fun e w' => e = .returned (.string ⟨(Lib.itoa n).toArray⟩) ∧ Below w.heap.size w w' := by
  have C := Lib.hid (fun W (hW : Tab W) => itoa_any n hn.1 hn.2 W hW)
  have ht2 : Tab (w.alloc (.cells #[.int .i64 1, .int .i64 n, .string s] 31)) := ht.on ((Below.refl _ _).alloc (Nat.le_refl _) _)
  have HT := Lib.hid ht2
  clear ht ht2 hn
  go_enter Tryd.func47, Tryd.ntmps47
  go_wp2_with fail
  refine (C.out _ HT.out).mono ?_
  rintro e w1 ⟨rfl, k, os, rfl⟩
  have hb := ((Below.refl w.heap.size w).alloc (Nat.le_refl _) (.cells #[.int .i64 1, .int .i64 n, .string s] 31)).trans (Lib.below_grow w.heap.size (w.alloc (.cells #[.int .i64 1, .int .i64 n, .string s] 31)) (by simp) k os)
  go_wp2
  go_ret
  exact ⟨rfl, hb⟩
set_option maxRecDepth 100000 in
theorem text_str (w : World) (n : Int) (s : ByteArray) : Calls Tryd.prog 47 #[.agg #[.int .i64 2, .int .i64 n, .string s]] w fun e w' => e = .returned (.string s) ∧ Below w.heap.size w w' := by
  go_enter Tryd.func47, Tryd.ntmps47
  go_wp2
  go_ret
  exact ⟨rfl, (Below.refl _ _).alloc (Nat.le_refl _) _⟩
set_option maxRecDepth 100000 in
theorem text_true (w : World) (s : ByteArray) : Calls Tryd.prog 47 #[.agg #[.int .i64 3, .int .i64 1, .string s]] w fun e w' => e = .returned (.string ⟨#[84, 82, 85, 69]⟩) ∧ Below w.heap.size w w' := by
  go_enter Tryd.func47, Tryd.ntmps47
  go_wp2
  go_ret
  exact ⟨rfl, (Below.refl _ _).alloc (Nat.le_refl _) _⟩
set_option maxRecDepth 100000 in
theorem text_false (w : World) (n : Int) (s : ByteArray) (hn : n ≠ 1) : Calls Tryd.prog 47 #[.agg #[.int .i64 3, .int .i64 n, .string s]] w fun e w' => e = .returned (.string ⟨#[70, 65, 76, 83, 69]⟩) ∧ Below w.heap.size w w' := by
  have n1 : (n == 1) = false := by simpa using hn
  go_enter Tryd.func47, Tryd.ntmps47
  go_wp2
  go_ret
  exact ⟨rfl, (Below.refl _ _).alloc (Nat.le_refl _) _⟩
set_option maxRecDepth 100000 in
theorem text_err1 (w : World) (s : ByteArray) : Calls Tryd.prog 47 #[.agg #[.int .i64 4, .int .i64 1, .string s]] w fun e w' => e = .returned (.string ⟨#[35, 86, 65, 76, 85, 69, 33]⟩) ∧ Below w.heap.size w w' := by
  go_enter Tryd.func47, Tryd.ntmps47
  go_wp2
  go_ret
  exact ⟨rfl, (Below.refl _ _).alloc (Nat.le_refl _) _⟩
set_option maxRecDepth 100000 in
theorem text_err2 (w : World) (s : ByteArray) : Calls Tryd.prog 47 #[.agg #[.int .i64 4, .int .i64 2, .string s]] w fun e w' => e = .returned (.string ⟨#[35, 78, 85, 77, 33]⟩) ∧ Below w.heap.size w w' := by
  go_enter Tryd.func47, Tryd.ntmps47
  go_wp2
  go_ret
  exact ⟨rfl, (Below.refl _ _).alloc (Nat.le_refl _) _⟩
set_option maxRecDepth 100000 in
theorem text_err3 (w : World) (s : ByteArray) : Calls Tryd.prog 47 #[.agg #[.int .i64 4, .int .i64 3, .string s]] w fun e w' => e = .returned (.string ⟨#[35, 68, 73, 86, 48, 33]⟩) ∧ Below w.heap.size w w' := by
  go_enter Tryd.func47, Tryd.ntmps47
  go_wp2
  go_ret
  exact ⟨rfl, (Below.refl _ _).alloc (Nat.le_refl _) _⟩
set_option maxRecDepth 100000 in
theorem text_err4 (w : World) (s : ByteArray) : Calls Tryd.prog 47 #[.agg #[.int .i64 4, .int .i64 4, .string s]] w fun e w' => e = .returned (.string ⟨#[35, 82, 69, 70, 33]⟩) ∧ Below w.heap.size w w' := by
  go_enter Tryd.func47, Tryd.ntmps47
  go_wp2
  go_ret
  exact ⟨rfl, (Below.refl _ _).alloc (Nat.le_refl _) _⟩
set_option maxRecDepth 100000 in
theorem text_err5 (w : World) (s : ByteArray) : Calls Tryd.prog 47 #[.agg #[.int .i64 4, .int .i64 5, .string s]] w fun e w' => e = .returned (.string ⟨#[35, 78, 65, 77, 69, 33]⟩) ∧ Below w.heap.size w w' := by
  go_enter Tryd.func47, Tryd.ntmps47
  go_wp2
  go_ret
  exact ⟨rfl, (Below.refl _ _).alloc (Nat.le_refl _) _⟩
set_option maxRecDepth 100000 in
theorem text_err6 (w : World) (s : ByteArray) : Calls Tryd.prog 47 #[.agg #[.int .i64 4, .int .i64 6, .string s]] w fun e w' => e = .returned (.string ⟨#[35, 67, 89, 67, 76, 69, 33]⟩) ∧ Below w.heap.size w w' := by
  go_enter Tryd.func47, Tryd.ntmps47
  go_wp2
  go_ret
  exact ⟨rfl, (Below.refl _ _).alloc (Nat.le_refl _) _⟩
set_option maxRecDepth 100000 in
theorem text_noerr (w : World) (n : Int) (s : ByteArray) (hn : n < 1 ∨ 6 < n) : Calls Tryd.prog 47 #[.agg #[.int .i64 4, .int .i64 n, .string s]] w fun e w' => e = .returned (.string ⟨#[]⟩) ∧ Below w.heap.size w w' := by
  have n1 : (n == 1) = false := by rw [beq_eq_false_iff_ne]; omega
  have n2 : (n == 2) = false := by rw [beq_eq_false_iff_ne]; omega
  have n3 : (n == 3) = false := by rw [beq_eq_false_iff_ne]; omega
  have n4 : (n == 4) = false := by rw [beq_eq_false_iff_ne]; omega
  have n5 : (n == 5) = false := by rw [beq_eq_false_iff_ne]; omega
  have n6 : (n == 6) = false := by rw [beq_eq_false_iff_ne]; omega
  go_enter Tryd.func47, Tryd.ntmps47
  go_wp2
  go_ret
  exact ⟨rfl, (Below.refl _ _).alloc (Nat.le_refl _) _⟩
set_option maxRecDepth 100000 in
theorem text_other (w : World) (k n : Int) (s : ByteArray) (hk : k < 1 ∨ 4 < k) : Calls Tryd.prog 47 #[.agg #[.int .i64 k, .int .i64 n, .string s]] w fun e w' => e = .returned (.string ⟨#[]⟩) ∧ Below w.heap.size w w' := by
  have n1 : (k == 1) = false := by rw [beq_eq_false_iff_ne]; omega
  have n2 : (k == 2) = false := by rw [beq_eq_false_iff_ne]; omega
  have n3 : (k == 3) = false := by rw [beq_eq_false_iff_ne]; omega
  have n4 : (k == 4) = false := by rw [beq_eq_false_iff_ne]; omega
  go_enter Tryd.func47, Tryd.ntmps47
  go_wp2
  go_ret
  exact ⟨rfl, (Below.refl _ _).alloc (Nat.le_refl _) _⟩
theorem text_any (w : World) (k n : Int) (s : ByteArray) (hn : InR n) (ht : Tab w) : Calls Tryd.prog 47 #[.agg #[.int .i64 k, .int .i64 n, .string s]] w fun e w' => e = .returned (.string (vtext (k, n, s))) ∧ Below w.heap.size w w' := by
  by_cases hk : k < 1 ∨ 4 < k
  · rw [show vtext (k, n, s) = ⟨#[]⟩ by simp [vtext, show k ≠ 1 by omega, show k ≠ 2 by omega, show k ≠ 3 by omega, show k ≠ 4 by omega]]
    exact text_other w k n s hk
  · rcases (show k = 1 ∨ k = 2 ∨ k = 3 ∨ k = 4 by omega) with rfl | rfl | rfl | rfl
    · exact text_num w n s hn ht
    · exact text_str w n s
    · by_cases h1 : n = 1
      · subst h1; exact text_true w s
      · rw [show vtext (3, n, s) = ⟨#[70, 65, 76, 83, 69]⟩ by simp [vtext, h1]]
        exact text_false w n s h1
    · by_cases h1 : n < 1 ∨ 6 < n
      · rw [show vtext (4, n, s) = ⟨#[]⟩ by simp [vtext, errText, show n ≠ 1 by omega, show n ≠ 2 by omega, show n ≠ 3 by omega, show n ≠ 4 by omega, show n ≠ 5 by omega, show n ≠ 6 by omega]]
        exact text_noerr w n s h1
      · rcases (show n = 1 ∨ n = 2 ∨ n = 3 ∨ n = 4 ∨ n = 5 ∨ n = 6 by omega) with rfl | rfl | rfl | rfl | rfl | rfl
        · exact text_err1 w s
        · exact text_err2 w s
        · exact text_err3 w s
        · exact text_err4 w s
        · exact text_err5 w s
        · exact text_err6 w s
/-- a text as a value -/
def vstr (s : ByteArray) : V3 := if 200 < s.size then (4, 1, ⟨#[]⟩) else (2, 0, s)
set_option maxRecDepth 100000 in
theorem str_any (w : World) (s : ByteArray) : Calls Tryd.prog 49 #[.string s] w fun e w' => e = .returned (vv (vstr s)) ∧ Below w.heap.size w w' := by
  by_cases h : 200 < s.size
  · have h2 : (200 : Int) < (s.size : Int) := by omega
    rw [show vstr s = (4, 1, ⟨#[]⟩) from if_pos h]
    go_enter Tryd.func49, Tryd.ntmps49
    go_wp2_with fail
    refine (err_any _ 1).mono ?_
    rintro e wn ⟨rfl, hbn⟩
    have hs := heap_alloc_new w (.cells #[.int .i64 0, .int .i64 0, .string ⟨#[]⟩] 31)
    have hR6 := (hbn.block w.heap.size (by simp)).trans hs
    have hb6 := ((Below.refl w.heap.size w).alloc (Nat.le_refl _) (.cells #[.int .i64 0, .int .i64 0, .string ⟨#[]⟩] 31)).trans (hbn.mono (by simp))
    obtain ⟨r0, r1, r2, z0, z1, z2⟩ := val3 hR6
    go_wp2
    have hz := val_store (x := .int .i64 4) (y := .int .i64 1) (z := .string ⟨#[]⟩) hR6
    obtain ⟨q0, q1, q2, _⟩ := val3 hz
    refine bodyPost_ret (v := .agg #[.int .i64 4, .int .i64 1, .string ⟨#[]⟩]) ?_ rfl ?_
    · simp [results, Tryd.f49, go_sem, q0, q1, q2]
    · exact ⟨rfl, ((hb6.setCell (p := ⟨w.heap.size, 0, none⟩) (Nat.le_refl _) _).setCell (p := ⟨w.heap.size, 1, none⟩) (Nat.le_refl _) _).setCell (p := ⟨w.heap.size, 2, none⟩) (Nat.le_refl _) _⟩
  · have h2 : (s.size : Int) ≤ (200 : Int) := by omega
    rw [show vstr s = (2, 0, s) from if_neg h]
    go_enter Tryd.func49, Tryd.ntmps49
    go_wp2
    refine bodyPost_ret (v := .agg #[.int .i64 2, .int .i64 0, .string s]) ?_ rfl ⟨rfl, (Below.refl _ _).alloc (Nat.le_refl _) _⟩
    simp [results, Tryd.f49, go_sem]
set_option maxRecDepth 100000 in
set_option maxHeartbeats 2000000 in
theorem two_cat (w : World) (k1 k2 x y : Int) (s t : ByteArray) (hk1 : k1 ≠ 4) (hk2 : k2 ≠ 4) (hx : InR x) (hy : InR y) (ht : Tab w) (hl : (vtext (k1, x, s)).size + (vtext (k2, y, t)).size ≤ 9223372036854775807) :
    Calls Tryd.prog 37 #[.int .i64 15, .agg #[.int .i64 k1, .int .i64 x, .string s], .agg #[.int .i64 k2, .int .i64 y, .string t]] w fun e w' => e = .returned (vv (vstr (vtext (k1, x, s) ++ vtext (k2, y, t)))) ∧ Below w.heap.size w w' := by
  have a1 : (k1 == 4) = false := by simpa using hk1
  have a2 : decide (k1 = 4) = false := decide_eq_false hk1
  have a3 : (k2 == 4) = false := by simpa using hk2
  have a4 : decide (k2 = 4) = false := decide_eq_false hk2
  have C1 := Lib.hid (fun W (hW : Tab W) => text_any W k1 x s hx hW)
  have C2 := Lib.hid (fun W (hW : Tab W) => text_any W k2 y t hy hW)
  have HT := Lib.hid (fun W (hb : Below w.heap.size w W) => ht.on hb)
  obtain ⟨S, hS⟩ : ∃ S, vtext (k1, x, s) = S := ⟨_, rfl⟩
  obtain ⟨T, hT⟩ : ∃ T, vtext (k2, y, t) = T := ⟨_, rfl⟩
  rw [hS] at C1 hl ⊢
  rw [hT] at C2 hl ⊢
  obtain ⟨V, hV⟩ : ∃ V, vstr (S ++ T) = V := ⟨_, rfl⟩
  have C3 := Lib.hid (fun W => str_any W (S ++ T))
  rw [hV] at C3 ⊢
  obtain ⟨vk, vn, vs⟩ := V
  have hl3 : ¬ 9223372036854775807 < S.size + T.size := by omega
  clear hS hT hV hx hy ht hl
  go_enter Tryd.func37, Tryd.ntmps37
  go_wp2_with fail
  obtain ⟨W, hW⟩ : ∃ W, W = (((w.alloc (.cells #[.int .i64 k1, .int .i64 x, .string s] 31)).alloc (.cells #[.int .i64 k2, .int .i64 y, .string t] 31)).alloc (.cells #[.int .i64 0, .int .i64 0, .string ⟨#[]⟩] 31)) := ⟨_, rfl⟩
  have hs0 := heap_alloc_new w (.cells #[.int .i64 k1, .int .i64 x, .string s] 31)
  have hs1 := heap_alloc_new (w.alloc (.cells #[.int .i64 k1, .int .i64 x, .string s] 31)) (.cells #[.int .i64 k2, .int .i64 y, .string t] 31)
  rw [World.size_alloc] at hs1
  have hs2 := heap_alloc_new ((w.alloc (.cells #[.int .i64 k1, .int .i64 x, .string s] 31)).alloc (.cells #[.int .i64 k2, .int .i64 y, .string t] 31)) (.cells #[.int .i64 0, .int .i64 0, .string ⟨#[]⟩] 31)
  rw [World.size_alloc, World.size_alloc] at hs2
  have hS0 : W.heap[w.heap.size]? = some (.cells #[.int .i64 k1, .int .i64 x, .string s] 31 (0, 0)) := by rw [hW]; exact (Below.heap_alloc _ _ _ (by simp; try omega)).trans ((Below.heap_alloc _ _ _ (by simp; try omega)).trans (hs0))
  have hS1 : W.heap[w.heap.size + 1]? = some (.cells #[.int .i64 k2, .int .i64 y, .string t] 31 (0, 0)) := by rw [hW]; exact (Below.heap_alloc _ _ _ (by simp; try omega)).trans (hs1)
  have hR : W.heap[w.heap.size + 1 + 1]? = some (.cells #[.int .i64 0, .int .i64 0, .string ⟨#[]⟩] 31 (0, 0)) := by rw [hW]; exact hs2
  have hsW : W.heap.size = w.heap.size + 3 := by rw [hW]; simp
  have hbW : Below w.heap.size w W := by rw [hW]; exact (((Below.refl _ _).alloc (Nat.le_refl _) _).alloc (by simp; try omega) _).alloc (by simp; try omega) _
  rw [← hW]
  clear hW hs0 hs1 hs2
  refine wp_region_tree [6] (.free 0 (.free 2 (.eff 1 (.eff 3 (.free 4 (.eff 5 (.last 6 .nil))))))) (by kernel_rfl) (by kernel_rfl) (fun _ _ d _ _ h => by cases d <;> exact h) ?_
  have hbw := hbW.drew
  have hS0 : W.drew.heap[w.heap.size]? = _ := hS0
  have hS1 : W.drew.heap[w.heap.size + 1]? = _ := hS1
  have hR : W.drew.heap[w.heap.size + 1 + 1]? = _ := hR
  clear hbW hsW
  generalize W.drew = wv at *
  have l0 : w.heap.size < wv.heap.size := (Array.getElem?_eq_some_iff.1 hS0).1
  have l1 : w.heap.size + 1 < wv.heap.size := (Array.getElem?_eq_some_iff.1 hS1).1
  have l2 : w.heap.size + 1 + 1 < wv.heap.size := (Array.getElem?_eq_some_iff.1 hR).1
  conv => arg 4; whnf
  conv => arg 4; arg 1; whnf
  refine pt_loadB (k := w.heap.size) (fun W h => load_val _ W _ _ _ (h.trans hS0)) l0 (by rfl) rfl rfl ?_
  simp only [Act.put, List.setIfInBounds_toArray, List.set_cons_zero, List.set_cons_succ]
  conv => arg 4; whnf
  conv => arg 4; arg 1; whnf
  refine pt_loadB (k := w.heap.size + 1) (fun W h => load_val _ W _ _ _ (h.trans hS1)) l1 (by rfl) rfl rfl ?_
  simp only [Act.put, List.setIfInBounds_toArray, List.set_cons_zero, List.set_cons_succ]
  clear hS0 hS1 l0 l1
  conv => arg 4; whnf
  conv => arg 4; arg 1; whnf
  refine pt_eff (by rfl) (fun K hK => ?_)
  go_wp2_with fail
  refine (C1.out _ (HT.out _ hbw)).mono ?_
  rintro en wn ⟨rfl, hbn⟩
  refine hK _ _ hbn ?_
  clear hK K
  have hbw := hbw.trans (hbn.mono hbw.size)
  have hR := (hbn.block _ l2).trans hR
  clear l2 hbn
  generalize wn = wv at *
  have l2 : w.heap.size + 1 + 1 < wv.heap.size := (Array.getElem?_eq_some_iff.1 hR).1
  conv => arg 4; whnf
  conv => arg 4; arg 1; whnf
  refine pt_eff (by rfl) (fun K hK => ?_)
  go_wp2_with fail
  refine (C2.out _ (HT.out _ hbw)).mono ?_
  rintro en wn ⟨rfl, hbn⟩
  refine hK _ _ hbn ?_
  clear hK K
  have hbw := hbw.trans (hbn.mono hbw.size)
  have hR := (hbn.block _ l2).trans hR
  clear l2 hbn
  generalize wn = wv at *
  have l2 : w.heap.size + 1 + 1 < wv.heap.size := (Array.getElem?_eq_some_iff.1 hR).1
  conv => arg 4; whnf
  conv => arg 4; arg 1; whnf
  refine pt_free (by rfl) (fun K hK => ?_)
  go_big_quiet_op
  first | (refine hK _ ?_; clear hK K) | (refine ⟨_, fun _ _ => rfl, hK _ ?_⟩; clear hK K)
  conv => arg 4; whnf
  conv => arg 4; arg 1; whnf
  refine pt_eff (by rfl) (fun K hK => ?_)
  go_wp2_with fail
  refine (C3.out _).mono ?_
  rintro en wn ⟨rfl, hbn⟩
  refine hK _ _ hbn ?_
  clear hK K
  have hbw := hbw.trans (hbn.mono hbw.size)
  have hR := (hbn.block _ l2).trans hR
  clear l2 hbn
  generalize wn = wv at *
  have l2 : w.heap.size + 1 + 1 < wv.heap.size := (Array.getElem?_eq_some_iff.1 hR).1
  obtain ⟨r0, r1, r2, z0, z1, z2⟩ := val3 hR
  conv => arg 4; whnf
  conv => arg 4; arg 1; whnf
  refine pt_last (by rfl) (fun K hK => ?_)
  go_wp2_with fail
  refine pt_nil ?_
  go_wp2
  have hz := val_store (x := .int .i64 vk) (y := .int .i64 vn) (z := .string vs) hR
  obtain ⟨q0, q1, q2, _⟩ := val3 hz
  refine bodyPost_ret (v := .agg #[.int .i64 vk, .int .i64 vn, .string vs]) ?_ rfl ?_
  · simp [results, Tryd.f37, go_sem, q0, q1, q2]
  · exact ⟨rfl, ((hbw.setCell (p := ⟨w.heap.size + 1 + 1, 0, none⟩) (by show w.heap.size ≤ w.heap.size + 1 + 1; omega) _).setCell (p := ⟨w.heap.size + 1 + 1, 1, none⟩) (by show w.heap.size ≤ w.heap.size + 1 + 1; omega) _).setCell (p := ⟨w.heap.size + 1 + 1, 2, none⟩) (by show w.heap.size ≤ w.heap.size + 1 + 1; omega) _⟩
end Go.Proofs.YtcbaioagcemmnaaDoor
