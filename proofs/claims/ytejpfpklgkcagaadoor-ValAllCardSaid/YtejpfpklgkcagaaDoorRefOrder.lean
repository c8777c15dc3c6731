/- The document's order of values. Written by reforder.py. -/
import Derived.Test.YtejpfpklgkcagaaDoorRefNeg
namespace Go.Proofs.YtejpfpklgkcagaaDoor
open Go.RowKit Go.Maps
set_option maxRecDepth 100000 in
set_option maxHeartbeats 1000000 in
theorem as_none (w : World) (k2 n2 : Int) (t : ByteArray) : Calls Tryd.prog 46 #[.agg #[.int .i64 0, .int .i64 0, .string ⟨#[]⟩], .agg #[.int .i64 k2, .int .i64 n2, .string t]] w fun e w' => e = .returned (.agg #[.int .i64 k2, .int .i64 0, .string ⟨#[]⟩]) ∧ Below w.heap.size w w' := by
  go_enter Tryd.func46, Tryd.ntmps46
  go_wp2
  refine bodyPost_ret (v := .agg #[.int .i64 k2, .int .i64 0, .string ⟨#[]⟩]) ?_ rfl ⟨rfl, (((Below.refl _ _).alloc (Nat.le_refl _) _).alloc (by simp) _).alloc (by simp; omega) _⟩
  simp [results, Tryd.f46, go_sem]
set_option maxRecDepth 100000 in
set_option maxHeartbeats 1000000 in
theorem as_some (w : World) (k n k2 n2 : Int) (s t : ByteArray) (hk : k ≠ 0) : Calls Tryd.prog 46 #[.agg #[.int .i64 k, .int .i64 n, .string s], .agg #[.int .i64 k2, .int .i64 n2, .string t]] w fun e w' => e = .returned (.agg #[.int .i64 k, .int .i64 n, .string s]) ∧ Below w.heap.size w w' := by
  have f1 : (k == 0) = false := by simpa using hk
  have f1' : decide (k = 0) = false := by simpa using hk
  clear hk
  go_enter Tryd.func46, Tryd.ntmps46
  go_wp2
  refine bodyPost_ret (v := .agg #[.int .i64 k, .int .i64 n, .string s]) ?_ rfl ⟨rfl, (((Below.refl _ _).alloc (Nat.le_refl _) _).alloc (by simp) _).alloc (by simp; omega) _⟩
  simp [results, Tryd.f46, go_sem]
theorem as_any (w : World) (x y r : V3) (hx : x.1 = 0 → x = (0, 0, noB)) (hr : likeV x y = r) : Calls Tryd.prog 46 #[vv x, vv y] w fun e w' => e = .returned (vv r) ∧ Below w.heap.size w w' := by
  subst hr
  by_cases h : x.1 = 0
  · rw [hx h]
    exact as_none w _ _ _
  · rw [show likeV x y = x from if_neg h]
    exact as_some w _ _ _ _ _ _ h
theorem blk3' {w : World} {p q : Nat} {o : Obj} {x y z : Value} (h : q ≠ p) (hq : w.heap[q]? = some o) : (((w.setCell ⟨p, 0, none⟩ x).setCell ⟨p, 1, none⟩ y).setCell ⟨p, 2, none⟩ z).heap[q]? = some o := by
  simp [World.setCell, Array.getElem?_modify, Ne.symm h, hq]
set_option maxRecDepth 100000 in
set_option maxHeartbeats 1000000 in
theorem order_any (w : World) (k n k2 n2 ka na kb nb : Int) (s t sa sb : ByteArray) (h1 : k = 0 → (k, n, s) = ((0 : Int), (0 : Int), noB)) (h2 : k2 = 0 → (k2, n2, t) = ((0 : Int), (0 : Int), noB))
    (e1 : likeV (k, n, s) (k2, n2, t) = (ka, na, sa)) (e2 : likeV (k2, n2, t) (ka, na, sa) = (kb, nb, sb)) (c : Int) (hc : vcmp (ka, na, sa) (kb, nb, sb) = c) : Calls Tryd.prog 30 #[.agg #[.int .i64 k, .int .i64 n, .string s], .agg #[.int .i64 k2, .int .i64 n2, .string t]] w fun e w' => e = .returned (.int .i64 c) ∧ Below w.heap.size w w' := by
  have C1 := Lib.hid (fun W => as_any W _ _ _ h1 e1)
  have C2 := Lib.hid (fun W => as_any W _ _ _ h2 e2)
  have HC := Lib.hid hc
  clear h1 h2 e1 e2 hc
  go_enter Tryd.func30, Tryd.ntmps30
  go_wp2_with fail
  obtain ⟨W, hW⟩ : ∃ W, W = ((w.alloc (.cells #[.int .i64 k, .int .i64 n, .string s] 24)).alloc (.cells #[.int .i64 k2, .int .i64 n2, .string t] 24)) := ⟨_, rfl⟩
  have hs0 := heap_alloc_new w (.cells #[.int .i64 k, .int .i64 n, .string s] 24)
  have hs1 := heap_alloc_new (w.alloc (.cells #[.int .i64 k, .int .i64 n, .string s] 24)) (.cells #[.int .i64 k2, .int .i64 n2, .string t] 24)
  rw [World.size_alloc] at hs1
  have hX : W.heap[w.heap.size]? = some (.cells #[.int .i64 k, .int .i64 n, .string s] 24 (0, 0)) := by rw [hW]; exact (Below.heap_alloc _ _ _ (by simp; try omega)).trans (hs0)
  have hY : W.heap[w.heap.size + 1]? = some (.cells #[.int .i64 k2, .int .i64 n2, .string t] 24 (0, 0)) := by rw [hW]; exact hs1
  have hsW : W.heap.size = w.heap.size + 2 := by rw [hW]; simp
  have hbW : Below w.heap.size w W := by rw [hW]; exact ((Below.refl _ _).alloc (Nat.le_refl _) _).alloc (by simp; try omega) _
  rw [← hW]
  clear hW hs0 hs1
  refine (C1.out _).mono ?_
  rintro e w1 ⟨rfl, hb1⟩
  have hX1 := (hb1.block _ (Array.getElem?_eq_some_iff.1 hX).1).trans hX
  have hY1 := (hb1.block _ (Array.getElem?_eq_some_iff.1 hY).1).trans hY
  have hb2 := hbW.trans (hb1.mono hbW.size)
  clear hX hY hbW hb1 C1
  obtain ⟨r0, r1, r2, z0, z1, z2⟩ := val3 hX1
  obtain ⟨q0, q1, q2, y0, y1, y2⟩ := val3 hY1
  go_wp2_with fail
  clear r0 r1 r2 z0 z1 z2 q0 q1 q2 y0 y1 y2
  have hz := val_store (x := .int .i64 ka) (y := .int .i64 na) (z := .string sa) hX1
  have ho := blk3' (x := .int .i64 ka) (y := .int .i64 na) (z := .string sa) (show w.heap.size + 1 ≠ w.heap.size by omega) hY1
  have hbw := ((hb2.setCell (p := ⟨w.heap.size, 0, none⟩) (by show w.heap.size ≤ w.heap.size; omega) (.int .i64 ka)).setCell (p := ⟨w.heap.size, 1, none⟩) (by show w.heap.size ≤ w.heap.size; omega) (.int .i64 na)).setCell (p := ⟨w.heap.size, 2, none⟩) (by show w.heap.size ≤ w.heap.size; omega) (.string sa)
  clear hX1 hY1 hb2
  generalize (((w1.setCell ⟨w.heap.size, 0, none⟩ (.int .i64 ka)).setCell ⟨w.heap.size, 1, none⟩ (.int .i64 na)).setCell ⟨w.heap.size, 2, none⟩ (.string sa)) = wv at *
  refine (C2.out _).mono ?_
  rintro e w2 ⟨rfl, hb1⟩
  have hX1 := (hb1.block _ (Array.getElem?_eq_some_iff.1 hz).1).trans hz
  have hY1 := (hb1.block _ (Array.getElem?_eq_some_iff.1 ho).1).trans ho
  have hb2 := hbw.trans (hb1.mono hbw.size)
  clear hz ho hbw hb1 C2
  have hz := val_store (x := .int .i64 kb) (y := .int .i64 nb) (z := .string sb) hY1
  have ho := blk3' (x := .int .i64 kb) (y := .int .i64 nb) (z := .string sb) (show w.heap.size ≠ w.heap.size + 1 by omega) hX1
  have hbw := ((hb2.setCell (p := ⟨w.heap.size + 1, 0, none⟩) (by show w.heap.size ≤ w.heap.size + 1; omega) (.int .i64 kb)).setCell (p := ⟨w.heap.size + 1, 1, none⟩) (by show w.heap.size ≤ w.heap.size + 1; omega) (.int .i64 nb)).setCell (p := ⟨w.heap.size + 1, 2, none⟩) (by show w.heap.size ≤ w.heap.size + 1; omega) (.string sb)
  obtain ⟨q0, q1, q2, y0, y1, y2⟩ := val3 hY1
  obtain ⟨a0, a1, a2, _⟩ := val3 ho
  obtain ⟨b0, b1, b2, _⟩ := val3 hz
  clear hX1 hY1 hb2 ho hz
  have Hb := Lib.hid hbw
  clear hbw
  rcases (show ka < kb ∨ kb < ka ∨ ka = kb by omega) with h | h | h
  · have hr : c = -1 := by rw [← HC.out]; show lex icmp (lex icmp scmp) _ _ = _; simp [lex, icmp_lt h]
    subst hr
    have g1 : decide (ka < kb) = true := decide_eq_true h
    clear h HC
    go_wp2_with fail
    go_ret
    exact ⟨rfl, Hb.out⟩
  · have hr : c = 1 := by rw [← HC.out]; show lex icmp (lex icmp scmp) _ _ = _; simp [lex, icmp_gt h]
    subst hr
    have g1 : decide (ka < kb) = false := decide_eq_false (by omega)
    have g2 : (ka == kb) = false := by rw [beq_eq_false_iff_ne]; omega
    have g3 : decide (ka = kb) = false := decide_eq_false (by omega)
    clear h HC
    go_wp2_with fail
    go_ret
    exact ⟨rfl, Hb.out⟩
  · subst h
    have ika : decide (ka < ka) = false := decide_eq_false (by omega)
    rcases (show na < nb ∨ nb < na ∨ na = nb by omega) with h | h | h
    · have hr : c = -1 := by rw [← HC.out]; show lex icmp (lex icmp scmp) _ _ = _; simp [lex, icmp_lt h, show icmp ka ka = 0 from icmp_eq (Int.le_refl _) (Int.le_refl _)]
      subst hr
      have g1 : decide (na < nb) = true := decide_eq_true h
      clear h HC
      go_wp2_with fail
      go_ret
      exact ⟨rfl, Hb.out⟩
    · have hr : c = 1 := by rw [← HC.out]; show lex icmp (lex icmp scmp) _ _ = _; simp [lex, icmp_gt h, show icmp ka ka = 0 from icmp_eq (Int.le_refl _) (Int.le_refl _)]
      subst hr
      have g1 : decide (na < nb) = false := decide_eq_false (by omega)
      have g2 : (na == nb) = false := by rw [beq_eq_false_iff_ne]; omega
      have g3 : decide (na = nb) = false := decide_eq_false (by omega)
      clear h HC
      go_wp2_with fail
      go_ret
      exact ⟨rfl, Hb.out⟩
    · subst h
      have ina : decide (na < na) = false := decide_eq_false (by omega)
      rcases three sa sb with h | h | h
      · have hr : c = -1 := by rw [← HC.out]; show lex icmp (lex icmp scmp) _ _ = _; simp [lex, scmp_lt h, show icmp ka ka = 0 from icmp_eq (Int.le_refl _) (Int.le_refl _), show icmp na na = 0 from icmp_eq (Int.le_refl _) (Int.le_refl _)]
        subst hr
        have g4 : Op.bytesLess sa.toList sb.toList = true := h
        have g5 : (sa.toList == sb.toList) = false := str_eq_false (fun e => by rw [e, bl_irrefl] at h; cases h)
        clear h HC
        go_wp2_with fail
        go_ret
        exact ⟨rfl, Hb.out⟩
      · subst h
        have hr : c = 0 := by rw [← HC.out]; show lex icmp (lex icmp scmp) _ _ = _; simp [lex, scmp_eq, show icmp ka ka = 0 from icmp_eq (Int.le_refl _) (Int.le_refl _), show icmp na na = 0 from icmp_eq (Int.le_refl _) (Int.le_refl _)]
        subst hr
        have g4 : Op.bytesLess sa.toList sa.toList = false := bl_irrefl _
        have g5 : (sa.toList == sa.toList) = true := str_eq_true rfl
        clear HC
        go_wp2_with fail
        go_ret
        exact ⟨rfl, Hb.out⟩
      · have hr : c = 1 := by rw [← HC.out]; show lex icmp (lex icmp scmp) _ _ = _; simp [lex, scmp_gt h, show icmp ka ka = 0 from icmp_eq (Int.le_refl _) (Int.le_refl _), show icmp na na = 0 from icmp_eq (Int.le_refl _) (Int.le_refl _)]
        subst hr
        have g4 : Op.bytesLess sa.toList sb.toList = false := bl_asymm _ _ h
        have g5 : (sa.toList == sb.toList) = false := str_eq_false (fun e => by rw [e, bl_irrefl] at h; cases h)
        clear h HC
        go_wp2_with fail
        go_ret
        exact ⟨rfl, Hb.out⟩
end Go.Proofs.YtejpfpklgkcagaaDoor
