/- (fun.call).truths. Written by funtruthgen.py. -/
import Derived.Test.YtcbaioagcemmnaaDoorFunIf
namespace Go.Proofs.YtcbaioagcemmnaaDoor
open Go.RowKit Go.Maps
/-- how many truths are so, how many not so -/
def yes1 (v : V3) : Nat := if (v.1 = 1 ∨ v.1 = 3) ∧ v.2.1 ≠ 0 then 1 else 0
def no1 (v : V3) : Nat := if (v.1 = 1 ∨ v.1 = 3) ∧ v.2.1 = 0 then 1 else 0
def yesN (l : List V3) : Nat := (l.map yes1).sum
def noN (l : List V3) : Nat := (l.map no1).sum
theorem yesN_app (a b : List V3) : yesN (a ++ b) = yesN a + yesN b := by simp [yesN]
theorem noN_app (a b : List V3) : noN (a ++ b) = noN a + noN b := by simp [noN]
theorem yes_no_le (l : List V3) : yesN l + noN l ≤ l.length := by
  induction l with
  | nil => simp [yesN, noN]
  | cons x r ih =>
    have h1 : yes1 x + no1 x ≤ 1 := by unfold yes1 no1; by_cases h : (x.1 = 1 ∨ x.1 = 3) <;> by_cases h2 : x.2.1 = 0 <;> simp [h, h2]
    simp only [yesN, noN, List.map_cons, List.sum_cons, List.length_cons] at ih ⊢
    omega
theorem flat_take {args : List FArg} {k : Nat} {x : FArg} (h : args[k]? = some x) : (args.take (k + 1)).flatMap FArg.vs = (args.take k).flatMap FArg.vs ++ x.vs := by
  obtain ⟨hk, rfl⟩ := List.getElem?_eq_some_iff.1 h
  rw [List.take_succ_eq_append_getElem hk, List.flatMap_append]
  simp only [List.flatMap_cons, List.flatMap_nil, List.append_nil]
theorem val_take {xv : List V3} {j : Nat} {y : V3} (h : xv[j]? = some y) : xv.take (j + 1) = xv.take j ++ [y] := by
  obtain ⟨hk, rfl⟩ := List.getElem?_eq_some_iff.1 h
  rw [List.take_succ_eq_append_getElem hk]
set_option maxRecDepth 100000 in
set_option maxHeartbeats 4000000 in
theorem truths_any (w : World) (A : Option Addr) (args : List FArg) (c : Nat) (hA : AtA w A args) (hk : ∀ a ∈ args, ∀ v ∈ FArg.vs a, mayV v ∧ v.1 ≠ 4 ∧ (v.1 = 2 → a.rg = true)) (hmany : (args.flatMap FArg.vs).length ≤ 1000000) :
    Calls Tryd.prog 41 #[.agg #[.slice A args.length c]] w fun e w' => e = .returned (.tuple #[.int .i64 (yesN (args.flatMap FArg.vs)), .int .i64 (noN (args.flatMap FArg.vs)), .bool (decide (0 < (yesN (args.flatMap FArg.vs) : Int) + noN (args.flatMap FArg.vs)))]) ∧ Below w.heap.size w w' := by
  have HK := Lib.hid hk
  have hml := Lib.hid hmany
  clear hk hmany
  have hb0 : Below w.heap.size w (w.alloc (.cells #[.slice A args.length c] 44)) := (Below.refl _ _).alloc (Nat.le_refl _) _
  have hA1 := hA.below hb0
  have hbnd := hA.1
  go_enter Tryd.func41, Tryd.ntmps41
  go_wp2_with fail
  obtain ⟨W, hW⟩ : ∃ W, W = w.alloc (.cells #[.slice A args.length c] 44) := ⟨_, rfl⟩
  rw [← hW] at hb0 hA1 ⊢
  clear hW
  go_loopw [2, 3, 14] (fun y n u wr => ∃ k : Nat, k ≤ args.length ∧ u = .int .i64 k ∧ y = .int .i64 (yesN ((args.take k).flatMap FArg.vs)) ∧ n = .int .i64 (noN ((args.take k).flatMap FArg.vs)) ∧ Below W.heap.size W wr) (fun _ _ u _ => args.length - (intOf u).toNat)
  case atStart => exact ⟨0, Nat.zero_le _, rfl, rfl, rfl, Below.refl _ _⟩
  case round =>
    obtain ⟨k, hk, rfl, rfl, rfl, hbr⟩ := hrel
    have hsr := hbr.size
    by_cases hlt : k < args.length
    · have hi1 := Lib.hid (show k + 1 ≤ args.length by omega)
      have hi2 := Lib.hid (show args.length - (k + 1) < args.length - k by omega)
      have hAr := hA1.below hbr
      obtain ⟨b, o, hAe, hcells⟩ := hAr.2.2 (by omega)
      obtain ⟨x, hx⟩ : ∃ x, args[k]? = some x := ⟨_, List.getElem?_eq_getElem hlt⟩
      obtain ⟨c0, c1, c2⟩ := hcells k x hx
      have hm := List.mem_of_getElem? hx
      have hav := hA1.2.1 x hm
      have hkx := Lib.hid (HK.out x hm)
      have htk := Lib.hid (flat_take hx)
      have hcnt : ((args.take k).flatMap FArg.vs ++ x.vs).length ≤ 1000000 := by
        rw [← flat_take hx]
        refine Nat.le_trans ?_ hml.out
        conv => rhs; rw [← List.take_append_drop (k + 1) args]
        rw [List.flatMap_append, List.length_append]
        omega
      obtain ⟨xr, xc, xA, xv, xcap⟩ := x
      simp only at c0 c1 c2 hav hkx htk hcnt
      have hcnt := Lib.hid hcnt
      subst hAe
      clear hcells hAr
      obtain ⟨L, hL⟩ : ∃ L, L = (args.take k).flatMap FArg.vs := ⟨_, rfl⟩
      rw [← hL] at htk hcnt ⊢
      have hvl := hav.1
      have hbE := hbr.alloc hsr (.cells #[.bool xr, .int .i64 xc, .slice xA xv.length xcap] 27)
      have hEb := heap_alloc_new wr (.cells #[.bool xr, .int .i64 xc, .slice xA xv.length xcap] 27)
      clear hL
      go_wp2_with fail
      obtain ⟨E, hE⟩ : ∃ E, wr.heap.size = E := ⟨_, rfl⟩
      obtain ⟨we, hwe⟩ : ∃ we, we = wr.alloc (.cells #[.bool xr, .int .i64 xc, .slice xA xv.length xcap] 27) := ⟨_, rfl⟩
      rw [← hwe] at hbE hEb ⊢
      rw [hE] at hEb ⊢
      clear hwe hE
      go_loopw [2, 3, 21] (fun y n u wi => ∃ j : Nat, j ≤ xv.length ∧ u = .int .i64 j ∧ y = .int .i64 (yesN (L ++ xv.take j)) ∧ n = .int .i64 (noN (L ++ xv.take j)) ∧ wi.heap[E]? = some (.cells #[.bool xr, .int .i64 xc, .slice xA xv.length xcap] 27 (0, 0)) ∧ Below W.heap.size W wi) (fun _ _ u _ => xv.length - (intOf u).toNat)
      case atStart => exact ⟨0, Nat.zero_le _, rfl, by simp, by simp, hEb, hbE⟩
      case round =>
        generalize wr = wi at *
        obtain ⟨j, hj, rfl, rfl, rfl, hEi, hbi⟩ := hrel
        have hsi := hbi.size
        by_cases hlt3 : j < xv.length
        · have hj1 := Lib.hid (show j + 1 ≤ xv.length by omega)
          have hj2 := Lib.hid (show xv.length - (j + 1) < xv.length - j by omega)
          obtain ⟨b2, o2, hAe2, hcells2⟩ := (hav.below hbi).2 (by omega)
          obtain ⟨y, hy⟩ : ∃ y, xv[j]? = some y := ⟨_, List.getElem?_eq_getElem hlt3⟩
          obtain ⟨d0, d1, d2⟩ := hcells2 j y hy
          obtain ⟨hmy, hk4, hk2⟩ := hkx.out y (List.mem_of_getElem? hy)
          have e1 : yesN (L ++ xv.take (j + 1)) = yesN (L ++ xv.take j) + yes1 y := by rw [val_take hy, ← List.append_assoc, yesN_app]; simp [yesN]
          have e2 : noN (L ++ xv.take (j + 1)) = noN (L ++ xv.take j) + no1 y := by rw [val_take hy, ← List.append_assoc, noN_app]; simp [noN]
          have hle : yesN (L ++ xv.take j) + noN (L ++ xv.take j) ≤ 1000000 := by
            refine Nat.le_trans (yes_no_le _) (Nat.le_trans ?_ hcnt.out)
            simp only [List.length_append, List.length_take]; omega
          obtain ⟨a, ha⟩ : ∃ a, yesN (L ++ xv.take j) = a := ⟨_, rfl⟩
          obtain ⟨b9, hb9⟩ : ∃ b, noN (L ++ xv.take j) = b := ⟨_, rfl⟩
          rw [ha] at e1 hle ⊢
          rw [hb9] at e2 hle ⊢
          have E1 := Lib.hid e1
          have E2 := Lib.hid e2
          clear e1 e2 ha hb9
          obtain ⟨yk, yn, ys⟩ := y
          simp only at d0 d1 d2 hk4 hk2 E1 E2
          subst hAe2
          clear hcells2 hy
          have T0 := Lib.hid (fun W => truth_any W yk yn ys hmy)
          have hE3 := (Below.heap_alloc wi (.cells #[.int .i64 yk, .int .i64 yn, .string ys] 31) E (Array.getElem?_eq_some_iff.1 hEi).1).trans hEi
          have hb3 := hbi.alloc hsi (.cells #[.int .i64 yk, .int .i64 yn, .string ys] 31)
          have hs3 := hb3.size
          have hV3 := heap_alloc_new wi (.cells #[.int .i64 yk, .int .i64 yn, .string ys] 31)
          go_wp2_with fail
          refine (T0.out _).mono ?_
          rintro e w5 ⟨rfl, hb5⟩
          have hE5 := (hb5.block _ (Array.getElem?_eq_some_iff.1 hE3).1).trans hE3
          have hV5 := (hb5.block _ (Array.getElem?_eq_some_iff.1 hV3).1).trans hV3
          have hb6 := hb3.trans (hb5.mono hs3)
          obtain ⟨t0, t1, t2, _⟩ := val3 hE5
          obtain ⟨u0, u1, u2, _⟩ := val3 hV5
          clear hE3 hV3 hb3 hs3 hb5 hV5 T0
          by_cases h0 : yk = 0
          · subst h0
            rw [show yes1 (0, yn, ys) = 0 by simp [yes1]] at E1
            rw [show no1 (0, yn, ys) = 0 by simp [no1]] at E2
            rw [show vtruth (0, yn, ys) = (yn != 0, true) from rfl]
            clear hmy hk4 hk2
            go_wp2
            go_roundw
            case rel => exact ⟨j + 1, hj1.out, by go_num, by rw [E1.out]; first | rfl | go_num, by rw [E2.out]; first | rfl | go_num, hE5, hb6⟩
            case measure => first | (simp [intOf]; done) | exact hj2.out | (have := hj2.out; simp [intOf]; omega)
          by_cases h2 : yk = 2
          · subst h2
            have hxr : xr = true := hk2 rfl
            subst hxr
            rw [show yes1 (2, yn, ys) = 0 by simp [yes1]] at E1
            rw [show no1 (2, yn, ys) = 0 by simp [no1]] at E2
            rw [show vtruth (2, yn, ys) = (false, false) from rfl]
            clear hmy hk4 hk2
            go_wp2
            go_roundw
            case rel => exact ⟨j + 1, hj1.out, by go_num, by rw [E1.out]; first | rfl | go_num, by rw [E2.out]; first | rfl | go_num, hE5, hb6⟩
            case measure => first | (simp [intOf]; done) | exact hj2.out | (have := hj2.out; simp [intOf]; omega)
          have h13 : yk = 1 ∨ yk = 3 := by rcases hmy with ⟨h, _⟩ | ⟨h, _⟩ | ⟨h, _⟩ | ⟨h, _⟩ | ⟨h, _⟩ <;> simp only at h <;> omega
          have n0 : (yk == 0) = false := by simpa using h0
          have n0' : decide (yk = 0) = false := decide_eq_false h0
          by_cases hz : yn = 0
          · rw [show yes1 (yk, yn, ys) = 0 by simp [yes1, hz]] at E1
            rw [show no1 (yk, yn, ys) = 1 by simp [no1, hz, h13]] at E2
            rw [show vtruth (yk, yn, ys) = (false, true) by unfold vtruth; rw [if_pos (by simp only; omega)]; simp [hz]]
            clear hmy hk4 hk2 h13 h0 h2 hz
            go_wp2
            go_roundw
            case rel => exact ⟨j + 1, hj1.out, by go_num, by rw [E1.out]; first | rfl | go_num, by rw [E2.out]; first | rfl | go_num, hE5, hb6⟩
            case measure => first | (simp [intOf]; done) | exact hj2.out | (have := hj2.out; simp [intOf]; omega)
          · rw [show yes1 (yk, yn, ys) = 1 by simp [yes1, hz, h13]] at E1
            rw [show no1 (yk, yn, ys) = 0 by simp [no1, hz]] at E2
            rw [show vtruth (yk, yn, ys) = (true, true) by unfold vtruth; rw [if_pos (by simp only; omega)]; simp [hz]]
            clear hmy hk4 hk2 h13 h0 h2 hz
            go_wp2
            go_roundw
            case rel => exact ⟨j + 1, hj1.out, by go_num, by rw [E1.out]; first | rfl | go_num, by rw [E2.out]; first | rfl | go_num, hE5, hb6⟩
            case measure => first | (simp [intOf]; done) | exact hj2.out | (have := hj2.out; simp [intOf]; omega)
        · have hje : j = xv.length := by omega
          subst hje
          have htk2 := Lib.hid (show (args.take (k + 1)).flatMap FArg.vs = L ++ xv from htk.out)
          rw [List.take_length]
          go_wp2
          go_roundw
          case rel => exact ⟨k + 1, hi1.out, by go_num, by rw [htk2.out], by rw [htk2.out], hbi⟩
          case measure => first | (simp [intOf]; done) | exact hi2.out | (have := hi2.out; simp [intOf]; omega)
    · have hie : k = args.length := by omega
      subst hie
      have hle := Nat.le_trans (yes_no_le (args.flatMap FArg.vs)) hml.out
      rw [List.take_length]
      obtain ⟨a, ha⟩ : ∃ a, yesN (args.flatMap FArg.vs) = a := ⟨_, rfl⟩
      obtain ⟨b9, hb9⟩ : ∃ b, noN (args.flatMap FArg.vs) = b := ⟨_, rfl⟩
      rw [ha, hb9] at hle ⊢
      have HA := Lib.hid ha
      have HB := Lib.hid hb9
      have hbz := hb0.trans (hbr.mono hb0.size)
      clear ha hb9 hbr
      go_wp2
      refine bodyPost_ret (v := .tuple #[.int .i64 a, .int .i64 b9, .bool (decide (0 < (a : Int) + b9))]) ?_ rfl ⟨by rw [HA.out, HB.out], hbz⟩
      simp [results, Tryd.f41, go_sem]
end Go.Proofs.YtcbaioagcemmnaaDoor
