/- (fun.call).count. Written by funcountgen.py. -/
import Derived.Test.YtcbaioagcemmnaaDoorFunLit
namespace Go.Proofs.YtcbaioagcemmnaaDoor
open Go.RowKit Go.Maps
theorem intsOf_cnt {args : List FArg} {k : Nat} {x : FArg} (h : args[k]? = some x) (j : Nat) : (intsOf (args.take k) ++ (x.vs.take j).filter (fun v => v.1 == 1)).length ≤ (args.flatMap FArg.vs).length := by
  have h1 := intsOf_len args (k + 1)
  rw [intsOf_take h, List.length_append] at h1
  rw [List.length_append]
  have h2 : ((x.vs.take j).filter (fun v => v.1 == 1)).length ≤ (x.vs.filter (fun v => v.1 == 1)).length := (List.Sublist.filter _ (List.take_sublist _ _)).length_le
  omega
set_option maxRecDepth 100000 in
set_option maxHeartbeats 4000000 in
theorem count_any (w : World) (A : Option Addr) (args : List FArg) (c : Nat) (hA : AtA w A args) (hmany : (args.flatMap FArg.vs).length ≤ 1000000) :
    Calls Tryd.prog 20 #[.agg #[.slice A args.length c]] w fun e w' => e = .returned (.agg #[.int .i64 1, .int .i64 (intsOf args).length, .string ⟨#[]⟩]) ∧ Below w.heap.size w w' := by
  have hml := Lib.hid hmany
  clear hmany
  have hb0 := ((Below.refl w.heap.size w).alloc (Nat.le_refl _) (.cells #[.slice A args.length c] 44)).alloc (by simp) (.cells #[.int .i64 0, .int .i64 0, .string ⟨#[]⟩] 31)
  have hX : ((w.alloc (.cells #[.slice A args.length c] 44)).alloc (.cells #[.int .i64 0, .int .i64 0, .string ⟨#[]⟩] 31)).heap[w.heap.size + 1]? = some (.cells #[.int .i64 0, .int .i64 0, .string ⟨#[]⟩] 31 (0, 0)) := by rw [← World.size_alloc w (.cells #[.slice A args.length c] 44)]; exact heap_alloc_new _ _
  have hA1 := hA.below hb0
  have hbnd := hA.1
  go_enter Tryd.func20, Tryd.ntmps20
  go_wp2_with fail
  obtain ⟨W, hW⟩ : ∃ W, W = (w.alloc (.cells #[.slice A args.length c] 44)).alloc (.cells #[.int .i64 0, .int .i64 0, .string ⟨#[]⟩] 31) := ⟨_, rfl⟩
  rw [← hW] at hb0 hA1 hX ⊢
  obtain ⟨R, hR⟩ : ∃ R, w.heap.size + 1 = R := ⟨_, rfl⟩
  rw [hR] at hX ⊢
  have hRl : w.heap.size ≤ R := by omega
  clear hW hR
  go_loopw [3, 11] (fun n u wr => ∃ k : Nat, k ≤ args.length ∧ u = .int .i64 k ∧ n = .int .i64 (intsOf (args.take k)).length ∧ Below W.heap.size W wr) (fun _ u _ => args.length - (intOf u).toNat)
  case atStart => exact ⟨0, Nat.zero_le _, rfl, rfl, Below.refl _ _⟩
  case round =>
    obtain ⟨k, hk, rfl, rfl, hbr⟩ := hrel
    have hsr := hbr.size
    by_cases hlt : k < args.length
    · have hi1 := Lib.hid (show k + 1 ≤ args.length by omega)
      have hi2 := Lib.hid (show args.length - (k + 1) < args.length - k by omega)
      have hAr := hA1.below hbr
      obtain ⟨b, o, hAe, hcells⟩ := hAr.2.2 (by omega)
      obtain ⟨x, hx⟩ : ∃ x, args[k]? = some x := ⟨_, List.getElem?_eq_getElem hlt⟩
      obtain ⟨c0, c1, c2⟩ := hcells k x hx
      have hm := List.mem_of_getElem? hx
      have hav := hA1.2.1 x hm
      have htk := Lib.hid (intsOf_take hx)
      have hcnt := Lib.hid (fun j => Nat.le_trans (intsOf_cnt hx j) hml.out)
      obtain ⟨xr, xc, xA, xv, xcap⟩ := x
      simp only at c0 c1 c2 hav htk hcnt
      subst hAe
      clear hcells hAr
      obtain ⟨L, hL⟩ : ∃ L, L = intsOf (args.take k) := ⟨_, rfl⟩
      rw [← hL] at htk hcnt ⊢
      have hvl := hav.1
      have hbE := hbr.alloc hsr (.cells #[.bool xr, .int .i64 xc, .slice xA xv.length xcap] 27)
      clear hL
      go_wp2_with fail
      obtain ⟨we, hwe⟩ : ∃ we, we = wr.alloc (.cells #[.bool xr, .int .i64 xc, .slice xA xv.length xcap] 27) := ⟨_, rfl⟩
      rw [← hwe] at hbE ⊢
      clear hwe
      go_loopw [3, 18] (fun n u wi => ∃ j : Nat, j ≤ xv.length ∧ u = .int .i64 j ∧ n = .int .i64 (L ++ (xv.take j).filter (fun v => v.1 == 1)).length ∧ Below W.heap.size W wi) (fun _ u _ => xv.length - (intOf u).toNat)
      case atStart => exact ⟨0, Nat.zero_le _, rfl, by simp, hbE⟩
      case round =>
        generalize wr = wi at *
        obtain ⟨j, hj, rfl, rfl, hbi⟩ := hrel
        have hsi := hbi.size
        by_cases hlt3 : j < xv.length
        · have hj1 := Lib.hid (show j + 1 ≤ xv.length by omega)
          have hj2 := Lib.hid (show xv.length - (j + 1) < xv.length - j by omega)
          obtain ⟨b2, o2, hAe2, hcells2⟩ := (hav.below hbi).2 (by omega)
          obtain ⟨y, hy⟩ : ∃ y, xv[j]? = some y := ⟨_, List.getElem?_eq_getElem hlt3⟩
          obtain ⟨d0, d1, d2⟩ := hcells2 j y hy
          have hft := filt_take hy
          have hc9 : (L ++ (xv.take j).filter (fun v => v.1 == 1)).length ≤ 1000000 := hcnt.out j
          have e2 : (L ++ (xv.take (j + 1)).filter (fun v => v.1 == 1)).length = (L ++ (xv.take j).filter (fun v => v.1 == 1)).length + (if y.1 == 1 then 1 else 0) := by rw [hft, ← List.append_assoc, List.length_append]; congr 1; split <;> rfl
          obtain ⟨yk, yn, ys⟩ := y
          simp only at d0 d1 d2 e2
          subst hAe2
          clear hcells2 hft hy
          obtain ⟨m, hm⟩ : ∃ m, (L ++ (xv.take j).filter (fun v => v.1 == 1)).length = m := ⟨_, rfl⟩
          rw [hm] at hc9 e2 ⊢
          clear hm
          have hb3 := hbi.alloc hsi (.cells #[.int .i64 yk, .int .i64 yn, .string ys] 31)
          by_cases h1 : yk = 1
          · subst h1
            rw [if_pos (show ((1 : Int) == 1) = true from rfl)] at e2
            have E2 := Lib.hid e2
            clear e2
            go_wp2
            go_roundw
            case rel => exact ⟨j + 1, hj1.out, by go_num, by rw [E2.out]; go_num, hb3⟩
            case measure => first | (simp [intOf]; done) | exact hj2.out | (have := hj2.out; simp [intOf]; omega)
          · have g1 : (yk == 1) = false := by simpa using h1
            have g1' : decide (yk = 1) = false := decide_eq_false h1
            rw [if_neg (by simp [h1])] at e2
            have E2 := Lib.hid e2
            clear e2 h1
            go_wp2
            go_roundw
            case rel => exact ⟨j + 1, hj1.out, by go_num, by rw [E2.out]; rfl, hb3⟩
            case measure => first | (simp [intOf]; done) | exact hj2.out | (have := hj2.out; simp [intOf]; omega)
        · have hje : j = xv.length := by omega
          subst hje
          have htk2 := Lib.hid (show intsOf (args.take (k + 1)) = L ++ xv.filter (fun v => v.1 == 1) from htk.out)
          rw [List.take_length]
          go_wp2
          go_roundw
          case rel => exact ⟨k + 1, hi1.out, by go_num, by rw [htk2.out], hbi⟩
          case measure => first | (simp [intOf]; done) | exact hi2.out | (have := hi2.out; simp [intOf]; omega)
    · have hie : k = args.length := by omega
      subst hie
      rw [List.take_length]
      obtain ⟨m, hm⟩ : ∃ m, (intsOf args).length = m := ⟨_, rfl⟩
      rw [hm]
      have HM := Lib.hid hm
      have hXr := (hbr.block R (Array.getElem?_eq_some_iff.1 hX).1).trans hX
      have hbz := hb0.trans (hbr.mono hb0.size)
      have HRL := Lib.hid hRl
      clear hm hbr hX
      go_wp2_with fail
      refine (num_any _ m).mono ?_
      rintro e w5 ⟨rfl, hb5⟩
      have hX5 := (hb5.block R (Array.getElem?_eq_some_iff.1 hXr).1).trans hXr
      have hb6 := hbz.trans (hb5.mono hbz.size)
      clear hXr hbz hb5
      obtain ⟨v0, v1, v2, z0, z1, z2⟩ := val3 hX5
      go_wp2
      have hz := val_store (x := .int .i64 1) (y := .int .i64 m) (z := .string ⟨#[]⟩) hX5
      obtain ⟨u0, u1, u2, _⟩ := val3 hz
      refine bodyPost_ret (v := .agg #[.int .i64 1, .int .i64 m, .string ⟨#[]⟩]) ?_ rfl ?_
      · simp [results, Tryd.f20, go_sem, u0, u1, u2]
      · exact ⟨by rw [HM.out], ((hb6.setCell (p := ⟨R, 0, none⟩) HRL.out _).setCell (p := ⟨R, 1, none⟩) HRL.out _).setCell (p := ⟨R, 2, none⟩) HRL.out _⟩
end Go.Proofs.YtcbaioagcemmnaaDoor
