/- fun.Call. Written by funcallgen.py. -/
import Derived.Test.YtcbaioagcemmnaaDoorFunOf
import Derived.Test.YtcbaioagcemmnaaDoorValSpec
namespace Go.Proofs.YtcbaioagcemmnaaDoor
open Go.RowKit Go.Maps
/-- an argument, and where its values lie -/
structure FArg where
  rg : Bool
  cols : Int
  A : Option Addr
  vs : List V3
  cap : Nat
/-- a list of values in memory, three cells each -/
def AtV (w : World) (A : Option Addr) (l : List V3) : Prop :=
  l.length ≤ 9223372036854775807 ∧ (0 < l.length → ∃ b o, A = some ⟨b, o, none⟩ ∧ ∀ i x, l[i]? = some x → w.cell? ⟨b, o + i * 3, none⟩ = some (.int .i64 x.1) ∧ w.cell? ⟨b, o + i * 3 + 1, none⟩ = some (.int .i64 x.2.1) ∧ w.cell? ⟨b, o + i * 3 + 2, none⟩ = some (.string x.2.2))
/-- a list of arguments in memory -/
def AtA (w : World) (A : Option Addr) (l : List FArg) : Prop :=
  l.length ≤ 9223372036854775807 ∧ (∀ a ∈ l, AtV w a.A a.vs) ∧ (0 < l.length → ∃ b o, A = some ⟨b, o, none⟩ ∧ ∀ i x, l[i]? = some x → w.cell? ⟨b, o + i * 3, none⟩ = some (.bool x.rg) ∧ w.cell? ⟨b, o + i * 3 + 1, none⟩ = some (.int .i64 x.cols) ∧ w.cell? ⟨b, o + i * 3 + 2, none⟩ = some (.slice x.A x.vs.length x.cap))
theorem AtV.below {w w' : World} {A : Option Addr} {l : List V3} (h : AtV w A l) (hb : Below w.heap.size w w') : AtV w' A l := by
  refine ⟨h.1, fun hn => ?_⟩
  obtain ⟨b, o, e, hc⟩ := h.2 hn
  refine ⟨b, o, e, fun i x hx => ?_⟩
  obtain ⟨h0, h1, h2⟩ := hc i x hx
  exact ⟨(hb.cell (World.block_lt_of_cell? w _ h0)).trans h0, (hb.cell (World.block_lt_of_cell? w _ h1)).trans h1, (hb.cell (World.block_lt_of_cell? w _ h2)).trans h2⟩
theorem AtA.below {w w' : World} {A : Option Addr} {l : List FArg} (h : AtA w A l) (hb : Below w.heap.size w w') : AtA w' A l := by
  refine ⟨h.1, fun a ha => (h.2.1 a ha).below hb, fun hn => ?_⟩
  obtain ⟨b, o, e, hc⟩ := h.2.2 hn
  refine ⟨b, o, e, fun i x hx => ?_⟩
  obtain ⟨h0, h1, h2⟩ := hc i x hx
  exact ⟨(hb.cell (World.block_lt_of_cell? w _ h0)).trans h0, (hb.cell (World.block_lt_of_cell? w _ h1)).trans h1, (hb.cell (World.block_lt_of_cell? w _ h2)).trans h2⟩
set_option maxRecDepth 100000 in
set_option maxHeartbeats 4000000 in
theorem call_any (w : World) (A : Option Addr) (args : List FArg) (c : Nat) (name : ByteArray) (hn : name.size ≤ maxLen) (least most : Int) (rg td : Bool) (g : Nat)
    (hr : (ruleTab A args.length c).atKey (.string name.data.toList) .nil = .held (.agg #[.int .i64 least, .int .i64 most, .bool rg, .bool td, .func (.func g) #[.agg #[.slice A args.length c]] #[]]))
    (hA : AtA w A args) (h1 : least ≤ args.length) (h2 : (args.length : Int) ≤ most) (hs : ∀ a ∈ args, (a.rg = true → rg = true) ∧ (a.rg = false → a.vs.length = 1)) (he : ∀ a ∈ args, ∀ v ∈ FArg.vs a, td = true → v.1 ≠ 4) (rk rn : Int) (rs : ByteArray)
    (hg : ∀ us W, (callFunc g us).run Tryd.prog W = .ok (.enter g us) W)
    (hc : ∀ W, Below w.heap.size w W → Calls Tryd.prog g #[.agg #[.slice A args.length c]] W fun e W' => e = .returned (.agg #[.int .i64 rk, .int .i64 rn, .string rs]) ∧ Below W.heap.size W W') :
    Calls Tryd.prog 12 #[.string name, .slice A args.length c] w fun e w' => e = .returned (.agg #[.int .i64 rk, .int .i64 rn, .string rs]) ∧ Below w.heap.size w w' := by
  have HO := Lib.hid (fun W => of_hit W A args.length c name hn least most rg td g hr)
  have HC := Lib.hid hc
  clear hr hn hc
  go_enter Tryd.func12, Tryd.ntmps12
  go_wp2_with fail
  refine (HO.out _).mono ?_
  rintro e w1 ⟨rfl, hb1⟩
  obtain ⟨P, hP⟩ : ∃ P, w.heap.size = P := ⟨_, rfl⟩
  have hb0 : Below P w (w1.alloc (.cells #[.int .i64 least, .int .i64 most, .bool rg, .bool td, .func (.func g) #[.agg #[.slice A args.length c]] #[]] 47)) := by rw [← hP]; exact ((((Below.refl _ _).alloc (Nat.le_refl _) _).alloc (by simp) _).trans (hb1.mono (by simp; omega))).alloc (by have := hb1.size; simp at this; omega) _
  have hX : (w1.alloc (.cells #[.int .i64 least, .int .i64 most, .bool rg, .bool td, .func (.func g) #[.agg #[.slice A args.length c]] #[]] 47)).heap[P]? = some (.cells #[.int .i64 0, .int .i64 0, .string ⟨#[]⟩] 31 (0, 0)) := by
    have h0 : ((w.alloc (.cells #[.int .i64 0, .int .i64 0, .string ⟨#[]⟩] 31)).alloc (.cells #[.slice A args.length c] 44)).heap[P]? = some (.cells #[.int .i64 0, .int .i64 0, .string ⟨#[]⟩] 31 (0, 0)) := by rw [← hP]; exact (Below.heap_alloc _ _ _ (by simp)).trans (heap_alloc_new _ _)
    have h1 := (hb1.block P (by rw [← hP]; simp; omega)).trans h0
    exact (Below.heap_alloc _ _ _ (Array.getElem?_eq_some_iff.1 h1).1).trans h1
  obtain ⟨Q, hQ⟩ : ∃ Q, w1.heap.size = Q := ⟨_, rfl⟩
  have hY : (w1.alloc (.cells #[.int .i64 least, .int .i64 most, .bool rg, .bool td, .func (.func g) #[.agg #[.slice A args.length c]] #[]] 47)).heap[Q]? = some (.cells #[.int .i64 least, .int .i64 most, .bool rg, .bool td, .func (.func g) #[.agg #[.slice A args.length c]] #[]] 47 (0, 0)) := by rw [← hQ]; exact heap_alloc_new _ _
  have hA1 := hA.below (hP ▸ hb0)
  obtain ⟨W, hW⟩ : ∃ W, W = w1.alloc (.cells #[.int .i64 least, .int .i64 most, .bool rg, .bool td, .func (.func g) #[.agg #[.slice A args.length c]] #[]] 47) := ⟨_, rfl⟩
  rw [← hW] at hb0 hX hY hA1
  clear hb1 HO
  go_wp2_with fail
  (try rw [← hW]); (try rw [hP]); (try rw [hQ])
  clear hW hQ
  obtain ⟨r0, r1, r2, r3, r4, _⟩ := five hY
  have hQl : Q < W.heap.size := (Array.getElem?_eq_some_iff.1 hY).1
  have hPl : P < W.heap.size := (Array.getElem?_eq_some_iff.1 hX).1
  go_loopw [42] (fun u wr => ∃ i : Nat, i ≤ args.length ∧ u = .int .i64 i ∧ Below W.heap.size W wr) (fun u _ => args.length - (intOf u).toNat)
  case atStart => exact ⟨0, Nat.zero_le _, rfl, Below.refl _ _⟩
  case round =>
    obtain ⟨i, hi, rfl, hbr⟩ := hrel
    have hsr := hbr.size
    have hYr := (hbr.block Q hQl).trans hY
    have hQr : Q < wr.heap.size := (Array.getElem?_eq_some_iff.1 hYr).1
    clear r0 r1 r2 r3 r4
    have hbnd := hA1.1
    by_cases hlt : i < args.length
    · have hi1 := Lib.hid (show i + 1 ≤ args.length by omega)
      have hi2 := Lib.hid (show args.length - (i + 1) < args.length - i by omega)
      have hAr := hA1.below hbr
      obtain ⟨b, o, hAe, hcells⟩ := hAr.2.2 (by omega)
      obtain ⟨x, hx⟩ : ∃ x, args[i]? = some x := ⟨_, List.getElem?_eq_getElem hlt⟩
      obtain ⟨c0, c1, c2⟩ := hcells i x hx
      obtain ⟨xr, xc, xA, xv, xcap⟩ := x
      have hm := List.mem_of_getElem? hx
      have hsx := hs _ hm
      simp only at c0 c1 c2 hsx
      subst hAe
      clear hcells hX hY
      cases xr with
      | true =>
        have hrg : rg = true := hsx.1 rfl
        subst hrg
        obtain ⟨r0, r1, r2, r3, r4, _⟩ := five ((Below.heap_alloc wr (.cells #[.bool true, .int .i64 xc, .slice xA xv.length xcap] 27) Q hQr).trans hYr)
        clear hYr
        go_wp2
        go_roundw
        case rel => exact ⟨i + 1, hi1.out, by go_num, hbr.alloc hsr _⟩
        case measure => first | (simp [intOf]; done) | exact hi2.out | (have := hi2.out; simp [intOf]; omega)
      | false =>
        have hlen : xv.length = 1 := hsx.2 rfl
        obtain ⟨r0, r1, r2, r3, r4, _⟩ := five ((Below.heap_alloc wr (.cells #[.bool false, .int .i64 xc, .slice xA xv.length xcap] 27) Q hQr).trans hYr)
        clear hYr
        rw [hlen] at *
        go_wp2
        go_roundw
        case rel => exact ⟨i + 1, hi1.out, by go_num, hbr.alloc hsr _⟩
        case measure => first | (simp [intOf]; done) | exact hi2.out | (have := hi2.out; simp [intOf]; omega)
    · have hie : i = args.length := by omega
      obtain ⟨r0, r1, r2, r3, r4, _⟩ := five hYr
      have hXr := (hbr.block P hPl).trans hX
      have hPr : P < wr.heap.size := (Array.getElem?_eq_some_iff.1 hXr).1
      have hbx := hb0.trans (hbr.mono (by have := hb0.size; omega))
      have hYr2 := hYr
      clear hX hYr
      cases td with
      | false =>
        go_wp2_with fail
        refine (HC.out _ (hP ▸ hbx)).mono ?_
        rintro e wn ⟨rfl, hbn⟩
        have hXn := (hbn.block P hPr).trans hXr
        have hbz := hbx.trans (hbn.mono (by have := hbx.size; omega))
        obtain ⟨v0, v1, v2, z0, z1, z2⟩ := val3 hXn
        clear r0 r1 r2 r3 r4
        go_wp2
        have hz := val_store (x := .int .i64 rk) (y := .int .i64 rn) (z := .string rs) hXn
        obtain ⟨q0, q1, q2, _⟩ := val3 hz
        refine bodyPost_ret (v := .agg #[.int .i64 rk, .int .i64 rn, .string rs]) ?_ rfl ?_
        · simp [results, Tryd.f12, go_sem, q0, q1, q2]
        · exact ⟨rfl, hP ▸ ((hbz.setCell (p := ⟨P, 0, none⟩) (Nat.le_refl _) _).setCell (p := ⟨P, 1, none⟩) (Nat.le_refl _) _).setCell (p := ⟨P, 2, none⟩) (Nat.le_refl _) _⟩
      | true =>
        have hA2 := hA1.below hbr
        generalize wr = wa at *
        go_wp2_with fail
        go_loopw [70] (fun u wq => ∃ i : Nat, i ≤ args.length ∧ u = .int .i64 i ∧ Below wa.heap.size wa wq) (fun u _ => args.length - (intOf u).toNat)
        case atStart => exact ⟨0, Nat.zero_le _, rfl, Below.refl _ _⟩
        case round =>
          generalize wr = wq at *
          obtain ⟨k, hk, rfl, hbq⟩ := hrel
          have hsq := hbq.size
          have hXq := (hbq.block P hPr).trans hXr
          have hYq := (hbq.block Q hQr).trans hYr2
          have hPq : P < wq.heap.size := (Array.getElem?_eq_some_iff.1 hXq).1
          have hby := hbx.trans (hbq.mono (by have := hbx.size; omega))
          clear r0 r1 r2 r3 r4
          by_cases hlt2 : k < args.length
          · have hi1 := Lib.hid (show k + 1 ≤ args.length by omega)
            have hi2 := Lib.hid (show args.length - (k + 1) < args.length - k by omega)
            have hAr := hA2.below hbq
            obtain ⟨b, o, hAe, hcells⟩ := hAr.2.2 (by omega)
            obtain ⟨x, hx⟩ : ∃ x, args[k]? = some x := ⟨_, List.getElem?_eq_getElem hlt2⟩
            obtain ⟨c0, c1, c2⟩ := hcells k x hx
            have hm := List.mem_of_getElem? hx
            have hax := hAr.2.1 x hm
            have hex := Lib.hid (he x hm)
            obtain ⟨xr, xc, xA, xv, xcap⟩ := x
            simp only at c0 c1 c2 hax hex
            subst hAe
            clear hcells hYq hYr2 hXr
            have hav := hax.below ((Below.refl _ _).alloc (Nat.le_refl _) (.cells #[.bool xr, .int .i64 xc, .slice xA xv.length xcap] 27))
            have hbv := hbq.alloc hsq (.cells #[.bool xr, .int .i64 xc, .slice xA xv.length xcap] 27)
            have hvl := hav.1
            go_wp2_with fail
            obtain ⟨we, hwe⟩ : ∃ we, we = wq.alloc (.cells #[.bool xr, .int .i64 xc, .slice xA xv.length xcap] 27) := ⟨_, rfl⟩
            rw [← hwe] at hav hbv ⊢
            go_loopw [77] (fun u wi => ∃ j : Nat, j ≤ xv.length ∧ u = .int .i64 j ∧ Below we.heap.size we wi) (fun u _ => xv.length - (intOf u).toNat)
            case atStart => exact ⟨0, Nat.zero_le _, rfl, Below.refl _ _⟩
            case round =>
              obtain ⟨j, hj, rfl, hbi⟩ := hrel
              have hsi := hbi.size
              have hbw := hbv.trans (hbi.mono hbv.size)
              by_cases hlt3 : j < xv.length
              · have hj1 := Lib.hid (show j + 1 ≤ xv.length by omega)
                have hj2 := Lib.hid (show xv.length - (j + 1) < xv.length - j by omega)
                obtain ⟨b2, o2, hAe2, hcells2⟩ := (hav.below hbi).2 (by omega)
                obtain ⟨y, hy⟩ : ∃ y, xv[j]? = some y := ⟨_, List.getElem?_eq_getElem hlt3⟩
                obtain ⟨d0, d1, d2⟩ := hcells2 j y hy
                have hk4 := hex.out y (List.mem_of_getElem? hy) (by trivial)
                obtain ⟨yk, yn, ys⟩ := y
                simp only at d0 d1 d2 hk4
                have g1 : (yk == 4) = false := by simpa using hk4
                have g2 : decide (yk = 4) = false := decide_eq_false hk4
                subst hAe2
                clear hcells2 hk4
                go_wp2
                go_roundw
                case rel => exact ⟨j + 1, hj1.out, by go_num, hbi.alloc hsi _⟩
                case measure => first | (simp [intOf]; done) | exact hj2.out | (have := hj2.out; simp [intOf]; omega)
              · have hje : j = xv.length := by omega
                subst hje
                go_wp2
                go_roundw
                case rel => exact ⟨k + 1, hi1.out, by go_num, hbw⟩
                case measure => first | (simp [intOf]; done) | exact hi2.out | (have := hi2.out; simp [intOf]; omega)
          · have hie : k = args.length := by omega
            subst hie
            obtain ⟨r0, r1, r2, r3, r4, _⟩ := five hYq
            go_wp2_with fail
            refine (HC.out _ (hP ▸ hby)).mono ?_
            rintro e wn ⟨rfl, hbn⟩
            have hXn := (hbn.block P hPq).trans hXq
            have hbz := hby.trans (hbn.mono (by have := hby.size; omega))
            obtain ⟨v0, v1, v2, z0, z1, z2⟩ := val3 hXn
            clear r0 r1 r2 r3 r4
            go_wp2
            have hz := val_store (x := .int .i64 rk) (y := .int .i64 rn) (z := .string rs) hXn
            obtain ⟨q0, q1, q2, _⟩ := val3 hz
            refine bodyPost_ret (v := .agg #[.int .i64 rk, .int .i64 rn, .string rs]) ?_ rfl ?_
            · simp [results, Tryd.f12, go_sem, q0, q1, q2]
            · exact ⟨rfl, hP ▸ ((hbz.setCell (p := ⟨P, 0, none⟩) (Nat.le_refl _) _).setCell (p := ⟨P, 1, none⟩) (Nat.le_refl _) _).setCell (p := ⟨P, 2, none⟩) (Nat.le_refl _) _⟩
end Go.Proofs.YtcbaioagcemmnaaDoor
