/- The walk of FunSums. Written by funsumsgen.py. -/
import Derived.Test.YtcbaioagcemmnaaDoorFunSArgs
namespace Go.Proofs.YtcbaioagcemmnaaDoor
open Go.RowKit Go.Maps
abbrev blt : Int → Int → Bool := fun x y => decide (x < y)
abbrev bgt : Int → Int → Bool := fun x y => decide (x > y)
theorem psum_small {l : List Int} (hw : ∀ n ∈ l, -2147483648 ≤ n ∧ n ≤ 2147483647) : ∀ k : Nat, -2147483648 * (k : Int) ≤ psum (ivals l) k ∧ psum (ivals l) k ≤ 2147483648 * (k : Int) := by
  intro k
  induction k with
  | zero => simp [psum]
  | succ k ih =>
    cases h : l[k]? with
    | none =>
      have e : psum (ivals l) (k + 1) = psum (ivals l) k := by
        have h1 : l.length ≤ k := List.getElem?_eq_none_iff.1 h
        unfold psum
        rw [List.take_of_length_le (by rw [ivals_len]; omega), List.take_of_length_le (by rw [ivals_len]; omega)]
      rw [e]
      omega
    | some x =>
      rw [psum_succ (ivals_get h)]
      have := hw x (List.mem_of_getElem? h)
      simp only
      omega
theorem psum_end {l : List Int} {k : Nat} (h : l.length ≤ k) : psum (ivals l) k = psum (ivals l) l.length := by
  unfold psum
  rw [List.take_of_length_le (by rw [ivals_len]; omega), List.take_of_length_le (by rw [ivals_len]; omega)]
theorem own_cap {w : World} {base n c : Nat} {e : TypeId} {size : Nat} {A : Option Addr} {xs : List Value} (h : w.ownsRow base e size (.slice A n c) n xs) : n ≤ c := by
  obtain ⟨_, _, hBe, hcap, _⟩ := own_form h
  injection hBe with _ _ hBe
  omega
theorem field_n (x y z : Value) (W : World) : (Instr.field 31 (.agg #[x, y, z]) 1).run Tryd.prog W = .ok y W := by kernel_rfl
set_option maxRecDepth 100000 in
set_option maxHeartbeats 4000000 in
theorem funSums_walk (w : World) (A : Option Addr) (l : List Int) (c : Nat) (n : Int) (wide : Bool) (hl : At1 (Value.int .i32) w A l) (hw : ∀ n ∈ l, (Lit.int .i32 n).wf = true) (hn : (Lit.int .u8 n).wf = true) :
    Calls Tryd.prog 3 #[.slice A l.length c, .int .u8 n, .bool wide] w fun e w' => e = .returned (.bool true) ∧ Below w.heap.size w w' := by
  have hn0 : 0 ≤ n ∧ n ≤ 255 := by simpa [Lit.wf, IntKind.min, IntKind.max, IntKind.signed, IntKind.bits] using hn
  have wn : IntKind.i64.wrap n = n := by simp [IntKind.wrap, IntKind.signed, IntKind.bits]; omega
  have hln := hl.1
  by_cases hbig : 30 < l.length
  · have hd : decide (30 < (l.length : Int)) = true := decide_eq_true (by omega)
    clear hn0
    go_enter Tryd.func3, Tryd.ntmps3
    go_wp2_with fail
    refine (awake8 _).mono ?_
    rintro e w5 ⟨rfl, hb9⟩
    go_wp2
    go_ret
    exact ⟨rfl, hb9⟩
  have hd : decide (30 < (l.length : Int)) = false := decide_eq_false (by omega)
  have hR : ∀ x ∈ l, -2147483648 ≤ x ∧ x ≤ 2147483647 := fun x hx => by simpa [Lit.wf, IntKind.min, IntKind.max, IntKind.signed, IntKind.bits] using hw x hx
  have HR := Lib.hid hR
  have HP := Lib.hid (psum_small hR)
  have HI := Lib.hid (show ∀ x ∈ l, InR x from fun x hx => ⟨by have := (hR x hx).1; omega, by have := (hR x hx).2; omega⟩)
  have HS := Lib.hid (show ∀ k, InR (psum (ivals l) k) from fun k => by
    by_cases hk : k ≤ l.length
    · have := HP.out k
      exact ⟨by omega, by omega⟩
    · rw [psum_end (by omega)]
      have := HP.out l.length
      exact ⟨by omega, by omega⟩)
  have HL := Lib.hid hl
  have HW := Lib.hid hw
  obtain ⟨k, hk⟩ : ∃ k : Nat, n.tmod ((l.length : Int) + 1) = (k : Int) := ⟨(n.tmod ((l.length : Int) + 1)).toNat, by rw [Int.toNat_of_nonneg (Int.tmod_nonneg _ hn0.1)]⟩
  have hkl : k ≤ l.length := by
    have h1 := Int.tmod_lt_of_pos n (show (0 : Int) < (l.length : Int) + 1 by omega)
    omega
  have hl30 : l.length ≤ 30 := by omega
  clear hw hR hn hn0 hbig hl
  go_enter Tryd.func3, Tryd.ntmps3
  go_wp2_with fail
  refine (lints_any _ A l c HL.out HW.out (by omega)).mono ?_
  rintro e w1 ⟨B, cap, rfl, hb1, hown1⟩
  have hcap := own_cap hown1
  have hVl : AV w1 B (ivals l) := av_of_own hown1 (by rw [ivals_len]; omega)
  have hkc : k ≤ cap := by omega
  have hs1 := hb1.size
  clear hown1
  have hown2 : (w1.alloc (.cells #[.bool true, .int .i64 1, .slice B k cap] 27)).ownsRow w1.heap.size 27 3 (.slice (some ⟨w1.heap.size, 0, none⟩) 1 1) 1 (List.flatMap argCells [⟨true, 1, B, ivals (l.take k), cap⟩]) :=
    own_lit_args (w := w1) (base := w1.heap.size) (l := [⟨true, 1, B, ivals (l.take k), cap⟩]) (cs := #[.bool true, .int .i64 1, .slice B k cap]) (Nat.le_refl _) (by simp [argCells, ivals_len]; omega) rfl (by unfold maxLen; simp)
  have hb2 : Below w1.heap.size w1 (w1.alloc (.cells #[.bool true, .int .i64 1, .slice B k cap] 27)) := (Below.refl _ _).alloc (Nat.le_refl _) (.cells #[.bool true, .int .i64 1, .slice B k cap] 27)
  have hs2 := hb2.size
  cases wide with
  | true =>
    have hCut := hVl.cut hcap hkl
    by_cases hck : cap = k
    · rw [if_pos hck] at hCut
      obtain rfl : cap = l.length := by omega
      subst hck
      go_wp2_with (at_builtin; refine wpList_appN (cs := #[.bool true, .int .i64 1, .slice B 0 0]) eArg rfl rfl hown2 rfl rfl (by first | rfl | simp) rfl (by intro u hu; simp at hu; rcases hu with rfl | rfl | rfl <;> rfl) (by omega) hs2 ?_; intro v1 w9 hown9 hg1 hk1; obtain ⟨A9, c9, rfl, _⟩ := own_form hown9)
      obtain ⟨as_, hae⟩ : ∃ as_ : List FArg, as_ = [⟨true, 1, B, ivals (l.take l.length), l.length⟩, ⟨true, 1, B, ivals (l.drop l.length), 0⟩] := ⟨_, rfl⟩
      have hSA : SA l as_ := by rw [hae]; exact SA.both l l.length _ _ _ _
      have HM := Lib.hid (show as_.length = 2 by rw [hae]; rfl)
      have hAA : AtA w9 A9 as_ := by
        refine atA_of_own (n := 2) (base := w1.heap.size) (c := c9) ?_ (by rw [HM.out]; omega) HM.out (fun a ha => ?_)
        · rw [hae]
          have e : List.flatMap argCells [⟨true, 1, B, ivals (l.take l.length), l.length⟩, ⟨true, 1, B, ivals (l.drop l.length), 0⟩] = List.flatMap argCells [⟨true, 1, B, ivals (l.take l.length), l.length⟩] ++ [.bool true, .int .i64 1, .slice B 0 0] := by simp [argCells, ivals_len]
          rw [e]
          exact hown9
        · rw [hae] at ha
          simp only [List.mem_cons, List.not_mem_nil, or_false] at ha
          rcases ha with rfl | rfl
          · exact (((hVl.take l.length).below hb2).grown hown2 hg1).1
          · exact ((hCut.below hb2).grown hown2 hg1).1
      have hb9 : Below w.heap.size w w9 := hb1.trans ((below_grown hb2 hown2 hg1 (Nat.le_refl _) hs2).mono hb1.size)
      clear hown9 hg1 hk1 hVl hb1 hb2 hown2 hae hCut

      have CS := Lib.hid (fun W (hW : AtA W A9 as_) => HM.out ▸ call_sum W A9 c9 hSA hW (by omega) HI.out HS.out)
      have CC := Lib.hid (fun W (hW : AtA W A9 as_) => HM.out ▸ call_count W A9 c9 hSA hW (by omega))
      have CN := Lib.hid (fun W (hW : AtA W A9 as_) => HM.out ▸ call_min W A9 c9 hSA hW (by omega))
      have CX := Lib.hid (fun W (hW : AtA W A9 as_) => HM.out ▸ call_max W A9 c9 hSA hW (by omega))
      clear hSA
      go_wp2_with fail
      go_loopw [11, 12, 13, 14] (fun s a b u wr => ∃ i : Nat, i ≤ l.length ∧ u = .int .i64 i ∧ s = .int .i64 (psum (ivals l) i) ∧ a = .int .i64 (best (fun x y => decide (x < y)) (ivals l) i).2.1 ∧ b = .int .i64 (best (fun x y => decide (x > y)) (ivals l) i).2.1 ∧ wr = w9) (fun _ _ _ u _ => l.length - (intOf u).toNat)
      case atStart => exact ⟨0, Nat.zero_le _, rfl, rfl, rfl, rfl, rfl⟩
      case round =>
        obtain ⟨i, hil, rfl, rfl, rfl, rfl, rfl⟩ := hrel
        by_cases hlt : i < l.length
        · have hi1 := Lib.hid (show i + 1 ≤ l.length by omega)
          have hi2 := Lib.hid (show l.length - (i + 1) < l.length - i by omega)
          obtain ⟨ad, hAe, hcell⟩ := HL.out.2 (by omega)
          obtain ⟨x, hx⟩ : ∃ x, l[i]? = some x := ⟨_, List.getElem?_eq_getElem hlt⟩
          have hc0 := hcell i x hx
          have hc1 := (hb9.cell (World.block_lt_of_cell? w _ hc0)).trans hc0
          have hxr := HR.out x (List.mem_of_getElem? hx)
          have hps := HP.out i
          have HPS := Lib.hid (psum_succ (ivals_get hx))
          have BY1 := Lib.hid (fun h => best_yes (ah := fun x y => decide (x < y)) (ivals_get hx) h)
          have BN1 := Lib.hid (fun h h2 => best_no (ah := fun x y => decide (x < y)) (ivals_get hx) h h2)
          have BY2 := Lib.hid (fun h => best_yes (ah := fun x y => decide (x > y)) (ivals_get hx) h)
          have BN2 := Lib.hid (fun h h2 => best_no (ah := fun x y => decide (x > y)) (ivals_get hx) h h2)
          simp only at HPS BY1 BN1 BY2 BN2
          have wx : IntKind.i64.wrap x = x := by simp [IntKind.wrap, IntKind.signed, IntKind.bits]; omega
          obtain ⟨s, hs⟩ : ∃ s, psum (ivals l) i = s := ⟨_, rfl⟩
          rw [hs] at hps HPS ⊢
          have ws : IntKind.i64.wrap (s + x) = s + x := by simp [IntKind.wrap, IntKind.signed, IntKind.bits]; omega
          subst hAe
          clear hcell hc0 hxr hs hx hps CS CC CN CX
          by_cases hi0 : i = 0
          · subst hi0
            have hc2 := hc1
            rw [add_zero_] at hc2
            have BE1 := Lib.hid (congrArg (fun v : V3 => v.2.1) (BY1.out (.inl rfl)))
            have BE2 := Lib.hid (congrArg (fun v : V3 => v.2.1) (BY2.out (.inl rfl)))
            (try simp only at BE1); (try simp only at BE2)
            clear BY1 BN1 BY2 BN2
            go_wp2
            go_roundw
            case rel => exact ⟨0 + 1, hi1.out, by go_num, by rw [HPS.out], by rw [BE1.out], by rw [BE2.out], by first | rfl | trivial⟩
            case measure => first | (simp [intOf]; done) | exact hi2.out | (have := hi2.out; simp [intOf]; omega)
          have kz : ((i : Int) == 0) = false := by rw [beq_eq_false_iff_ne]; omega
          have kz' : decide ((i : Int) = 0) = false := decide_eq_false (by omega)
          obtain ⟨lo, hlo9⟩ : ∃ lo, (best (fun x y => decide (x < y)) (ivals l) i).2.1 = lo := ⟨_, rfl⟩
          obtain ⟨hi, hhi9⟩ : ∃ hi, (best (fun x y => decide (x > y)) (ivals l) i).2.1 = hi := ⟨_, rfl⟩
          rw [hlo9] at BY1 BN1 ⊢
          rw [hhi9] at BY2 BN2 ⊢
          have HLO := Lib.hid hlo9
          have HHI := Lib.hid hhi9
          clear hlo9 hhi9
          by_cases h1 : x < lo
          · have g1 : decide (x < lo) = true := decide_eq_true h1
            have BE1 := Lib.hid (congrArg (fun v : V3 => v.2.1) (BY1.out (.inr g1)))
            (try simp only at BE1)
            by_cases h2 : hi < x
            · have g2 : decide (hi < x) = true := decide_eq_true h2
              have BE2 := Lib.hid (congrArg (fun v : V3 => v.2.1) (BY2.out (.inr g2)))
              (try simp only at BE2)
              clear BY1 BN1 BY2 BN2 h1 h2
              go_wp2
              go_roundw
              case rel => exact ⟨i + 1, hi1.out, by go_num, by rw [HPS.out], by rw [BE1.out], by rw [BE2.out], by first | rfl | trivial⟩
              case measure => first | (simp [intOf]; done) | exact hi2.out | (have := hi2.out; simp [intOf]; omega)
            · have g2 : decide (hi < x) = false := decide_eq_false h2
              have BE2 := Lib.hid (congrArg (fun v : V3 => v.2.1) (BN2.out hi0 g2))
              (try simp only at BE2)
              clear BY1 BN1 BY2 BN2 h1 h2
              go_wp2
              go_roundw
              case rel => exact ⟨i + 1, hi1.out, by go_num, by rw [HPS.out], by rw [BE1.out], by rw [BE2.out, HHI.out], by first | rfl | trivial⟩
              case measure => first | (simp [intOf]; done) | exact hi2.out | (have := hi2.out; simp [intOf]; omega)
          · have g1 : decide (x < lo) = false := decide_eq_false h1
            have BE1 := Lib.hid (congrArg (fun v : V3 => v.2.1) (BN1.out hi0 g1))
            (try simp only at BE1)
            by_cases h2 : hi < x
            · have g2 : decide (hi < x) = true := decide_eq_true h2
              have BE2 := Lib.hid (congrArg (fun v : V3 => v.2.1) (BY2.out (.inr g2)))
              (try simp only at BE2)
              clear BY1 BN1 BY2 BN2 h1 h2
              go_wp2
              go_roundw
              case rel => exact ⟨i + 1, hi1.out, by go_num, by rw [HPS.out], by rw [BE1.out, HLO.out], by rw [BE2.out], by first | rfl | trivial⟩
              case measure => first | (simp [intOf]; done) | exact hi2.out | (have := hi2.out; simp [intOf]; omega)
            · have g2 : decide (hi < x) = false := decide_eq_false h2
              have BE2 := Lib.hid (congrArg (fun v : V3 => v.2.1) (BN2.out hi0 g2))
              (try simp only at BE2)
              clear BY1 BN1 BY2 BN2 h1 h2
              go_wp2
              go_roundw
              case rel => exact ⟨i + 1, hi1.out, by go_num, by rw [HPS.out], by rw [BE1.out, HLO.out], by rw [BE2.out, HHI.out], by first | rfl | trivial⟩
              case measure => first | (simp [intOf]; done) | exact hi2.out | (have := hi2.out; simp [intOf]; omega)
        · have hie : i = l.length := by omega
          subst hie
          obtain ⟨sm, hsm⟩ : ∃ sm, psum (ivals l) l.length = sm := ⟨_, rfl⟩
          obtain ⟨lo, hlo⟩ : ∃ lo, (best (fun x y => decide (x < y)) (ivals l) l.length).2.1 = lo := ⟨_, rfl⟩
          obtain ⟨hi, hhi⟩ : ∃ hi, (best (fun x y => decide (x > y)) (ivals l) l.length).2.1 = hi := ⟨_, rfl⟩
          rw [hsm] at CS ⊢
          rw [hlo] at CN ⊢
          rw [hhi] at CX ⊢
          clear hsm hlo hhi
          go_wp2_with fail
          refine (CS.out _ hAA).mono ?_
          rintro e w3 ⟨rfl, hb3⟩
          have hA3 := hAA.below hb3
          have hb4 := hb9.trans (hb3.mono hb9.size)
          clear hAA hb9 hb3
          go_wp2_with fail
          refine (CC.out _ hA3).mono ?_
          rintro e w4 ⟨rfl, hb5⟩
          have hA4 := hA3.below hb5
          have hb6 := hb4.trans (hb5.mono hb4.size)
          clear hA3 hb4 hb5
          have hs6 := hb6.size
          have hb7 : Below w4.heap.size w4 ((w4.alloc (.cells #[.int .i64 1, .int .i64 sm, .string ⟨#[]⟩] 31)).alloc (.cells #[.int .i64 1, .int .i64 l.length, .string ⟨#[]⟩] 31)) := ((Below.refl _ _).alloc (Nat.le_refl _) _).alloc (by simp) _
          have hA5 := hA4.below hb7
          have hb8 := hb6.trans (hb7.mono hs6)
          have hv1 := (Below.heap_alloc (w4.alloc (.cells #[.int .i64 1, .int .i64 sm, .string ⟨#[]⟩] 31)) (.cells #[.int .i64 1, .int .i64 l.length, .string ⟨#[]⟩] 31) w4.heap.size (by simp)).trans (heap_alloc_new w4 (.cells #[.int .i64 1, .int .i64 sm, .string ⟨#[]⟩] 31))
          have hv2 := heap_alloc_new (w4.alloc (.cells #[.int .i64 1, .int .i64 sm, .string ⟨#[]⟩] 31)) (.cells #[.int .i64 1, .int .i64 l.length, .string ⟨#[]⟩] 31)
          rw [World.size_alloc] at hv2
          clear hA4 hb6 hb7
          have hs8 := hb8.size
          obtain ⟨p0, p1, p2, _⟩ := val3 hv1
          obtain ⟨q0, q1, q2, _⟩ := val3 hv2
          go_wp2_with fail
          refine (CN.out _ hA5).mono ?_
          rintro e w5 ⟨rfl, hb9⟩
          have hA6 := hA5.below hb9
          have hb10 := hb8.trans (hb9.mono hs8)
          have hfld := field_n
          clear hA5 hb8 hb9 p0 p1 p2 q0 q1 q2 hv1 hv2
          go_wp2_with fail
          refine (CX.out _ hA6).mono ?_
          rintro e w6 ⟨rfl, hb11⟩
          have hb12 := hb10.trans (hb11.mono hb10.size)
          clear hA6 hb10 hb11
          go_wp2_with fail
          refine (awake8 _).mono ?_
          rintro e w7 ⟨rfl, hb13⟩
          have hbz := hb12.trans (hb13.mono hb12.size)
          clear hb12 hb13
          go_wp2
          go_ret
          exact ⟨rfl, hbz⟩
    · rw [if_neg hck] at hCut
      go_wp2_with (at_builtin; refine wpList_appN (cs := #[.bool true, .int .i64 1, .slice (Option.map (fun x => x.add (k * 3)) B) (l.length - k) (cap - k)]) eArg rfl rfl hown2 rfl rfl (by first | rfl | simp) rfl (by intro u hu; simp at hu; rcases hu with rfl | rfl | rfl <;> rfl) (by omega) hs2 ?_; intro v1 w9 hown9 hg1 hk1; obtain ⟨A9, c9, rfl, _⟩ := own_form hown9)
      obtain ⟨as_, hae⟩ : ∃ as_ : List FArg, as_ = [⟨true, 1, B, ivals (l.take k), cap⟩, ⟨true, 1, (Option.map (fun x => x.add (k * 3)) B), ivals (l.drop k), cap - k⟩] := ⟨_, rfl⟩
      have hSA : SA l as_ := by rw [hae]; exact SA.both l k _ _ _ _
      have HM := Lib.hid (show as_.length = 2 by rw [hae]; rfl)
      have hAA : AtA w9 A9 as_ := by
        refine atA_of_own (n := 2) (base := w1.heap.size) (c := c9) ?_ (by rw [HM.out]; omega) HM.out (fun a ha => ?_)
        · rw [hae]
          have e : List.flatMap argCells [⟨true, 1, B, ivals (l.take k), cap⟩, ⟨true, 1, (Option.map (fun x => x.add (k * 3)) B), ivals (l.drop k), cap - k⟩] = List.flatMap argCells [⟨true, 1, B, ivals (l.take k), cap⟩] ++ [.bool true, .int .i64 1, .slice (Option.map (fun x => x.add (k * 3)) B) (l.length - k) (cap - k)] := by simp [argCells, ivals_len]
          rw [e]
          exact hown9
        · rw [hae] at ha
          simp only [List.mem_cons, List.not_mem_nil, or_false] at ha
          rcases ha with rfl | rfl
          · exact (((hVl.take k).below hb2).grown hown2 hg1).1
          · exact ((hCut.below hb2).grown hown2 hg1).1
      have hb9 : Below w.heap.size w w9 := hb1.trans ((below_grown hb2 hown2 hg1 (Nat.le_refl _) hs2).mono hb1.size)
      clear hown9 hg1 hk1 hVl hb1 hb2 hown2 hae hCut

      have CS := Lib.hid (fun W (hW : AtA W A9 as_) => HM.out ▸ call_sum W A9 c9 hSA hW (by omega) HI.out HS.out)
      have CC := Lib.hid (fun W (hW : AtA W A9 as_) => HM.out ▸ call_count W A9 c9 hSA hW (by omega))
      have CN := Lib.hid (fun W (hW : AtA W A9 as_) => HM.out ▸ call_min W A9 c9 hSA hW (by omega))
      have CX := Lib.hid (fun W (hW : AtA W A9 as_) => HM.out ▸ call_max W A9 c9 hSA hW (by omega))
      clear hSA
      go_wp2_with fail
      go_loopw [11, 12, 13, 14] (fun s a b u wr => ∃ i : Nat, i ≤ l.length ∧ u = .int .i64 i ∧ s = .int .i64 (psum (ivals l) i) ∧ a = .int .i64 (best (fun x y => decide (x < y)) (ivals l) i).2.1 ∧ b = .int .i64 (best (fun x y => decide (x > y)) (ivals l) i).2.1 ∧ wr = w9) (fun _ _ _ u _ => l.length - (intOf u).toNat)
      case atStart => exact ⟨0, Nat.zero_le _, rfl, rfl, rfl, rfl, rfl⟩
      case round =>
        obtain ⟨i, hil, rfl, rfl, rfl, rfl, rfl⟩ := hrel
        by_cases hlt : i < l.length
        · have hi1 := Lib.hid (show i + 1 ≤ l.length by omega)
          have hi2 := Lib.hid (show l.length - (i + 1) < l.length - i by omega)
          obtain ⟨ad, hAe, hcell⟩ := HL.out.2 (by omega)
          obtain ⟨x, hx⟩ : ∃ x, l[i]? = some x := ⟨_, List.getElem?_eq_getElem hlt⟩
          have hc0 := hcell i x hx
          have hc1 := (hb9.cell (World.block_lt_of_cell? w _ hc0)).trans hc0
          have hxr := HR.out x (List.mem_of_getElem? hx)
          have hps := HP.out i
          have HPS := Lib.hid (psum_succ (ivals_get hx))
          have BY1 := Lib.hid (fun h => best_yes (ah := fun x y => decide (x < y)) (ivals_get hx) h)
          have BN1 := Lib.hid (fun h h2 => best_no (ah := fun x y => decide (x < y)) (ivals_get hx) h h2)
          have BY2 := Lib.hid (fun h => best_yes (ah := fun x y => decide (x > y)) (ivals_get hx) h)
          have BN2 := Lib.hid (fun h h2 => best_no (ah := fun x y => decide (x > y)) (ivals_get hx) h h2)
          simp only at HPS BY1 BN1 BY2 BN2
          have wx : IntKind.i64.wrap x = x := by simp [IntKind.wrap, IntKind.signed, IntKind.bits]; omega
          obtain ⟨s, hs⟩ : ∃ s, psum (ivals l) i = s := ⟨_, rfl⟩
          rw [hs] at hps HPS ⊢
          have ws : IntKind.i64.wrap (s + x) = s + x := by simp [IntKind.wrap, IntKind.signed, IntKind.bits]; omega
          subst hAe
          clear hcell hc0 hxr hs hx hps CS CC CN CX
          by_cases hi0 : i = 0
          · subst hi0
            have hc2 := hc1
            rw [add_zero_] at hc2
            have BE1 := Lib.hid (congrArg (fun v : V3 => v.2.1) (BY1.out (.inl rfl)))
            have BE2 := Lib.hid (congrArg (fun v : V3 => v.2.1) (BY2.out (.inl rfl)))
            (try simp only at BE1); (try simp only at BE2)
            clear BY1 BN1 BY2 BN2
            go_wp2
            go_roundw
            case rel => exact ⟨0 + 1, hi1.out, by go_num, by rw [HPS.out], by rw [BE1.out], by rw [BE2.out], by first | rfl | trivial⟩
            case measure => first | (simp [intOf]; done) | exact hi2.out | (have := hi2.out; simp [intOf]; omega)
          have kz : ((i : Int) == 0) = false := by rw [beq_eq_false_iff_ne]; omega
          have kz' : decide ((i : Int) = 0) = false := decide_eq_false (by omega)
          obtain ⟨lo, hlo9⟩ : ∃ lo, (best (fun x y => decide (x < y)) (ivals l) i).2.1 = lo := ⟨_, rfl⟩
          obtain ⟨hi, hhi9⟩ : ∃ hi, (best (fun x y => decide (x > y)) (ivals l) i).2.1 = hi := ⟨_, rfl⟩
          rw [hlo9] at BY1 BN1 ⊢
          rw [hhi9] at BY2 BN2 ⊢
          have HLO := Lib.hid hlo9
          have HHI := Lib.hid hhi9
          clear hlo9 hhi9
          by_cases h1 : x < lo
          · have g1 : decide (x < lo) = true := decide_eq_true h1
            have BE1 := Lib.hid (congrArg (fun v : V3 => v.2.1) (BY1.out (.inr g1)))
            (try simp only at BE1)
            by_cases h2 : hi < x
            · have g2 : decide (hi < x) = true := decide_eq_true h2
              have BE2 := Lib.hid (congrArg (fun v : V3 => v.2.1) (BY2.out (.inr g2)))
              (try simp only at BE2)
              clear BY1 BN1 BY2 BN2 h1 h2
              go_wp2
              go_roundw
              case rel => exact ⟨i + 1, hi1.out, by go_num, by rw [HPS.out], by rw [BE1.out], by rw [BE2.out], by first | rfl | trivial⟩
              case measure => first | (simp [intOf]; done) | exact hi2.out | (have := hi2.out; simp [intOf]; omega)
            · have g2 : decide (hi < x) = false := decide_eq_false h2
              have BE2 := Lib.hid (congrArg (fun v : V3 => v.2.1) (BN2.out hi0 g2))
              (try simp only at BE2)
              clear BY1 BN1 BY2 BN2 h1 h2
              go_wp2
              go_roundw
              case rel => exact ⟨i + 1, hi1.out, by go_num, by rw [HPS.out], by rw [BE1.out], by rw [BE2.out, HHI.out], by first | rfl | trivial⟩
              case measure => first | (simp [intOf]; done) | exact hi2.out | (have := hi2.out; simp [intOf]; omega)
          · have g1 : decide (x < lo) = false := decide_eq_false h1
            have BE1 := Lib.hid (congrArg (fun v : V3 => v.2.1) (BN1.out hi0 g1))
            (try simp only at BE1)
            by_cases h2 : hi < x
            · have g2 : decide (hi < x) = true := decide_eq_true h2
              have BE2 := Lib.hid (congrArg (fun v : V3 => v.2.1) (BY2.out (.inr g2)))
              (try simp only at BE2)
              clear BY1 BN1 BY2 BN2 h1 h2
              go_wp2
              go_roundw
              case rel => exact ⟨i + 1, hi1.out, by go_num, by rw [HPS.out], by rw [BE1.out, HLO.out], by rw [BE2.out], by first | rfl | trivial⟩
              case measure => first | (simp [intOf]; done) | exact hi2.out | (have := hi2.out; simp [intOf]; omega)
            · have g2 : decide (hi < x) = false := decide_eq_false h2
              have BE2 := Lib.hid (congrArg (fun v : V3 => v.2.1) (BN2.out hi0 g2))
              (try simp only at BE2)
              clear BY1 BN1 BY2 BN2 h1 h2
              go_wp2
              go_roundw
              case rel => exact ⟨i + 1, hi1.out, by go_num, by rw [HPS.out], by rw [BE1.out, HLO.out], by rw [BE2.out, HHI.out], by first | rfl | trivial⟩
              case measure => first | (simp [intOf]; done) | exact hi2.out | (have := hi2.out; simp [intOf]; omega)
        · have hie : i = l.length := by omega
          subst hie
          obtain ⟨sm, hsm⟩ : ∃ sm, psum (ivals l) l.length = sm := ⟨_, rfl⟩
          obtain ⟨lo, hlo⟩ : ∃ lo, (best (fun x y => decide (x < y)) (ivals l) l.length).2.1 = lo := ⟨_, rfl⟩
          obtain ⟨hi, hhi⟩ : ∃ hi, (best (fun x y => decide (x > y)) (ivals l) l.length).2.1 = hi := ⟨_, rfl⟩
          rw [hsm] at CS ⊢
          rw [hlo] at CN ⊢
          rw [hhi] at CX ⊢
          clear hsm hlo hhi
          go_wp2_with fail
          refine (CS.out _ hAA).mono ?_
          rintro e w3 ⟨rfl, hb3⟩
          have hA3 := hAA.below hb3
          have hb4 := hb9.trans (hb3.mono hb9.size)
          clear hAA hb9 hb3
          go_wp2_with fail
          refine (CC.out _ hA3).mono ?_
          rintro e w4 ⟨rfl, hb5⟩
          have hA4 := hA3.below hb5
          have hb6 := hb4.trans (hb5.mono hb4.size)
          clear hA3 hb4 hb5
          have hs6 := hb6.size
          have hb7 : Below w4.heap.size w4 ((w4.alloc (.cells #[.int .i64 1, .int .i64 sm, .string ⟨#[]⟩] 31)).alloc (.cells #[.int .i64 1, .int .i64 l.length, .string ⟨#[]⟩] 31)) := ((Below.refl _ _).alloc (Nat.le_refl _) _).alloc (by simp) _
          have hA5 := hA4.below hb7
          have hb8 := hb6.trans (hb7.mono hs6)
          have hv1 := (Below.heap_alloc (w4.alloc (.cells #[.int .i64 1, .int .i64 sm, .string ⟨#[]⟩] 31)) (.cells #[.int .i64 1, .int .i64 l.length, .string ⟨#[]⟩] 31) w4.heap.size (by simp)).trans (heap_alloc_new w4 (.cells #[.int .i64 1, .int .i64 sm, .string ⟨#[]⟩] 31))
          have hv2 := heap_alloc_new (w4.alloc (.cells #[.int .i64 1, .int .i64 sm, .string ⟨#[]⟩] 31)) (.cells #[.int .i64 1, .int .i64 l.length, .string ⟨#[]⟩] 31)
          rw [World.size_alloc] at hv2
          clear hA4 hb6 hb7
          have hs8 := hb8.size
          obtain ⟨p0, p1, p2, _⟩ := val3 hv1
          obtain ⟨q0, q1, q2, _⟩ := val3 hv2
          go_wp2_with fail
          refine (CN.out _ hA5).mono ?_
          rintro e w5 ⟨rfl, hb9⟩
          have hA6 := hA5.below hb9
          have hb10 := hb8.trans (hb9.mono hs8)
          have hfld := field_n
          clear hA5 hb8 hb9 p0 p1 p2 q0 q1 q2 hv1 hv2
          go_wp2_with fail
          refine (CX.out _ hA6).mono ?_
          rintro e w6 ⟨rfl, hb11⟩
          have hb12 := hb10.trans (hb11.mono hb10.size)
          clear hA6 hb10 hb11
          go_wp2_with fail
          refine (awake8 _).mono ?_
          rintro e w7 ⟨rfl, hb13⟩
          have hbz := hb12.trans (hb13.mono hb12.size)
          clear hb12 hb13
          go_wp2
          go_ret
          exact ⟨rfl, hbz⟩
  | false =>
    go_wp2_with fail
    go_loopw [9, 10] (fun v u wr => ∃ (i : Nat) (as_ : List FArg), k ≤ i ∧ i ≤ l.length ∧ u = .int .i64 i ∧ SA (l.take i) as_ ∧ as_.length = 1 + (i - k) ∧ wr.ownsRow w1.heap.size 27 3 v as_.length (as_.flatMap argCells) ∧ (∀ a ∈ as_, AV wr a.A a.vs) ∧ Below w1.heap.size w1 wr) (fun _ u _ => l.length - (intOf u).toNat)
    case atStart =>
      refine ⟨k, [⟨true, 1, B, ivals (l.take k), cap⟩], Nat.le_refl _, hkl, rfl, SA.first _ _ _, by simp, hown2, fun a ha => ?_, hb2⟩
      simp only [List.mem_cons, List.not_mem_nil, or_false] at ha
      subst ha
      exact (hVl.take k).below hb2
    case round =>
      obtain ⟨i, as_, hki, hil, rfl, hSA, hasl, hown, hAVs, hbr⟩ := hrel
      obtain ⟨A9, c9, rfl, _, _⟩ := own_form hown
      have hsr := hbr.size
      by_cases hlt : i < l.length
      · have hi1 := Lib.hid (show i + 1 ≤ l.length by omega)
        have hi2 := Lib.hid (show l.length - (i + 1) < l.length - i by omega)
        have hi3 := Lib.hid (show k ≤ i + 1 by omega)
        obtain ⟨x, hx⟩ : ∃ x, l[i]? = some x := ⟨_, List.getElem?_eq_getElem hlt⟩
        obtain ⟨b, o, hBe, hcells⟩ := (hVl.1.below hbr).2 (by rw [ivals_len]; omega)
        obtain ⟨d0, d1, d2⟩ := hcells i _ (ivals_get hx)
        simp only at d0 d1 d2
        have HX := Lib.hid hx
        have hal : as_.length ≤ 100 := by omega
        have hSL := Lib.hid (show as_.length + 1 = 1 + (i + 1 - k) by omega)
        subst hBe
        clear hcells hx hasl hki
        obtain ⟨m, hm⟩ : ∃ m, as_.length = m := ⟨_, rfl⟩
        rw [hm] at hown hal hSL ⊢
        have HM := Lib.hid hm
        clear hm
        go_wp2_with fail
        refine (lone_av _ 1 x ⟨#[]⟩).mono ?_
        rintro e w3 ⟨g, rfl, hb3, hA3⟩
        have hb4 := hbr.trans (hb3.mono hsr)
        have hown3 := own_below hown hb3
        have hs4 := hb4.size
        have hAV3 := Lib.hid (fun a ha => (hAVs a ha).below hb3)
        have hA4 := Lib.hid hA3
        clear hown hbr hAVs hb3 hA3 d0 d1 d2
        go_wp2_with (at_builtin; refine wpList_appN (cs := #[.bool false, .int .i64 0, .slice (some ⟨g, 0, none⟩) 1 1]) eArg rfl rfl hown3 rfl rfl (by first | rfl | simp) rfl (by intro u hu; simp at hu; rcases hu with rfl | rfl | rfl <;> rfl) (by omega) hs4 ?_; intro v1 w9 hown9 hg1 hk1; obtain ⟨A10, c10, rfl, _⟩ := own_form hown9)
        go_roundw
        case rel =>
          refine ⟨i + 1, as_ ++ [oneArg (some ⟨g, 0, none⟩) (1, x, ⟨#[]⟩)], hi3.out, hi1.out, by go_num, hSA.snoc HX.out _, by rw [List.length_append, HM.out]; exact hSL.out, ?_, ?_, below_grown hb4 hown3 hg1 (Nat.le_refl _) hs4⟩
          · rw [List.length_append, List.flatMap_append, HM.out]
            exact hown9
          · intro a ha
            rcases List.mem_append.1 ha with ha | ha
            · exact (hAV3.out a ha).grown hown3 hg1
            · simp only [List.mem_cons, List.not_mem_nil, or_false] at ha
              subst ha
              exact hA4.out.grown hown3 hg1
        case measure => first | (simp [intOf]; done) | exact hi2.out | (have := hi2.out; simp [intOf]; omega)
      · have hie : i = l.length := by omega
        subst hie
        rw [List.take_length] at hSA
        obtain ⟨m, hm⟩ : ∃ m, as_.length = m := ⟨_, rfl⟩
        have hAA : AtA wr A9 as_ := atA_of_own hown (by omega) rfl (fun a ha => (hAVs a ha).1)
        have hb9 : Below w.heap.size w wr := hb1.trans (hbr.mono hb1.size)
        rw [hm] at hown ⊢
        generalize wr = w9 at *
        have HM := Lib.hid hm
        have hml : m ≤ 100 := by omega
        clear hown hAVs hVl hb1 hb2 hown2 hasl hm hbr
        have CS := Lib.hid (fun W (hW : AtA W A9 as_) => HM.out ▸ call_sum W A9 c9 hSA hW (by omega) HI.out HS.out)
        have CC := Lib.hid (fun W (hW : AtA W A9 as_) => HM.out ▸ call_count W A9 c9 hSA hW (by omega))
        have CN := Lib.hid (fun W (hW : AtA W A9 as_) => HM.out ▸ call_min W A9 c9 hSA hW (by omega))
        have CX := Lib.hid (fun W (hW : AtA W A9 as_) => HM.out ▸ call_max W A9 c9 hSA hW (by omega))
        clear hSA
        go_wp2_with fail
        go_loopw [11, 12, 13, 14] (fun s a b u wr => ∃ i : Nat, i ≤ l.length ∧ u = .int .i64 i ∧ s = .int .i64 (psum (ivals l) i) ∧ a = .int .i64 (best (fun x y => decide (x < y)) (ivals l) i).2.1 ∧ b = .int .i64 (best (fun x y => decide (x > y)) (ivals l) i).2.1 ∧ wr = w9) (fun _ _ _ u _ => l.length - (intOf u).toNat)
        case atStart => exact ⟨0, Nat.zero_le _, rfl, rfl, rfl, rfl, rfl⟩
        case round =>
          obtain ⟨i, hil, rfl, rfl, rfl, rfl, rfl⟩ := hrel
          by_cases hlt : i < l.length
          · have hi1 := Lib.hid (show i + 1 ≤ l.length by omega)
            have hi2 := Lib.hid (show l.length - (i + 1) < l.length - i by omega)
            obtain ⟨ad, hAe, hcell⟩ := HL.out.2 (by omega)
            obtain ⟨x, hx⟩ : ∃ x, l[i]? = some x := ⟨_, List.getElem?_eq_getElem hlt⟩
            have hc0 := hcell i x hx
            have hc1 := (hb9.cell (World.block_lt_of_cell? w _ hc0)).trans hc0
            have hxr := HR.out x (List.mem_of_getElem? hx)
            have hps := HP.out i
            have HPS := Lib.hid (psum_succ (ivals_get hx))
            have BY1 := Lib.hid (fun h => best_yes (ah := fun x y => decide (x < y)) (ivals_get hx) h)
            have BN1 := Lib.hid (fun h h2 => best_no (ah := fun x y => decide (x < y)) (ivals_get hx) h h2)
            have BY2 := Lib.hid (fun h => best_yes (ah := fun x y => decide (x > y)) (ivals_get hx) h)
            have BN2 := Lib.hid (fun h h2 => best_no (ah := fun x y => decide (x > y)) (ivals_get hx) h h2)
            simp only at HPS BY1 BN1 BY2 BN2
            have wx : IntKind.i64.wrap x = x := by simp [IntKind.wrap, IntKind.signed, IntKind.bits]; omega
            obtain ⟨s, hs⟩ : ∃ s, psum (ivals l) i = s := ⟨_, rfl⟩
            rw [hs] at hps HPS ⊢
            have ws : IntKind.i64.wrap (s + x) = s + x := by simp [IntKind.wrap, IntKind.signed, IntKind.bits]; omega
            subst hAe
            clear hcell hc0 hxr hs hx hps CS CC CN CX
            by_cases hi0 : i = 0
            · subst hi0
              have hc2 := hc1
              rw [add_zero_] at hc2
              have BE1 := Lib.hid (congrArg (fun v : V3 => v.2.1) (BY1.out (.inl rfl)))
              have BE2 := Lib.hid (congrArg (fun v : V3 => v.2.1) (BY2.out (.inl rfl)))
              (try simp only at BE1); (try simp only at BE2)
              clear BY1 BN1 BY2 BN2
              go_wp2
              go_roundw
              case rel => exact ⟨0 + 1, hi1.out, by go_num, by rw [HPS.out], by rw [BE1.out], by rw [BE2.out], by first | rfl | trivial⟩
              case measure => first | (simp [intOf]; done) | exact hi2.out | (have := hi2.out; simp [intOf]; omega)
            have kz : ((i : Int) == 0) = false := by rw [beq_eq_false_iff_ne]; omega
            have kz' : decide ((i : Int) = 0) = false := decide_eq_false (by omega)
            obtain ⟨lo, hlo9⟩ : ∃ lo, (best (fun x y => decide (x < y)) (ivals l) i).2.1 = lo := ⟨_, rfl⟩
            obtain ⟨hi, hhi9⟩ : ∃ hi, (best (fun x y => decide (x > y)) (ivals l) i).2.1 = hi := ⟨_, rfl⟩
            rw [hlo9] at BY1 BN1 ⊢
            rw [hhi9] at BY2 BN2 ⊢
            have HLO := Lib.hid hlo9
            have HHI := Lib.hid hhi9
            clear hlo9 hhi9
            by_cases h1 : x < lo
            · have g1 : decide (x < lo) = true := decide_eq_true h1
              have BE1 := Lib.hid (congrArg (fun v : V3 => v.2.1) (BY1.out (.inr g1)))
              (try simp only at BE1)
              by_cases h2 : hi < x
              · have g2 : decide (hi < x) = true := decide_eq_true h2
                have BE2 := Lib.hid (congrArg (fun v : V3 => v.2.1) (BY2.out (.inr g2)))
                (try simp only at BE2)
                clear BY1 BN1 BY2 BN2 h1 h2
                go_wp2
                go_roundw
                case rel => exact ⟨i + 1, hi1.out, by go_num, by rw [HPS.out], by rw [BE1.out], by rw [BE2.out], by first | rfl | trivial⟩
                case measure => first | (simp [intOf]; done) | exact hi2.out | (have := hi2.out; simp [intOf]; omega)
              · have g2 : decide (hi < x) = false := decide_eq_false h2
                have BE2 := Lib.hid (congrArg (fun v : V3 => v.2.1) (BN2.out hi0 g2))
                (try simp only at BE2)
                clear BY1 BN1 BY2 BN2 h1 h2
                go_wp2
                go_roundw
                case rel => exact ⟨i + 1, hi1.out, by go_num, by rw [HPS.out], by rw [BE1.out], by rw [BE2.out, HHI.out], by first | rfl | trivial⟩
                case measure => first | (simp [intOf]; done) | exact hi2.out | (have := hi2.out; simp [intOf]; omega)
            · have g1 : decide (x < lo) = false := decide_eq_false h1
              have BE1 := Lib.hid (congrArg (fun v : V3 => v.2.1) (BN1.out hi0 g1))
              (try simp only at BE1)
              by_cases h2 : hi < x
              · have g2 : decide (hi < x) = true := decide_eq_true h2
                have BE2 := Lib.hid (congrArg (fun v : V3 => v.2.1) (BY2.out (.inr g2)))
                (try simp only at BE2)
                clear BY1 BN1 BY2 BN2 h1 h2
                go_wp2
                go_roundw
                case rel => exact ⟨i + 1, hi1.out, by go_num, by rw [HPS.out], by rw [BE1.out, HLO.out], by rw [BE2.out], by first | rfl | trivial⟩
                case measure => first | (simp [intOf]; done) | exact hi2.out | (have := hi2.out; simp [intOf]; omega)
              · have g2 : decide (hi < x) = false := decide_eq_false h2
                have BE2 := Lib.hid (congrArg (fun v : V3 => v.2.1) (BN2.out hi0 g2))
                (try simp only at BE2)
                clear BY1 BN1 BY2 BN2 h1 h2
                go_wp2
                go_roundw
                case rel => exact ⟨i + 1, hi1.out, by go_num, by rw [HPS.out], by rw [BE1.out, HLO.out], by rw [BE2.out, HHI.out], by first | rfl | trivial⟩
                case measure => first | (simp [intOf]; done) | exact hi2.out | (have := hi2.out; simp [intOf]; omega)
          · have hie : i = l.length := by omega
            subst hie
            obtain ⟨sm, hsm⟩ : ∃ sm, psum (ivals l) l.length = sm := ⟨_, rfl⟩
            obtain ⟨lo, hlo⟩ : ∃ lo, (best (fun x y => decide (x < y)) (ivals l) l.length).2.1 = lo := ⟨_, rfl⟩
            obtain ⟨hi, hhi⟩ : ∃ hi, (best (fun x y => decide (x > y)) (ivals l) l.length).2.1 = hi := ⟨_, rfl⟩
            rw [hsm] at CS ⊢
            rw [hlo] at CN ⊢
            rw [hhi] at CX ⊢
            clear hsm hlo hhi
            go_wp2_with fail
            refine (CS.out _ hAA).mono ?_
            rintro e w3 ⟨rfl, hb3⟩
            have hA3 := hAA.below hb3
            have hb4 := hb9.trans (hb3.mono hb9.size)
            clear hAA hb9 hb3
            go_wp2_with fail
            refine (CC.out _ hA3).mono ?_
            rintro e w4 ⟨rfl, hb5⟩
            have hA4 := hA3.below hb5
            have hb6 := hb4.trans (hb5.mono hb4.size)
            clear hA3 hb4 hb5
            have hs6 := hb6.size
            have hb7 : Below w4.heap.size w4 ((w4.alloc (.cells #[.int .i64 1, .int .i64 sm, .string ⟨#[]⟩] 31)).alloc (.cells #[.int .i64 1, .int .i64 l.length, .string ⟨#[]⟩] 31)) := ((Below.refl _ _).alloc (Nat.le_refl _) _).alloc (by simp) _
            have hA5 := hA4.below hb7
            have hb8 := hb6.trans (hb7.mono hs6)
            have hv1 := (Below.heap_alloc (w4.alloc (.cells #[.int .i64 1, .int .i64 sm, .string ⟨#[]⟩] 31)) (.cells #[.int .i64 1, .int .i64 l.length, .string ⟨#[]⟩] 31) w4.heap.size (by simp)).trans (heap_alloc_new w4 (.cells #[.int .i64 1, .int .i64 sm, .string ⟨#[]⟩] 31))
            have hv2 := heap_alloc_new (w4.alloc (.cells #[.int .i64 1, .int .i64 sm, .string ⟨#[]⟩] 31)) (.cells #[.int .i64 1, .int .i64 l.length, .string ⟨#[]⟩] 31)
            rw [World.size_alloc] at hv2
            clear hA4 hb6 hb7
            have hs8 := hb8.size
            obtain ⟨p0, p1, p2, _⟩ := val3 hv1
            obtain ⟨q0, q1, q2, _⟩ := val3 hv2
            go_wp2_with fail
            refine (CN.out _ hA5).mono ?_
            rintro e w5 ⟨rfl, hb9⟩
            have hA6 := hA5.below hb9
            have hb10 := hb8.trans (hb9.mono hs8)
            have hfld := field_n
            clear hA5 hb8 hb9 p0 p1 p2 q0 q1 q2 hv1 hv2
            go_wp2_with fail
            refine (CX.out _ hA6).mono ?_
            rintro e w6 ⟨rfl, hb11⟩
            have hb12 := hb10.trans (hb11.mono hb10.size)
            clear hA6 hb10 hb11
            go_wp2_with fail
            refine (awake8 _).mono ?_
            rintro e w7 ⟨rfl, hb13⟩
            have hbz := hb12.trans (hb13.mono hb12.size)
            clear hb12 hb13
            go_wp2
            go_ret
            exact ⟨rfl, hbz⟩
end Go.Proofs.YtcbaioagcemmnaaDoor
