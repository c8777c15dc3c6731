/- The walk of PastAll. -/
import Derived.Test.YtfhgnolfhiffbaaPSame
import Derived.Test.YtfhgnolfhiffbaaPAwake
namespace Go.Proofs.Ytfhgnolfhiffbaa
open Go.RowKit Go.Maps
theorem MayP.histIn {l : List HC} (h : MayP l) (hl : l.length ≤ 30) (hs : ∀ (i : Nat) (y : HC), l[i]? = some y → y.id.size ≤ 100) : HistIn l := by
  have e100 : ∀ n, n ≤ 100 → n ≤ maxLen := fun n h => by unfold maxLen; omega
  refine ⟨h.hist, fun y hy => ?_, by omega⟩
  obtain ⟨i, hi⟩ := List.mem_iff_getElem?.1 hy
  refine ⟨e100 _ (hs i y hi), fun p hp => ?_⟩
  have h1 := (h i y hi).2.2.2 p hp
  have h2 := (List.getElem?_eq_some_iff.1 hi).1
  obtain ⟨z, hz, hzp⟩ := posN_id (l := l) (x := p) (by omega)
  rw [← hzp]
  exact e100 _ (hs _ z hz)
theorem neSame (x : Bool) (W : World) : (binOp .neq 4 (.bool x) (.bool x)).run Try.prog W = .ok (.bool false) W := by
  cases x <;> kernel_rfl
set_option maxRecDepth 100000 in
set_option maxHeartbeats 2000000 in
theorem pastAll_walk (w : World) (A : Option Addr) (l : List HC) (c : Nat) (a b : ByteArray) (hat : AtC w A l) (hcap : l.length ≤ c) :
    Calls Try.prog 6 #[.slice A l.length c, .string a, .string b] w fun e w' => e = .returned (.bool true) ∧ Below w.heap.size w w' := by
  go_enter Try.func6, Try.ntmps6
  by_cases k1 : 30 < l.length
  · have d1 : decide (30 < (l.length : Int)) = true := decide_eq_true (by omega)
    go_wp2_with fail
    refine (awake_any w).mono ?_
    rintro e w2 ⟨rfl, hb2⟩
    go_wp2
    go_ret
    exact ⟨rfl, hb2⟩
  have d1 : decide (30 < (l.length : Int)) = false := decide_eq_false (by omega)
  by_cases k2 : 100 < a.size
  · have d2 : decide (100 < (a.size : Int)) = true := decide_eq_true (by omega)
    go_wp2_with fail
    refine (awake_any w).mono ?_
    rintro e w2 ⟨rfl, hb2⟩
    go_wp2
    go_ret
    exact ⟨rfl, hb2⟩
  have d2 : decide (100 < (a.size : Int)) = false := decide_eq_false (by omega)
  by_cases k3 : 100 < b.size
  · have d3 : decide (100 < (b.size : Int)) = true := decide_eq_true (by omega)
    go_wp2_with fail
    refine (awake_any w).mono ?_
    rintro e w2 ⟨rfl, hb2⟩
    go_wp2
    go_ret
    exact ⟨rfl, hb2⟩
  have d3 : decide (100 < (b.size : Int)) = false := decide_eq_false (by omega)
  go_wp2_with fail
  go_loopw [7] (fun u wr => ∃ i : Nat, i ≤ l.length ∧ u = .int .i64 i ∧ Hid (∀ q y, q < i → l[q]? = some y → y.id.size ≤ 100) ∧ wr = w) (fun u _ => l.length - (intOf u).toNat)
  case atStart => exact ⟨0, Nat.zero_le _, rfl, fun q y hq => absurd hq (Nat.not_lt_zero q), rfl⟩
  case round =>
    obtain ⟨i, hi, rfl, hpre, rfl⟩ := hrel
    by_cases hil : i < l.length
    · obtain ⟨y, hy⟩ : ∃ y, l[i]? = some y := ⟨_, List.getElem?_eq_getElem hil⟩
      obtain ⟨bb, oo, hAe, hcc⟩ := hat.2.2 (by omega)
      obtain ⟨c0, c1, _, _⟩ := hcc i y hy
      subst hAe
      clear hcc
      by_cases k4 : 10 < y.ps.length
      · have d4 : decide (10 < (y.ps.length : Int)) = true := decide_eq_true (by omega)
        go_wp2_with fail
        refine (awake_any _).mono ?_
        rintro e w2 ⟨rfl, hb2⟩
        go_wp2
        go_ret
        exact ⟨rfl, hb2⟩
      · have d4 : decide (10 < (y.ps.length : Int)) = false := decide_eq_false (by omega)
        by_cases k5 : 100 < y.id.size
        · have d5 : decide (100 < (y.id.size : Int)) = true := decide_eq_true (by omega)
          go_wp2_with fail
          refine (awake_any _).mono ?_
          rintro e w2 ⟨rfl, hb2⟩
          go_wp2
          go_ret
          exact ⟨rfl, hb2⟩
        · have d5 : decide (100 < (y.id.size : Int)) = false := decide_eq_false (by omega)
          have HN := Lib.hid (show ∀ q z, q < i + 1 → l[q]? = some z → z.id.size ≤ 100 from fun q z hq hz => by
            rcases Nat.lt_or_ge q i with h8 | h8
            · exact hpre.out q z h8 hz
            · have e : q = i := by omega
              rw [e, hy] at hz
              injection hz with hz
              rw [← hz]; omega)
          clear hpre
          go_wp2_with fail
          go_roundw
          case rel => exact ⟨i + 1, by omega, by go_num, HN.out, by first | rfl | trivial⟩
          case measure => first | (simp [intOf]; done) | (simp [intOf]; omega)
    · have HS := Lib.hid (show ∀ q y, l[q]? = some y → y.id.size ≤ 100 from fun q y hq => hpre.out q y (by have := (List.getElem?_eq_some_iff.1 hq).1; omega) hq)
      have hl30 : l.length ≤ 30 := by omega
      have ha : a.size ≤ maxLen := by unfold maxLen; omega
      clear hpre d1 d2 d3
      go_wp2_with fail
      refine (may_any _ _ l c hat hcap).mono ?_
      rintro e w3 ⟨b1, rfl, hb1, hbl3⟩
      have hat3 := hat.below hbl3
      go_wp2_with fail
      refine (mayPast_any _ _ l c hat3 hcap).mono ?_
      rintro e w4 ⟨b2, rfl, hb2, hbl4⟩
      have hat4 := hat3.below hbl4
      have hb14 := hbl3.trans (hbl4.mono hbl3.size)
      obtain rfl : b1 = b2 := by rw [Bool.eq_iff_iff, hb1, hb2]
      clear hb2
      have hne := neSame b1
      cases b1 with
      | true =>
        have hmay := hb1.1 rfl
        have hh := MayP.histIn hmay hl30 HS.out
        go_wp2_with fail
        refine (mayPast_any _ _ l c hat4 hcap).mono ?_
        rintro e w5 ⟨b3, rfl, hb3, hbl5⟩
        obtain rfl := hb3.2 hmay
        have hat5 := hat4.below hbl5
        have hb15 := hb14.trans (hbl5.mono hb14.size)
        go_wp2_with fail
        refine (same_any _ _ l c hat5 hh a b ha).mono ?_
        rintro e w6 ⟨rfl, hbl6⟩
        have hb16 := hb15.trans (hbl6.mono hb15.size)
        go_wp2_with fail
        refine (awake_any _).mono ?_
        rintro e w7 ⟨rfl, hbl7⟩
        go_wp2
        go_ret
        exact ⟨rfl, hb16.trans (hbl7.mono hb16.size)⟩
      | false =>
        have hno : ¬ MayP l := fun h9 => by have := hb1.2 h9; cases this
        go_wp2_with fail
        refine (mayPast_any _ _ l c hat4 hcap).mono ?_
        rintro e w5 ⟨b3, rfl, hb3, hbl5⟩
        obtain rfl : b3 = false := by
          cases b3 with
          | true => exact absurd (hb3.1 rfl) hno
          | false => rfl
        go_wp2_with fail
        go_ret
        exact ⟨rfl, hb14.trans (hbl5.mono hb14.size)⟩
end Go.Proofs.Ytfhgnolfhiffbaa
