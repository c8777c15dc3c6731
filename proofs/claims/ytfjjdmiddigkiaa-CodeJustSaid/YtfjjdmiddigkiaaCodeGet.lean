/- The walks of code.Get and chequerref1.Get. -/
import Derived.Test.YtfjjdmiddigkiaaChecked
import Derived.Test.YtfjjdmiddigkiaaMem
import Derived.Test.YtfjjdmiddigkiaaCodePlain
import Derived.WalkSpells
import Derived.WalkLawsBesides
import Derived.Deep.QuietTactic
import Derived.BigQuiet
import Derived.Lib.Hide
namespace Go.Proofs.Ytfjjdmiddigkiaa
open Go.RowKit

theorem ofInt_i64 (a : Nat) (ha : a < 9223372036854775808) : (BitVec.ofInt 64 (a : Int)).toNat = a := by
  rw [BitVec.ofInt_natCast, BitVec.toNat_ofNat]; exact Nat.mod_eq_of_lt (by omega)
theorem i64_or_nat (a b : Nat) (ha : a < 9223372036854775808) (hb : b < 9223372036854775808) : bits .or .i64 (a : Int) (b : Int) = ((a ||| b : Nat) : Int) := by
  have hx : a ||| b < 2 ^ 63 := Nat.or_lt_two_pow (by omega) (by omega)
  show IntKind.i64.wrap ((BitVec.ofInt 64 (a : Int) ||| BitVec.ofInt 64 (b : Int)).toNat : Int) = _
  rw [BitVec.toNat_or, ofInt_i64 a ha, ofInt_i64 b hb, IntKind.wrap_i64]
  omega
theorem u8_and127 : ∀ n : Nat, n < 256 → bits .and .u8 (n : Int) 127 = ((n % 128 : Nat) : Int) := by decide +kernel
theorem wrap64_nat (n : Nat) (h : n < 9223372036854775808) : wrap64 (n : Int) = (n : Int) := IntWalk.wrap64_in _ (by omega)
theorem shl_val {u j : Nat} (hj : j < 9) : (u % 128) * 2 ^ (7 * j) < 9223372036854775808 := by
  have h1 : u % 128 < 128 := Nat.mod_lt _ (by omega)
  have h2 : 2 ^ (7 * j) ≤ 2 ^ 56 := Nat.pow_le_pow_right (by omega) (by omega)
  have : (u % 128) * 2 ^ (7 * j) ≤ 127 * 2 ^ 56 := Nat.mul_le_mul (by omega) h2
  omega
theorem or_add {x y j : Nat} (hx : x < 2 ^ (7 * j)) : x ||| y * 2 ^ (7 * j) = x + y * 2 ^ (7 * j) := by
  rw [Nat.or_comm, Nat.mul_comm y, ← Nat.two_pow_add_eq_or_of_lt hx, Nat.add_comm]
theorem x_small {x j : Nat} (hj : j < 9) (hx : x < 2 ^ (7 * j)) : x < 9223372036854775808 := by
  have h2 : 2 ^ (7 * j) ≤ 2 ^ 56 := Nat.pow_le_pow_right (by omega) (by omega)
  omega
/-- code.Get's step -/
theorem or_step {x u j : Nat} (hu : u < 256) (hj : j < 9) (hx : x < 2 ^ (7 * j)) :
    bits .or .i64 (x : Int) (wrap64 (wrap64 (bits .and .u8 (u : Int) 127) * 2 ^ (7 * j))) = ((x + (u % 128) * 2 ^ (7 * j) : Nat) : Int) := by
  rw [u8_and127 u hu, wrap64_nat _ (by omega)]
  have e : ((u % 128 : Nat) : Int) * 2 ^ (7 * j) = (((u % 128) * 2 ^ (7 * j) : Nat) : Int) := by simp
  rw [e, wrap64_nat _ (shl_val hj), i64_or_nat _ _ (x_small hj hx) (shl_val hj), or_add hx]

def optNum (o : Option (Nat × Nat)) : Value := match o with
  | some (n, m) => .tuple #[.int .i64 n, .int .i64 m, .bool true]
  | none => .tuple #[.int .i64 0, .int .i64 0, .bool false]
theorem getAt_none {b : List UInt8} {k : Nat} (h : Code.getL (b.drop k) = none) : Code.getAt b k = none := by
  rw [Code.getAt, if_neg (by omega), Int.toNat_natCast, h]; rfl
theorem getAt_some {b : List UInt8} {k n m : Nat} (h : Code.getL (b.drop k) = some (n, m)) : Code.getAt b k = some (n, k + m) := by
  rw [Code.getAt, if_neg (by omega), Int.toNat_natCast, h]; rfl

set_option maxRecDepth 100000 in
set_option maxHeartbeats 400000 in
theorem get_any (w : World) (A : Option Addr) (b : List UInt8) (c : Nat) (k : Int) (hA : At1 vByte w A b) :
    Calls Try.prog 8 #[.slice A b.length c, .int .i64 k] w fun e w' => e = .returned (optNum (Code.getAt b k)) ∧ w = w' := by
  by_cases hk : k < 0
  · go_enter Try.func8, Try.ntmps8
    go_wp2
    go_ret3
    rw [Code.getAt, if_pos hk]
    exact ⟨rfl, rfl⟩
  · obtain ⟨k, rfl⟩ := Int.eq_ofNat_of_zero_le (show 0 ≤ k by omega)
    obtain ⟨hx, hA⟩ := hA
    go_enter Try.func8, Try.ntmps8
    go_wp2
    go_loop [4, 7, 8, 11] (fun n _ _ i => ∃ (j : Nat) (x : Nat), j ≤ 9 ∧ i = .int .i64 j ∧ n = .int .i64 x ∧ x < 2 ^ (7 * j) ∧ Code.getL (b.drop k) = Code.getF (9 - j) j x (b.drop (k + j))) (fun _ _ _ i => 9 - (intOf i).toNat)
    case atStart => exact ⟨0, 0, by omega, rfl, rfl, by decide, rfl⟩
    case round =>
      obtain ⟨j, x, hj, rfl, rfl, hxx, hg⟩ := hrel
      have HG := Lib.hid hg
      clear hg
      by_cases h9 : j < 9
      · by_cases hkj : k + j < b.length
        · obtain ⟨ad, rfl, hc⟩ := hA (by omega)
          have hc1 : w.cell? (ad.add (k + j)) = some (.int .u8 (b[k + j].toNat : Int)) := hc _ _ (List.getElem?_eq_getElem hkj)
          have hd := Lib.hid (List.drop_eq_getElem_cons hkj)
          clear hc hA
          have hk1 : (k : Int) < (b.length : Int) - (j : Int) := by omega
          generalize b[k + j] = u at hc1 hd
          have hu := u.toNat_lt
          have hstep := or_step hu h9 hxx
          have hxs := x_small h9 hxx
          obtain ⟨f, hf⟩ : ∃ f, 9 - j = f + 1 := ⟨8 - j, by omega⟩
          have hg2 := HG.out
          rw [hf, hd.out] at hg2
          have HG2 := Lib.hid hg2
          have HF := Lib.hid hf
          clear hg2 hf HG hd
          by_cases h1 : 128 ≤ u.toNat
          · go_wp2
            go_round
            case rel => exact ⟨j + 1, _, by omega, by go_num, rfl, Code.acc_lt hxx, by rw [HG2.out, Code.getF_more h1, show 9 - (j + 1) = f from by have := HF.out; omega]; rfl⟩
            case measure => first | (simp [intOf]; done) | (simp [intOf]; omega)
          · by_cases h2 : u.toNat = 0
            · by_cases h3 : 0 < j
              · have hn := Lib.hid (getAt_none (b := b) (k := k) (by rw [HG2.out, Code.getF_zero_end h2 h3]))
                go_wp2
                go_ret3
                rw [hn.out]
                exact ⟨rfl, rfl⟩
              · have hs := Lib.hid (getAt_some (b := b) (k := k) (by rw [HG2.out, Code.getF_end (by omega) (by omega)]))
                have hm : (u.toNat : Int) % 128 = u.toNat := by omega
                go_wp2
                go_ret3
                rw [hs.out]
                have hj0 : j = 0 := by omega
                subst hj0
                have hx0 : x = 0 := by simpa using hxx
                subst hx0
                simp [optNum, h2]
                decide +kernel
            · have hs := Lib.hid (getAt_some (b := b) (k := k) (by rw [HG2.out, Code.getF_end (by omega) (by omega)]))
              have hm : u.toNat % 128 = u.toNat := by omega
              have hf0 : (u.toNat == 0) = false := by simp [h2]
              rw [hm] at hstep
              have HM := Lib.hid hm
              clear hm
              go_wp2
              go_ret3
              rw [hs.out]
              exact ⟨by simp [optNum]; omega, rfl⟩
        · have hn := Lib.hid (getAt_none (b := b) (k := k) (by rw [HG.out, List.drop_eq_nil_of_le (by omega), Code.getF_nil]))
          have hk1 : (b.length : Int) - (j : Int) ≤ (k : Int) := by omega
          go_wp2
          go_ret3
          rw [hn.out]
          exact ⟨rfl, rfl⟩
      · have hn := Lib.hid (getAt_none (b := b) (k := k) (by rw [HG.out, show 9 - j = 0 from by omega, Code.getF_zero]))
        go_wp2
        go_ret3
        rw [hn.out]
        exact ⟨rfl, rfl⟩
/-- chequerref1.Get's step -/
theorem or_step_r {x u j : Nat} (hj : j < 9) (hx : x < 2 ^ (7 * j)) :
    bits .or .i64 (x : Int) (wrap64 ((u : Int) % 128 * 2 ^ (7 * j))) = ((x + (u % 128) * 2 ^ (7 * j) : Nat) : Int) := by
  have e : (u : Int) % 128 * 2 ^ (7 * j) = (((u % 128) * 2 ^ (7 * j) : Nat) : Int) := by simp
  rw [e, wrap64_nat _ (shl_val hj), i64_or_nat _ _ (x_small hj hx) (shl_val hj), or_add hx]

set_option maxRecDepth 100000 in
set_option maxHeartbeats 400000 in
theorem rget_any (w : World) (A : Option Addr) (b : List UInt8) (c : Nat) (k : Int) (hA : At1 vByte w A b) :
    Calls Try.prog 9 #[.slice A b.length c, .int .i64 k] w fun e w' => e = .returned (optNum (Code.getAt b k)) ∧ w = w' := by
  by_cases hk : k < 0
  · go_enter Try.func9, Try.ntmps9
    go_wp2
    go_ret3
    rw [Code.getAt, if_pos hk]
    exact ⟨rfl, rfl⟩
  · obtain ⟨k, rfl⟩ := Int.eq_ofNat_of_zero_le (show 0 ≤ k by omega)
    by_cases hkl : k < b.length
    · obtain ⟨hx, hA⟩ := hA
      go_enter Try.func9, Try.ntmps9
      go_wp2
      go_loop [7, 8, 9] (fun n i _ => ∃ (j : Nat) (x : Nat), j ≤ 9 ∧ i = .int .i64 j ∧ n = .int .i64 x ∧ x < 2 ^ (7 * j) ∧ Code.getL (b.drop k) = Code.getF (9 - j) j x (b.drop (k + j))) (fun _ i _ => 9 - (intOf i).toNat)
      case atStart => exact ⟨0, 0, by omega, rfl, rfl, by decide, rfl⟩
      case round =>
        obtain ⟨j, x, hj, rfl, rfl, hxx, hg⟩ := hrel
        have HG := Lib.hid hg
        clear hg
        by_cases h9 : j < 9
        · by_cases hkj : k + j < b.length
          · obtain ⟨ad, rfl, hc⟩ := hA (by omega)
            have hc1 : w.cell? (ad.add (k + j)) = some (.int .u8 (b[k + j].toNat : Int)) := hc _ _ (List.getElem?_eq_getElem hkj)
            have hd := Lib.hid (List.drop_eq_getElem_cons hkj)
            clear hc hA
            have hk1 : (j : Int) < (b.length : Int) - (k : Int) := by omega
            generalize b[k + j] = u at hc1 hd
            have hu := u.toNat_lt
            have hstep := or_step_r (u := u.toNat) h9 hxx
            have hxs := x_small h9 hxx
            obtain ⟨f, hf⟩ : ∃ f, 9 - j = f + 1 := ⟨8 - j, by omega⟩
            have hg2 := HG.out
            rw [hf, hd.out] at hg2
            have HG2 := Lib.hid hg2
            have HF := Lib.hid hf
            clear hg2 hf HG hd
            by_cases h1 : 128 ≤ u.toNat
            · go_wp2
              go_round
              case rel => exact ⟨j + 1, _, by omega, by go_num, rfl, Code.acc_lt hxx, by rw [HG2.out, Code.getF_more h1, show 9 - (j + 1) = f from by have := HF.out; omega]; rfl⟩
              case measure => first | (simp [intOf]; done) | (simp [intOf]; omega)
            · by_cases h2 : u.toNat = 0
              · by_cases h3 : 0 < j
                · have hn := Lib.hid (getAt_none (b := b) (k := k) (by rw [HG2.out, Code.getF_zero_end h2 h3]))
                  go_wp2
                  go_ret3
                  rw [hn.out]
                  exact ⟨rfl, rfl⟩
                · have hs := Lib.hid (getAt_some (b := b) (k := k) (by rw [HG2.out, Code.getF_end (by omega) (by omega)]))
                  go_wp2
                  go_ret3
                  rw [hs.out]
                  have hj0 : j = 0 := by omega
                  subst hj0
                  have hx0 : x = 0 := by simpa using hxx
                  subst hx0
                  simp [optNum, h2]
                  decide +kernel
              · have hs := Lib.hid (getAt_some (b := b) (k := k) (by rw [HG2.out, Code.getF_end (by omega) (by omega)]))
                have hm : u.toNat % 128 = u.toNat := by omega
                have hf0 : (u.toNat == 0) = false := by simp [h2]
                rw [hm] at hstep
                have HM := Lib.hid hm
                clear hm
                go_wp2
                go_ret3
                rw [hs.out]
                exact ⟨by simp [optNum]; omega, rfl⟩
          · have hn := Lib.hid (getAt_none (b := b) (k := k) (by rw [HG.out, List.drop_eq_nil_of_le (by omega), Code.getF_nil]))
            have hk1 : (b.length : Int) - (k : Int) ≤ (j : Int) := by omega
            go_wp2
            go_ret3
            rw [hn.out]
            exact ⟨rfl, rfl⟩
        · have hn := Lib.hid (getAt_none (b := b) (k := k) (by rw [HG.out, show 9 - j = 0 from by omega, Code.getF_zero]))
          go_wp2
          go_ret3
          rw [hn.out]
          exact ⟨rfl, rfl⟩
    · have hn := Lib.hid (getAt_none (b := b) (k := k) (by rw [List.drop_eq_nil_of_le (by omega), Code.getL_nil]))
      go_enter Try.func9, Try.ntmps9
      go_wp2
      go_ret3
      rw [hn.out]
      exact ⟨rfl, rfl⟩
end Go.Proofs.Ytfjjdmiddigkiaa
