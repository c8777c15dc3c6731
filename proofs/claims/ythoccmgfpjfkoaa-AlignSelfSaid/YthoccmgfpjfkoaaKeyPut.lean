/- The walks of code.Put, PutText and chequerref1.Put, PutText. -/
import Derived.Test.YthoccmgfpjfkoaaChecked
import Derived.Test.YthoccmgfpjfkoaaMem
import Derived.Test.YthoccmgfpjfkoaaCodePlain
import Derived.WalkSpells
import Derived.WalkLawsBesides
import Derived.Deep.QuietTactic
import Derived.BigQuiet
import Derived.Lib.Hide
import Derived.Lib.AppendStr
namespace Go.Proofs.Ythoccmgfpjfkoaa
open Go.RowKit

theorem eByte : EInfo Try.prog 46 5 (.int .u8 0) 1 1 := ⟨Try.underlying46, by kernel_rfl, rfl, by decide, by decide⟩

theorem putL_len : ∀ (f n : Nat), n < 128 ^ (f + 1) → (Code.putL n).length ≤ f + 1 := by
  intro f
  induction f with
  | zero => intro n h; rw [Code.putL_small (by simpa using h)]; simp
  | succ f ih =>
    intro n h
    by_cases hs : n < 128
    · rw [Code.putL_small hs]; simp
    · rw [Code.putL_big hs]
      have := ih _ (Code.div_pow h)
      simp only [List.length_cons]; omega
theorem putL_len9 {n : Nat} (h : n < 9223372036854775808) : (Code.putL n).length ≤ 9 :=
  putL_len 8 n (by have : (128 : Nat) ^ (8 + 1) = 9223372036854775808 := by decide
                   omega)

theorem u8_or128 : ∀ n : Nat, n < 256 → bits .or .u8 (n : Int) 128 = ((n % 128 + 128 : Nat) : Int) := by decide +kernel
theorem vByte_ofNat {n : Nat} (h : n < 256) (z : Int) (hz : z = (n : Int)) : Value.int .u8 z = vByte (UInt8.ofNat n) := by
  subst hz
  show Value.int .u8 _ = Value.int .u8 ((UInt8.ofNat n).toNat : Int)
  rw [Code.toNat_ofNat h]
theorem put_byte (m : Nat) : bits .or .u8 ((m : Int) % 256) 128 = ((m % 128 + 128 : Nat) : Int) := by
  have := u8_or128 (m % 256) (Nat.mod_lt _ (by omega))
  rw [show m % 256 % 128 = m % 128 from by omega] at this
  rw [← this]
  congr 1
/-- the steps of a row of bytes -/
theorem row_step {w1 : World} {base e : Nat} {v1 : Value} {l : List UInt8} {z : Int} {n : Nat} (hn : n < 256) (hz : z = (n : Int)) (h : w1.ownsRow base e 1 v1 (l.length + 1) (l.map vByte ++ [Value.int .u8 z])) :
    w1.ownsRow base e 1 v1 (l ++ [UInt8.ofNat n]).length ((l ++ [UInt8.ofNat n]).map vByte) := by
  rw [vByte_ofNat hn z hz] at h
  simpa using h

set_option maxRecDepth 100000 in
set_option maxHeartbeats 400000 in
theorem put_any (w : World) (n : Int) (hn : n ≤ 9223372036854775807) :
    Calls Try.prog 43 #[.int .i64 n] w fun e w' => ∃ v, e = .returned v ∧ w'.ownsRow w.heap.size 5 1 v (Code.putN n).length ((Code.putN n).map vByte) ∧ Below w.heap.size w w' := by
  by_cases h0 : n < 0
  · have hp : Hid (Code.putN n = []) := if_pos h0
    go_enter Try.func43, Try.ntmps43
    go_wp2
    go_ret
    rw [hp.out]
    exact ⟨_, rfl, World.ownsRow_nil _ _ _ _, Below.refl _ _⟩
  · obtain ⟨N, rfl⟩ := Int.eq_ofNat_of_zero_le (show 0 ≤ n by omega)
    have hp : Hid (Code.putN (N : Int) = Code.putL N) := by unfold Code.putN; rw [if_neg h0]; rfl
    have h9 := putL_len9 (n := N) (by omega)
    have H9 := Lib.hid h9
    clear h9
    go_enter Try.func43, Try.ntmps43
    go_wp2
    go_loopw [0, 3] (fun i v wr => ∃ (m : Nat) (l : List UInt8), m ≤ N ∧ i = .int .i64 m ∧ Code.putL N = l ++ Code.putL m ∧ wr.ownsRow w.heap.size 5 1 v l.length (l.map vByte) ∧ Below w.heap.size w wr) (fun i _ _ => (intOf i).toNat)
    case atStart => exact ⟨N, [], Nat.le_refl _, rfl, rfl, World.ownsRow_nil _ _ _ _, Below.refl _ _⟩
    case round =>
      obtain ⟨m, l, hm, rfl, hl, hown, hb⟩ := hrel
      have hsz := hb.size
      have hll : l.length ≤ 9 := by have := H9.out; rw [hl] at this; simp at this; omega
      have HL := Lib.hid hl
      clear hl
      by_cases hs : m < 128
      · as_aux_lemma =>
        go_wp2_with (at_builtin; refine wpList_app1 eByte rfl rfl hown rfl rfl (by first | rfl | simp) rfl (by omega) (by first | omega | (simp; omega)) ?_; intro v1 w1 hown1 hg1 hk1)
        go_ret
        rw [hp.out, HL.out, Code.putL_small hs]
        exact ⟨_, rfl, row_step (n := m) (by omega) rfl hown1, below_grown hb hown hg1 (Nat.le_refl _) hsz⟩
      · as_aux_lemma =>
        go_wp2_with (at_builtin; refine wpList_app1 eByte rfl rfl hown rfl rfl (by first | rfl | simp) rfl (by omega) (by first | omega | (simp; omega)) ?_; intro v1 w1 hown1 hg1 hk1)
        go_roundw
        case rel => exact ⟨m / 128, _, by omega, by go_num, by rw [HL.out, Code.putL_big hs, List.append_cons], row_step (n := m % 128 + 128) (by omega) (put_byte m) hown1, below_grown hb hown hg1 (Nat.le_refl _) hsz⟩
        case measure => first | (simp [intOf]; done) | (simp [intOf]; omega)
set_option maxRecDepth 100000 in
set_option maxHeartbeats 400000 in
theorem rput_any (w : World) (n : Int) (hn : n ≤ 9223372036854775807) :
    Calls Try.prog 45 #[.int .i64 n] w fun e w' => ∃ v, e = .returned v ∧ w'.ownsRow w.heap.size 5 1 v (Code.putN n).length ((Code.putN n).map vByte) ∧ Below w.heap.size w w' := by
  by_cases h0 : n < 0
  · have hp : Hid (Code.putN n = []) := if_pos h0
    go_enter Try.func45, Try.ntmps45
    go_wp2
    go_ret
    rw [hp.out]
    exact ⟨_, rfl, World.ownsRow_nil _ _ _ _, Below.refl _ _⟩
  · obtain ⟨N, rfl⟩ := Int.eq_ofNat_of_zero_le (show 0 ≤ n by omega)
    have hp : Hid (Code.putN (N : Int) = Code.putL N) := by unfold Code.putN; rw [if_neg h0]; rfl
    have h9 := putL_len9 (n := N) (by omega)
    have H9 := Lib.hid h9
    clear h9
    go_enter Try.func45, Try.ntmps45
    go_wp2
    go_loopw [0, 3] (fun i v wr => ∃ (m : Nat) (l : List UInt8), m ≤ N ∧ i = .int .i64 m ∧ Code.putL N = l ++ Code.putL m ∧ wr.ownsRow w.heap.size 5 1 v l.length (l.map vByte) ∧ Below w.heap.size w wr) (fun i _ _ => (intOf i).toNat)
    case atStart => exact ⟨N, [], Nat.le_refl _, rfl, rfl, World.ownsRow_nil _ _ _ _, Below.refl _ _⟩
    case round =>
      obtain ⟨m, l, hm, rfl, hl, hown, hb⟩ := hrel
      have hsz := hb.size
      have hll : l.length ≤ 9 := by have := H9.out; rw [hl] at this; simp at this; omega
      have HL := Lib.hid hl
      clear hl
      by_cases hs : m < 128
      · as_aux_lemma =>
        go_wp2_with (at_builtin; refine wpList_app1 eByte rfl rfl hown rfl rfl (by first | rfl | simp) rfl (by omega) (by first | omega | (simp; omega)) ?_; intro v1 w1 hown1 hg1 hk1)
        go_ret
        rw [hp.out, HL.out, Code.putL_small hs]
        exact ⟨_, rfl, row_step (n := m) (by omega) rfl hown1, below_grown hb hown hg1 (Nat.le_refl _) hsz⟩
      · as_aux_lemma =>
        go_wp2_with (at_builtin; refine wpList_app1 eByte rfl rfl hown rfl rfl (by first | rfl | simp) rfl (by omega) (by first | omega | (simp; omega)) ?_; intro v1 w1 hown1 hg1 hk1)
        go_roundw
        case rel => exact ⟨m / 128, _, by omega, by go_num, by rw [HL.out, Code.putL_big hs, List.append_cons], row_step (n := m % 128 + 128) (by omega) (by omega) hown1, below_grown hb hown hg1 (Nat.le_refl _) hsz⟩
        case measure => first | (simp [intOf]; done) | (simp [intOf]; omega)

end Go.Proofs.Ythoccmgfpjfkoaa
