/- chequerref1.Digits of any number. -/
import Derived.Test.YtehbfpcfbpbllaaGreatDoorMem2
import Derived.Test.YtehbfpcfbpbllaaGreatDoorChecked
import Derived.Lib.Hide
import Derived.BigQuiet
import Derived.LoopN
import Derived.WalkSpells
import Derived.Lib.ItoaLen
namespace Go.Proofs.YtehbfpcfbpbllaaGreatDoor
open Go.RowKit Go.Maps
def InR (n : Int) : Prop := -9223372036854775808 ≤ n ∧ n ≤ 9223372036854775807
theorem dec_num {k : Nat} (h : k < 10) : (48 + UInt8.ofNat k : UInt8).toNat = 48 + k := by
  rw [UInt8.toNat_add, UInt8.toNat_ofNat_of_lt' (by show k < 256; omega)]
  show (48 + k) % 256 = _
  omega
theorem dec_add (k : Nat) : UInt8.ofNat (48 + k) = 48 + UInt8.ofNat k := by rw [UInt8.ofNat_add]; rfl
theorem dec_one {k : Nat} (h : k < 10) : Lib.decDigits k = [48 + UInt8.ofNat k] := by rw [Lib.decDigits_one h, dec_add]
theorem dec_big {n : Nat} (h : ¬ n < 10) : Lib.decDigits n = Lib.decDigits (n / 10) ++ [48 + UInt8.ofNat (n % 10)] := by rw [Lib.decDigits, dif_neg h, dec_add]
theorem str1_cons (x : UInt8) (l : List UInt8) : (⟨#[x]⟩ ++ ⟨l.toArray⟩ : ByteArray) = ⟨(x :: l).toArray⟩ := by
  apply ByteArray.ext
  simp [ByteArray.data_append]
theorem dec_len {m : Nat} (h : m ≤ 9223372036854775808) : (Lib.decDigits m).length ≤ 21 := by
  by_cases h2 : m ≤ 9223372036854775807
  · have := Lib.itoa_length_le (m : Int) (by omega) (by omega)
    rw [Lib.itoa_nonneg] at this
    omega
  · have := Lib.itoa_length_le (-(m : Int)) (by omega) (by omega)
    rw [Lib.itoa_neg m (by omega), List.length_cons] at this
    omega
set_option maxRecDepth 100000 in
set_option maxHeartbeats 1000000 in
theorem rdig_pos (w : World) (m : Nat) (hm : m ≤ 9223372036854775807) :
    Calls Tryz.prog 7 #[.int .i64 m] w fun e w' => e = .returned (.string ⟨(Lib.itoa (m : Int)).toArray⟩) ∧ Below w.heap.size w w' := by
  have hw : IntKind.u64.wrap (m : Int) = m := by simp [IntKind.wrap, IntKind.signed, IntKind.bits]; omega
  have hlm := Lib.hid (dec_len (m := m) (by omega))
  have HR := Lib.hid (Lib.itoa_nonneg m)
  go_enter Tryz.func7, Tryz.ntmps7
  go_wp2
  go_loopw [3, 4] (fun u s wr => ∃ (k : Nat) (l : List UInt8), k ≤ m ∧ u = .int .u64 k ∧ s = .string ⟨l.toArray⟩ ∧ Hid (Lib.decDigits k ++ l = Lib.decDigits m) ∧ Below w.heap.size w wr) (fun u _ _ => (intOf u).toNat)
  case atStart => exact ⟨m, [], Nat.le_refl _, rfl, rfl, by simp [Hid], Below.refl _ _⟩
  case round =>
    obtain ⟨k, l, hk, rfl, rfl, hd, hb⟩ := hrel
    have hlen : l.length ≤ 21 := by have := congrArg List.length hd.out; rw [List.length_append] at this; have := hlm.out; omega
    by_cases h10 : k < 10
    · have hnum : 48 + (k : Int) = ((48 + UInt8.ofNat k : UInt8).toNat : Int) := by rw [dec_num (by omega)]; omega
      have hcv := run_str1 (P := Tryz.prog) Tryz.underlying44 Tryz.underlying5 Tryz.underlying9 wr _ _ hnum
      have hsz := hb.size
      clear hnum
      go_wp2
      go_ret
      refine ⟨?_, hb.alloc hsz _⟩
      have hd := hd.out
      rw [dec_one h10] at hd
      rw [HR.out, ← hd]
      show Ending.returned (.string (⟨#[48 + UInt8.ofNat k]⟩ ++ ⟨l.toArray⟩)) = _
      rw [str1_cons]; rfl
    · have hnum : 48 + (k : Int) % 10 = ((48 + UInt8.ofNat (k % 10) : UInt8).toNat : Int) := by rw [dec_num (by omega)]; omega
      have hcv := run_str1 (P := Tryz.prog) Tryz.underlying44 Tryz.underlying5 Tryz.underlying9 wr _ _ hnum
      have hsz := hb.size
      have hd2 : Hid (Lib.decDigits (k / 10) ++ ((48 + UInt8.ofNat (k % 10)) :: l) = Lib.decDigits m) := by rw [← hd.out, dec_big h10, List.append_assoc]; exact rfl
      clear hnum hd
      go_wp2
      go_roundw
      case rel => exact ⟨k / 10, (48 + UInt8.ofNat (k % 10)) :: l, by omega, by go_num, by rw [← str1_cons]; rfl, hd2, hb.alloc hsz _⟩
      case measure => first | (simp [intOf]; done) | (simp [intOf]; omega)
set_option maxRecDepth 100000 in
set_option maxHeartbeats 1000000 in
theorem rdig_neg (w : World) (m : Nat) (h1 : 1 ≤ m) (hm : m ≤ 9223372036854775808) :
    Calls Tryz.prog 7 #[.int .i64 (-(m : Int))] w fun e w' => e = .returned (.string ⟨(Lib.itoa (-(m : Int))).toArray⟩) ∧ Below w.heap.size w w' := by
  have hw : IntKind.u64.wrap (-(m : Int)) = 18446744073709551616 - m := by simp [IntKind.wrap, IntKind.signed, IntKind.bits]; omega
  have hw2 : IntKind.u64.wrap (-(18446744073709551616 - (m : Int))) = m := by simp [IntKind.wrap, IntKind.signed, IntKind.bits]; omega
  have hlm := Lib.hid (dec_len (m := m) (by omega))
  have HR := Lib.hid (Lib.itoa_neg m h1)
  have hneg : decide (-(m : Int) < 0) = true := decide_eq_true (by omega)
  go_enter Tryz.func7, Tryz.ntmps7
  go_wp2
  go_loopw [3, 4] (fun u s wr => ∃ (k : Nat) (l : List UInt8), k ≤ m ∧ u = .int .u64 k ∧ s = .string ⟨l.toArray⟩ ∧ Hid (Lib.decDigits k ++ l = Lib.decDigits m) ∧ Below w.heap.size w wr) (fun u _ _ => (intOf u).toNat)
  case atStart => exact ⟨m, [], Nat.le_refl _, by first | rfl | (rw [hw2]), rfl, by simp [Hid], Below.refl _ _⟩
  case round =>
    obtain ⟨k, l, hk, rfl, rfl, hd, hb⟩ := hrel
    have hlen : l.length ≤ 21 := by have := congrArg List.length hd.out; rw [List.length_append] at this; have := hlm.out; omega
    by_cases h10 : k < 10
    · have hnum : 48 + (k : Int) = ((48 + UInt8.ofNat k : UInt8).toNat : Int) := by rw [dec_num (by omega)]; omega
      have hcv := run_str1 (P := Tryz.prog) Tryz.underlying44 Tryz.underlying5 Tryz.underlying9 wr _ _ hnum
      have hsz := hb.size
      clear hnum
      go_wp2
      go_ret
      refine ⟨?_, hb.alloc hsz _⟩
      have hd := hd.out
      rw [dec_one h10] at hd
      rw [HR.out, ← hd]
      show Ending.returned (.string (⟨#[45]⟩ ++ (⟨#[48 + UInt8.ofNat k]⟩ ++ ⟨l.toArray⟩))) = _
      rw [str1_cons, str1_cons]; rfl
    · have hnum : 48 + (k : Int) % 10 = ((48 + UInt8.ofNat (k % 10) : UInt8).toNat : Int) := by rw [dec_num (by omega)]; omega
      have hcv := run_str1 (P := Tryz.prog) Tryz.underlying44 Tryz.underlying5 Tryz.underlying9 wr _ _ hnum
      have hsz := hb.size
      have hd2 : Hid (Lib.decDigits (k / 10) ++ ((48 + UInt8.ofNat (k % 10)) :: l) = Lib.decDigits m) := by rw [← hd.out, dec_big h10, List.append_assoc]; exact rfl
      clear hnum hd
      go_wp2
      go_roundw
      case rel => exact ⟨k / 10, (48 + UInt8.ofNat (k % 10)) :: l, by omega, by go_num, by rw [← str1_cons]; rfl, hd2, hb.alloc hsz _⟩
      case measure => first | (simp [intOf]; done) | (simp [intOf]; omega)
theorem rdig_any (w : World) (n : Int) (hn : InR n) : Calls Tryz.prog 7 #[.int .i64 n] w fun e w' => e = .returned (.string ⟨(Lib.itoa n).toArray⟩) ∧ Below w.heap.size w w' := by
  by_cases h : 0 ≤ n
  · obtain ⟨m, rfl⟩ : ∃ m : Nat, n = m := ⟨n.toNat, by omega⟩
    exact rdig_pos w m (by have := hn.2; omega)
  · obtain ⟨m, rfl⟩ : ∃ m : Nat, n = -(m : Int) := ⟨n.natAbs, by omega⟩
    exact rdig_neg w m (by omega) (by have := hn.1; omega)
end Go.Proofs.YtehbfpcfbpbllaaGreatDoor
