/- chequerref1.Digits of a number from 0 on. Its lines are those of XRefDigits. -/
import Derived.Test.YtcbaioagcemmnaaDoorValSpec
import Derived.WalkSpells
namespace Go.Proofs.YtcbaioagcemmnaaDoor
open Go.RowKit Go.Maps
theorem dec_num {k : Nat} (h : k < 10) : (48 + UInt8.ofNat k : UInt8).toNat = 48 + k := by
  rw [UInt8.toNat_add, UInt8.toNat_ofNat_of_lt' (by show k < 256; omega)]
  show (48 + k) % 256 = _
  omega
theorem dec_add (k : Nat) : UInt8.ofNat (48 + k) = 48 + UInt8.ofNat k := by rw [UInt8.ofNat_add]; rfl
theorem dec_one {k : Nat} (h : k < 10) : Lib.decDigits k = [48 + UInt8.ofNat k] := by rw [Lib.decDigits_one h, dec_add]
theorem dec_big {n : Nat} (h : ¬ n < 10) : Lib.decDigits n = Lib.decDigits (n / 10) ++ [48 + UInt8.ofNat (n % 10)] := by rw [Lib.decDigits, dif_neg h, dec_add]
theorem str1_cons (x : UInt8) (l : List UInt8) : (⟨#[x]⟩ ++ ⟨l.toArray⟩ : ByteArray) = ⟨(x :: l).toArray⟩ := by
  apply ByteArray.ext
  simp [ByteArray.data_append]
theorem dec_len {m : Nat} (h : m ≤ 9223372036854775808) : (Lib.decDigits m).length ≤ 21 := by
  by_cases h2 : m ≤ 9223372036854775807
  · have := Lib.itoa_length_le (m : Int) (by omega) (by omega)
    rw [Lib.itoa_nonneg] at this
    omega
  · have := Lib.itoa_length_le (-(m : Int)) (by omega) (by omega)
    rw [Lib.itoa_neg m (by omega), List.length_cons] at this
    omega
set_option maxRecDepth 100000 in
set_option maxHeartbeats 1000000 in
theorem rdig_pos (w : World) (m : Nat) (hm : m ≤ 9223372036854775807) :
    Calls Tryd.prog 14 #[.int .i64 m] w fun e w' => e = .returned (.string ⟨(Lib.itoa (m : Int)).toArray⟩) ∧ Below w.heap.size w w' := by
  have hw : IntKind.u64.wrap (m : Int) = m := by simp [IntKind.wrap, IntKind.signed, IntKind.bits]; omega
  have hlm := Lib.hid (dec_len (m := m) (by omega))
  have HR := Lib.hid (Lib.itoa_nonneg m)
  go_enter Tryd.func14, Tryd.ntmps14
  go_wp2
  go_loopw [3, 4] (fun u s wr => ∃ (k : Nat) (l : List UInt8), k ≤ m ∧ u = .int .u64 k ∧ s = .string ⟨l.toArray⟩ ∧ Hid (Lib.decDigits k ++ l = Lib.decDigits m) ∧ Below w.heap.size w wr) (fun u _ _ => (intOf u).toNat)
  case atStart => exact ⟨m, [], Nat.le_refl _, rfl, rfl, by simp [Hid], Below.refl _ _⟩
  case round =>
    obtain ⟨k, l, hk, rfl, rfl, hd, hb⟩ := hrel
    have hlen : l.length ≤ 21 := by have := congrArg List.length hd.out; rw [List.length_append] at this; have := hlm.out; omega
    by_cases h10 : k < 10
    · have hnum : 48 + (k : Int) = ((48 + UInt8.ofNat k : UInt8).toNat : Int) := by rw [dec_num (by omega)]; omega
      have hcv := run_str1 (P := Tryd.prog) Tryd.underlying52 Tryd.underlying5 Tryd.underlying9 wr _ _ hnum
      have hsz := hb.size
      clear hnum
      go_wp2
      go_ret
      refine ⟨?_, hb.alloc hsz _⟩
      have hd := hd.out
      rw [dec_one h10] at hd
      rw [HR.out, ← hd]
      show Ending.returned (.string (⟨#[48 + UInt8.ofNat k]⟩ ++ ⟨l.toArray⟩)) = _
      rw [str1_cons]; rfl
    · have hnum : 48 + (k : Int) % 10 = ((48 + UInt8.ofNat (k % 10) : UInt8).toNat : Int) := by rw [dec_num (by omega)]; omega
      have hcv := run_str1 (P := Tryd.prog) Tryd.underlying52 Tryd.underlying5 Tryd.underlying9 wr _ _ hnum
      have hsz := hb.size
      have hd2 : Hid (Lib.decDigits (k / 10) ++ ((48 + UInt8.ofNat (k % 10)) :: l) = Lib.decDigits m) := by rw [← hd.out, dec_big h10, List.append_assoc]; exact rfl
      clear hnum hd
      go_wp2
      go_roundw
      case rel => exact ⟨k / 10, (48 + UInt8.ofNat (k % 10)) :: l, by omega, by go_num, by rw [← str1_cons]; rfl, hd2, hb.alloc hsz _⟩
      case measure => first | (simp [intOf]; done) | (simp [intOf]; omega)
end Go.Proofs.YtcbaioagcemmnaaDoor
