/- The walk of chequerref1.Digits. -/
import Derived.Test.YthoccmgfpjfkoaaKeyPut
import Derived.Test.YthoccmgfpjfkoaaMem2
namespace Go.Proofs.Ythoccmgfpjfkoaa
open Go.RowKit

/-- a number's digits -/
def digs (n : Nat) : List UInt8 := if n < 10 then [48 + UInt8.ofNat n] else digs (n / 10) ++ [48 + UInt8.ofNat (n % 10)]
termination_by n
theorem digs_small {n : Nat} (h : n < 10) : digs n = [48 + UInt8.ofNat n] := by rw [digs, if_pos h]
theorem digs_big {n : Nat} (h : ¬ n < 10) : digs n = digs (n / 10) ++ [48 + UInt8.ofNat (n % 10)] := by rw [digs, if_neg h]
def digits (n : Nat) : ByteArray := ⟨(digs n).toArray⟩

theorem d_num {k : Nat} (h : k < 10) : (48 + UInt8.ofNat k : UInt8).toNat = 48 + k := by
  rw [UInt8.toNat_add, Code.toNat_ofNat (by omega)]
  show (48 + k) % 256 = _
  omega
theorem digs_len : ∀ (f n : Nat), n < 10 ^ (f + 1) → (digs n).length ≤ f + 1
  | 0, n, h => by rw [digs_small (by simpa using h)]; simp
  | f + 1, n, h => by
    by_cases h10 : n < 10
    · rw [digs_small h10]; simp
    · rw [digs_big h10, List.length_append]
      have := digs_len f (n / 10) (by rw [Nat.pow_succ] at h; omega)
      simp only [List.length_singleton]; omega
theorem str_cons (x : UInt8) (l : List UInt8) : (⟨#[x]⟩ ++ ⟨l.toArray⟩ : ByteArray) = ⟨(x :: l).toArray⟩ := by
  apply ByteArray.ext
  simp [ByteArray.data_append]

set_option maxRecDepth 100000 in
theorem digits_any (w : World) (n : Nat) (hn : n < 9223372036854775808) :
    Calls Try.prog 8 #[.int .i64 n] w fun e w' => e = .returned (.string (digits n)) ∧ Below w.heap.size w w' := by
  have hw : IntKind.u64.wrap (n : Int) = n := by simp [IntKind.wrap, IntKind.signed, IntKind.bits]; omega
  have hdl : (digs n).length ≤ 19 := digs_len 18 n (Nat.lt_of_lt_of_le hn (by decide))
  go_enter Try.func8, Try.ntmps8
  go_wp2
  go_loopw [3, 4] (fun u s wr => ∃ (k : Nat) (l : List UInt8), k ≤ n ∧ u = .int .u64 k ∧ s = .string ⟨l.toArray⟩ ∧ Hid (digs k ++ l = digs n) ∧ Below w.heap.size w wr) (fun u _ _ => (intOf u).toNat)
  case atStart => exact ⟨n, [], Nat.le_refl _, rfl, rfl, by simp [Hid], Below.refl _ _⟩
  case round =>
    obtain ⟨k, l, hk, rfl, rfl, hd, hb⟩ := hrel
    have hlen : l.length ≤ 19 := by have := congrArg List.length hd.out; rw [List.length_append] at this; omega
    by_cases h10 : k < 10
    · have hnum : 48 + (k : Int) = ((48 + UInt8.ofNat k : UInt8).toNat : Int) := by rw [d_num (by omega)]; omega
      have hcv := run_str1 (P := Try.prog) Try.underlying46 Try.underlying5 Try.underlying9 wr _ _ hnum
      have hsz := hb.size
      clear hnum
      go_wp2
      go_ret
      refine ⟨?_, hb.alloc hsz _⟩
      have hd := hd.out
      rw [digs_small h10] at hd
      unfold digits
      rw [← hd]
      show Ending.returned (.string (⟨#[48 + UInt8.ofNat k]⟩ ++ ⟨l.toArray⟩)) = _
      rw [str_cons]; rfl
    · have hnum : 48 + (k : Int) % 10 = ((48 + UInt8.ofNat (k % 10) : UInt8).toNat : Int) := by rw [d_num (by omega)]; omega
      have hcv := run_str1 (P := Try.prog) Try.underlying46 Try.underlying5 Try.underlying9 wr _ _ hnum
      have hsz := hb.size
      have hd2 : Hid (digs (k / 10) ++ ((48 + UInt8.ofNat (k % 10)) :: l) = digs n) := by rw [← hd.out, digs_big h10, List.append_assoc]; exact rfl
      clear hnum hd
      go_wp2
      go_roundw
      case rel => exact ⟨k / 10, (48 + UInt8.ofNat (k % 10)) :: l, by omega, by go_num, by rw [← str_cons]; rfl, hd2, hb.alloc hsz _⟩
      case measure => first | (simp [intOf]; done) | (simp [intOf]; omega)
end Go.Proofs.Ythoccmgfpjfkoaa
