/- chequerref1.Digits of any number. Written by refdigits.py. -/
import Derived.Test.YtejpfpklgkcagaaDoorRefOrder
import Derived.WalkSpells
namespace Go.Proofs.YtejpfpklgkcagaaDoor
open Go.RowKit Go.Maps
theorem dec_num {k : Nat} (h : k < 10) : (48 + UInt8.ofNat k : UInt8).toNat = 48 + k := by
  rw [UInt8.toNat_add, UInt8.toNat_ofNat_of_lt' (by show k < 256; omega)]
  show (48 + k) % 256 = _
  omega
theorem dec_add (k : Nat) : UInt8.ofNat (48 + k) = 48 + UInt8.ofNat k := by rw [UInt8.ofNat_add]; rfl
theorem dec_one {k : Nat} (h : k < 10) : Lib.decDigits k = [48 + UInt8.ofNat k] := by rw [Lib.decDigits_one h, dec_add]
theorem dec_big {n : Nat} (h : ¬ n < 10) : Lib.decDigits n = Lib.decDigits (n / 10) ++ [48 + UInt8.ofNat (n % 10)] := by rw [Lib.decDigits, dif_neg h, dec_add]
theorem str1_cons (x : UInt8) (l : List UInt8) : (⟨#[x]⟩ ++ ⟨l.toArray⟩ : ByteArray) = ⟨(x :: l).toArray⟩ := by
  apply ByteArray.ext
  simp [ByteArray.data_append]
theorem dec_len {m : Nat} (h : m ≤ 9223372036854775808) : (Lib.decDigits m).length ≤ 21 := by
  by_cases h2 : m ≤ 9223372036854775807
  · have := Lib.itoa_length_le (m : Int) (by omega) (by omega)
    rw [Lib.itoa_nonneg] at this
    omega
  · have := Lib.itoa_length_le (-(m : Int)) (by omega) (by omega)
    rw [Lib.itoa_neg m (by omega), List.length_cons] at this
    omega
set_option maxRecDepth 100000 in
set_option maxHeartbeats 1000000 in
theorem rdig_pos (w : World) (m : Nat) (hm : m ≤ 9223372036854775807) :
    Calls Tryd.prog 33 #[.int .i64 m] w fun e w' => e = .returned (.string ⟨(Lib.itoa (m : Int)).toArray⟩) ∧ Below w.heap.size w w' := by
  have hw : IntKind.u64.wrap (m : Int) = m := by simp [IntKind.wrap, IntKind.signed, IntKind.bits]; omega
  have hlm := Lib.hid (dec_len (m := m) (by omega))
  have HR := Lib.hid (Lib.itoa_nonneg m)
  go_enter Tryd.func33, Tryd.ntmps33
  go_wp2
  go_loopw [3, 4] (fun u s wr => ∃ (k : Nat) (l : List UInt8), k ≤ m ∧ u = .int .u64 k ∧ s = .string ⟨l.toArray⟩ ∧ Hid (Lib.decDigits k ++ l = Lib.decDigits m) ∧ Below w.heap.size w wr) (fun u _ _ => (intOf u).toNat)
  case atStart => exact ⟨m, [], Nat.le_refl _, rfl, rfl, by simp [Hid], Below.refl _ _⟩
  case round =>
    obtain ⟨k, l, hk, rfl, rfl, hd, hb⟩ := hrel
    have hlen : l.length ≤ 21 := by have := congrArg List.length hd.out; rw [List.length_append] at this; have := hlm.out; omega
    by_cases h10 : k < 10
    · have hnum : 48 + (k : Int) = ((48 + UInt8.ofNat k : UInt8).toNat : Int) := by rw [dec_num (by omega)]; omega
      have hcv := run_str1 (P := Tryd.prog) Tryd.underlying59 Tryd.underlying5 Tryd.underlying9 wr _ _ hnum
      have hsz := hb.size
      clear hnum
      go_wp2
      go_ret
      refine ⟨?_, hb.alloc hsz _⟩
      have hd := hd.out
      rw [dec_one h10] at hd
      rw [HR.out, ← hd]
      show Ending.returned (.string (⟨#[48 + UInt8.ofNat k]⟩ ++ ⟨l.toArray⟩)) = _
      rw [str1_cons]; rfl
    · have hnum : 48 + (k : Int) % 10 = ((48 + UInt8.ofNat (k % 10) : UInt8).toNat : Int) := by rw [dec_num (by omega)]; omega
      have hcv := run_str1 (P := Tryd.prog) Tryd.underlying59 Tryd.underlying5 Tryd.underlying9 wr _ _ hnum
      have hsz := hb.size
      have hd2 : Hid (Lib.decDigits (k / 10) ++ ((48 + UInt8.ofNat (k % 10)) :: l) = Lib.decDigits m) := by rw [← hd.out, dec_big h10, List.append_assoc]; exact rfl
      clear hnum hd
      go_wp2
      go_roundw
      case rel => exact ⟨k / 10, (48 + UInt8.ofNat (k % 10)) :: l, by omega, by go_num, by rw [← str1_cons]; rfl, hd2, hb.alloc hsz _⟩
      case measure => first | (simp [intOf]; done) | (simp [intOf]; omega)
set_option maxRecDepth 100000 in
set_option maxHeartbeats 1000000 in
theorem rdig_neg (w : World) (m : Nat) (h1 : 1 ≤ m) (hm : m ≤ 9223372036854775808) :
    Calls Tryd.prog 33 #[.int .i64 (-(m : Int))] w fun e w' => e = .returned (.string ⟨(Lib.itoa (-(m : Int))).toArray⟩) ∧ Below w.heap.size w w' := by
  have hw : IntKind.u64.wrap (-(m : Int)) = 18446744073709551616 - m := by simp [IntKind.wrap, IntKind.signed, IntKind.bits]; omega
  have hw2 : IntKind.u64.wrap (-(18446744073709551616 - (m : Int))) = m := by simp [IntKind.wrap, IntKind.signed, IntKind.bits]; omega
  have hlm := Lib.hid (dec_len (m := m) (by omega))
  have HR := Lib.hid (Lib.itoa_neg m h1)
  have hneg : decide (-(m : Int) < 0) = true := decide_eq_true (by omega)
  go_enter Tryd.func33, Tryd.ntmps33
  go_wp2
  go_loopw [3, 4] (fun u s wr => ∃ (k : Nat) (l : List UInt8), k ≤ m ∧ u = .int .u64 k ∧ s = .string ⟨l.toArray⟩ ∧ Hid (Lib.decDigits k ++ l = Lib.decDigits m) ∧ Below w.heap.size w wr) (fun u _ _ => (intOf u).toNat)
  case atStart => exact ⟨m, [], Nat.le_refl _, by first | rfl | (rw [hw2]), rfl, by simp [Hid], Below.refl _ _⟩
  case round =>
    obtain ⟨k, l, hk, rfl, rfl, hd, hb⟩ := hrel
    have hlen : l.length ≤ 21 := by have := congrArg List.length hd.out; rw [List.length_append] at this; have := hlm.out; omega
    by_cases h10 : k < 10
    · have hnum : 48 + (k : Int) = ((48 + UInt8.ofNat k : UInt8).toNat : Int) := by rw [dec_num (by omega)]; omega
      have hcv := run_str1 (P := Tryd.prog) Tryd.underlying59 Tryd.underlying5 Tryd.underlying9 wr _ _ hnum
      have hsz := hb.size
      clear hnum
      go_wp2
      go_ret
      refine ⟨?_, hb.alloc hsz _⟩
      have hd := hd.out
      rw [dec_one h10] at hd
      rw [HR.out, ← hd]
      show Ending.returned (.string (⟨#[45]⟩ ++ (⟨#[48 + UInt8.ofNat k]⟩ ++ ⟨l.toArray⟩))) = _
      rw [str1_cons, str1_cons]; rfl
    · have hnum : 48 + (k : Int) % 10 = ((48 + UInt8.ofNat (k % 10) : UInt8).toNat : Int) := by rw [dec_num (by omega)]; omega
      have hcv := run_str1 (P := Tryd.prog) Tryd.underlying59 Tryd.underlying5 Tryd.underlying9 wr _ _ hnum
      have hsz := hb.size
      have hd2 : Hid (Lib.decDigits (k / 10) ++ ((48 + UInt8.ofNat (k % 10)) :: l) = Lib.decDigits m) := by rw [← hd.out, dec_big h10, List.append_assoc]; exact rfl
      clear hnum hd
      go_wp2
      go_roundw
      case rel => exact ⟨k / 10, (48 + UInt8.ofNat (k % 10)) :: l, by omega, by go_num, by rw [← str1_cons]; rfl, hd2, hb.alloc hsz _⟩
      case measure => first | (simp [intOf]; done) | (simp [intOf]; omega)
theorem rdig_any (w : World) (n : Int) (hn : InR n) : Calls Tryd.prog 33 #[.int .i64 n] w fun e w' => e = .returned (.string ⟨(Lib.itoa n).toArray⟩) ∧ Below w.heap.size w w' := by
  by_cases h : 0 ≤ n
  · obtain ⟨m, rfl⟩ : ∃ m : Nat, n = m := ⟨n.toNat, by omega⟩
    exact rdig_pos w m (by have := hn.2; omega)
  · obtain ⟨m, rfl⟩ : ∃ m : Nat, n = -(m : Int) := ⟨n.natAbs, by omega⟩
    exact rdig_neg w m (by omega) (by have := hn.1; omega)
set_option maxRecDepth 100000 in
set_option maxHeartbeats 1000000 in
theorem rtext_num (w : World) (n : Int) (s : ByteArray) (hn : InR n) : Calls Tryd.prog 20 #[.agg #[.int .i64 1, .int .i64 n, .string s]] w fun e w' => e = .returned (.string ⟨(Lib.itoa n).toArray⟩) ∧ Below w.heap.size w w' := by
  have C := Lib.hid (fun W => rdig_any W n hn)
  clear hn
  go_enter Tryd.func20, Tryd.ntmps20
  go_wp2_with fail
  refine (C.out _).mono ?_
  rintro e w1 ⟨rfl, hb⟩
  have hb2 := ((Below.refl w.heap.size w).alloc (Nat.le_refl _) (.cells #[.int .i64 1, .int .i64 n, .string s] 24)).trans (hb.mono (by simp))
  go_wp2
  go_ret
  exact ⟨rfl, hb2⟩
set_option maxRecDepth 100000 in
set_option maxHeartbeats 1000000 in
theorem rtext_str (w : World) (n : Int) (s : ByteArray) : Calls Tryd.prog 20 #[.agg #[.int .i64 2, .int .i64 n, .string s]] w fun e w' => e = .returned (.string s) ∧ Below w.heap.size w w' := by
  go_enter Tryd.func20, Tryd.ntmps20
  go_wp2
  go_ret
  exact ⟨rfl, (Below.refl _ _).alloc (Nat.le_refl _) _⟩
set_option maxRecDepth 100000 in
set_option maxHeartbeats 1000000 in
theorem rtext_true (w : World) (s : ByteArray) : Calls Tryd.prog 20 #[.agg #[.int .i64 3, .int .i64 1, .string s]] w fun e w' => e = .returned (.string ⟨#[84, 82, 85, 69]⟩) ∧ Below w.heap.size w w' := by
  go_enter Tryd.func20, Tryd.ntmps20
  go_wp2
  go_ret
  exact ⟨rfl, (Below.refl _ _).alloc (Nat.le_refl _) _⟩
set_option maxRecDepth 100000 in
set_option maxHeartbeats 1000000 in
theorem rtext_false (w : World) (n : Int) (s : ByteArray) (hn : n ≠ 1) : Calls Tryd.prog 20 #[.agg #[.int .i64 3, .int .i64 n, .string s]] w fun e w' => e = .returned (.string ⟨#[70, 65, 76, 83, 69]⟩) ∧ Below w.heap.size w w' := by
  have n1 : (n == 1) = false := by simpa using hn
  have n1' : decide (n = 1) = false := by simpa using hn
  clear hn
  go_enter Tryd.func20, Tryd.ntmps20
  go_wp2
  go_ret
  exact ⟨rfl, (Below.refl _ _).alloc (Nat.le_refl _) _⟩
set_option maxRecDepth 100000 in
set_option maxHeartbeats 1000000 in
theorem rtext_err1 (w : World) (s : ByteArray) : Calls Tryd.prog 20 #[.agg #[.int .i64 4, .int .i64 1, .string s]] w fun e w' => e = .returned (.string ⟨#[35, 86, 65, 76, 85, 69, 33]⟩) ∧ Below w.heap.size w w' := by
  go_enter Tryd.func20, Tryd.ntmps20
  go_wp2
  go_ret
  exact ⟨rfl, ((Below.refl _ _).alloc (Nat.le_refl _) _).alloc (by simp) _⟩
set_option maxRecDepth 100000 in
set_option maxHeartbeats 1000000 in
theorem rtext_err2 (w : World) (s : ByteArray) : Calls Tryd.prog 20 #[.agg #[.int .i64 4, .int .i64 2, .string s]] w fun e w' => e = .returned (.string ⟨#[35, 78, 85, 77, 33]⟩) ∧ Below w.heap.size w w' := by
  go_enter Tryd.func20, Tryd.ntmps20
  go_wp2
  go_ret
  exact ⟨rfl, ((Below.refl _ _).alloc (Nat.le_refl _) _).alloc (by simp) _⟩
set_option maxRecDepth 100000 in
set_option maxHeartbeats 1000000 in
theorem rtext_err3 (w : World) (s : ByteArray) : Calls Tryd.prog 20 #[.agg #[.int .i64 4, .int .i64 3, .string s]] w fun e w' => e = .returned (.string ⟨#[35, 68, 73, 86, 48, 33]⟩) ∧ Below w.heap.size w w' := by
  go_enter Tryd.func20, Tryd.ntmps20
  go_wp2
  go_ret
  exact ⟨rfl, ((Below.refl _ _).alloc (Nat.le_refl _) _).alloc (by simp) _⟩
set_option maxRecDepth 100000 in
set_option maxHeartbeats 1000000 in
theorem rtext_err4 (w : World) (s : ByteArray) : Calls Tryd.prog 20 #[.agg #[.int .i64 4, .int .i64 4, .string s]] w fun e w' => e = .returned (.string ⟨#[35, 82, 69, 70, 33]⟩) ∧ Below w.heap.size w w' := by
  go_enter Tryd.func20, Tryd.ntmps20
  go_wp2
  go_ret
  exact ⟨rfl, ((Below.refl _ _).alloc (Nat.le_refl _) _).alloc (by simp) _⟩
set_option maxRecDepth 100000 in
set_option maxHeartbeats 1000000 in
theorem rtext_err5 (w : World) (s : ByteArray) : Calls Tryd.prog 20 #[.agg #[.int .i64 4, .int .i64 5, .string s]] w fun e w' => e = .returned (.string ⟨#[35, 78, 65, 77, 69, 33]⟩) ∧ Below w.heap.size w w' := by
  go_enter Tryd.func20, Tryd.ntmps20
  go_wp2
  go_ret
  exact ⟨rfl, ((Below.refl _ _).alloc (Nat.le_refl _) _).alloc (by simp) _⟩
set_option maxRecDepth 100000 in
set_option maxHeartbeats 1000000 in
theorem rtext_err6 (w : World) (s : ByteArray) : Calls Tryd.prog 20 #[.agg #[.int .i64 4, .int .i64 6, .string s]] w fun e w' => e = .returned (.string ⟨#[35, 67, 89, 67, 76, 69, 33]⟩) ∧ Below w.heap.size w w' := by
  go_enter Tryd.func20, Tryd.ntmps20
  go_wp2
  go_ret
  exact ⟨rfl, ((Below.refl _ _).alloc (Nat.le_refl _) _).alloc (by simp) _⟩
set_option maxRecDepth 100000 in
set_option maxHeartbeats 1000000 in
theorem rtext_none (w : World) (n : Int) (s : ByteArray) : Calls Tryd.prog 20 #[.agg #[.int .i64 0, .int .i64 n, .string s]] w fun e w' => e = .returned (.string ⟨#[]⟩) ∧ Below w.heap.size w w' := by
  go_enter Tryd.func20, Tryd.ntmps20
  go_wp2
  go_ret
  exact ⟨rfl, (Below.refl _ _).alloc (Nat.le_refl _) _⟩
theorem rtext_any (w : World) (k n : Int) (s : ByteArray) (hn : InR n) (hm : mayV (k, n, s)) : Calls Tryd.prog 20 #[.agg #[.int .i64 k, .int .i64 n, .string s]] w fun e w' => e = .returned (.string (vtext (k, n, s))) ∧ Below w.heap.size w w' := by
  rcases hm with ⟨h, _, _⟩ | ⟨h, _⟩ | ⟨h, _⟩ | ⟨h, _⟩ | ⟨h, _, h1, h6⟩
  · have h : k = 0 := h
    subst h; exact rtext_none w n s
  · have h : k = 1 := h
    subst h; exact rtext_num w n s hn
  · have h : k = 2 := h
    subst h; exact rtext_str w n s
  · have h : k = 3 := h
    subst h
    by_cases h1 : n = 1
    · subst h1; exact rtext_true w s
    · rw [show vtext (3, n, s) = ⟨#[70, 65, 76, 83, 69]⟩ by simp [vtext, h1]]
      exact rtext_false w n s h1
  · have h : k = 4 := h
    have h1 : 1 ≤ n := h1
    have h6 : n ≤ 6 := h6
    subst h
    rcases (show n = 1 ∨ n = 2 ∨ n = 3 ∨ n = 4 ∨ n = 5 ∨ n = 6 by omega) with rfl | rfl | rfl | rfl | rfl | rfl
    · exact rtext_err1 w s
    · exact rtext_err2 w s
    · exact rtext_err3 w s
    · exact rtext_err4 w s
    · exact rtext_err5 w s
    · exact rtext_err6 w s
end Go.Proofs.YtejpfpklgkcagaaDoor
