/- Values made by numbers: law7.Make. Written by valopsgen.py. -/
import Derived.Test.YtcbaioagcemmnaaDoorValSpec
namespace Go.Proofs.YtcbaioagcemmnaaDoor
open Go.RowKit Go.Maps
/-- a value by numbers -/
def vmake (k n : Int) (s : ByteArray) : V3 := if k % 5 = 1 then (1, n, noB) else if k % 5 = 2 then (if 200 < s.size then (2, 0, noB) else (2, 0, s)) else if k % 5 = 3 then (3, bits .and .i64 n 1, noB) else if k % 5 = 4 then (4, 1 + (bits .and .i64 n 1023) % 6, noB) else (0, 0, noB)
theorem bits_low (n : Int) (c : Nat) (hc : c ≤ 1023) : ∃ m : Nat, m ≤ c ∧ bits .and .i64 n (c : Int) = (m : Int) := by
  refine ⟨((BitVec.ofInt 64 n) &&& (BitVec.ofInt 64 (c : Int))).toNat, ?_, ?_⟩
  · rw [BitVec.toNat_and]
    refine Nat.le_trans Nat.and_le_right ?_
    rw [BitVec.ofInt_natCast, BitVec.toNat_ofNat]
    exact Nat.mod_le _ _
  · have h : ((BitVec.ofInt 64 n) &&& (BitVec.ofInt 64 (c : Int))).toNat ≤ 1023 := by
      rw [BitVec.toNat_and]
      refine Nat.le_trans Nat.and_le_right ?_
      rw [BitVec.ofInt_natCast, BitVec.toNat_ofNat]
      exact Nat.le_trans (Nat.mod_le _ _) hc
    show IntKind.i64.wrap (((BitVec.ofInt 64 n) &&& (BitVec.ofInt 64 (c : Int))).toNat : Int) = _
    generalize ((BitVec.ofInt 64 n) &&& (BitVec.ofInt 64 (c : Int))).toNat = m at *
    simp [IntKind.wrap, IntKind.signed, IntKind.bits]
    omega
set_option maxRecDepth 100000 in
set_option maxHeartbeats 2000000 in
theorem make_k1 (w : World) (k : Nat) (n : Int) (s : ByteArray) (hk : (k : Int) % 5 = 1) : Calls Tryd.prog 13 #[.int .u8 k, .int .i64 n, .string s] w fun e w' => e = .returned (.agg #[.int .i64 1, .int .i64 n, .string ⟨#[]⟩]) ∧ Below w.heap.size w w' := by
  go_enter Tryd.func13, Tryd.ntmps13
  go_wp2
  all_goals first
    | (exfalso; omega)
    | (refine bodyPost_ret (v := .agg #[.int .i64 1, .int .i64 n, .string ⟨#[]⟩]) ?_ rfl ⟨rfl, (Below.refl _ _).alloc (Nat.le_refl _) _⟩; simp [results, Tryd.f13, go_sem]; done)
set_option maxRecDepth 100000 in
set_option maxHeartbeats 2000000 in
theorem make_k2L (w : World) (k : Nat) (n : Int) (s : ByteArray) (hk : (k : Int) % 5 = 2) (hs : (200 : Int) < (s.size : Int)) : Calls Tryd.prog 13 #[.int .u8 k, .int .i64 n, .string s] w fun e w' => e = .returned (.agg #[.int .i64 2, .int .i64 0, .string ⟨#[]⟩]) ∧ Below w.heap.size w w' := by
  go_enter Tryd.func13, Tryd.ntmps13
  go_wp2
  all_goals first
    | (exfalso; omega)
    | (refine bodyPost_ret (v := .agg #[.int .i64 2, .int .i64 0, .string ⟨#[]⟩]) ?_ rfl ⟨rfl, (Below.refl _ _).alloc (Nat.le_refl _) _⟩; simp [results, Tryd.f13, go_sem]; done)
set_option maxRecDepth 100000 in
set_option maxHeartbeats 2000000 in
theorem make_k2S (w : World) (k : Nat) (n : Int) (s : ByteArray) (hk : (k : Int) % 5 = 2) (hs : (s.size : Int) ≤ 200) : Calls Tryd.prog 13 #[.int .u8 k, .int .i64 n, .string s] w fun e w' => e = .returned (.agg #[.int .i64 2, .int .i64 0, .string s]) ∧ Below w.heap.size w w' := by
  go_enter Tryd.func13, Tryd.ntmps13
  go_wp2
  all_goals first
    | (exfalso; omega)
    | (refine bodyPost_ret (v := .agg #[.int .i64 2, .int .i64 0, .string s]) ?_ rfl ⟨rfl, (Below.refl _ _).alloc (Nat.le_refl _) _⟩; simp [results, Tryd.f13, go_sem]; done)
set_option maxRecDepth 100000 in
set_option maxHeartbeats 2000000 in
theorem make_k3 (w : World) (k : Nat) (n : Int) (s : ByteArray) (hk : (k : Int) % 5 = 3) : Calls Tryd.prog 13 #[.int .u8 k, .int .i64 n, .string s] w fun e w' => e = .returned (.agg #[.int .i64 3, .int .i64 (bits .and .i64 n 1), .string ⟨#[]⟩]) ∧ Below w.heap.size w w' := by
  go_enter Tryd.func13, Tryd.ntmps13
  go_wp2
  all_goals first
    | (exfalso; omega)
    | (refine bodyPost_ret (v := .agg #[.int .i64 3, .int .i64 (bits .and .i64 n 1), .string ⟨#[]⟩]) ?_ rfl ⟨rfl, (Below.refl _ _).alloc (Nat.le_refl _) _⟩; simp [results, Tryd.f13, go_sem]; done)
set_option maxRecDepth 100000 in
set_option maxHeartbeats 2000000 in
theorem make_k4 (w : World) (k : Nat) (n : Int) (s : ByteArray) (hk : (k : Int) % 5 = 4) : Calls Tryd.prog 13 #[.int .u8 k, .int .i64 n, .string s] w fun e w' => e = .returned (.agg #[.int .i64 4, .int .i64 (1 + (bits .and .i64 n 1023) % 6), .string ⟨#[]⟩]) ∧ Below w.heap.size w w' := by
  obtain ⟨m, hm, hb⟩ := bits_low n 1023 (Nat.le_refl _)
  have hb' : bits .and .i64 n 1023 = (m : Int) := hb
  have hw : IntKind.i64.wrap (m : Int) = m := by simp [IntKind.wrap, IntKind.signed, IntKind.bits]; omega
  rw [hb']
  clear hb
  go_enter Tryd.func13, Tryd.ntmps13
  go_wp2
  all_goals first
    | (exfalso; omega)
    | (refine bodyPost_ret (v := .agg #[.int .i64 4, .int .i64 (1 + (m : Int) % 6), .string ⟨#[]⟩]) ?_ rfl ⟨rfl, (Below.refl _ _).alloc (Nat.le_refl _) _⟩; simp [results, Tryd.f13, go_sem]; done)
set_option maxRecDepth 100000 in
set_option maxHeartbeats 2000000 in
theorem make_k0 (w : World) (k : Nat) (n : Int) (s : ByteArray) (hk : (k : Int) % 5 = 0) : Calls Tryd.prog 13 #[.int .u8 k, .int .i64 n, .string s] w fun e w' => e = .returned (.agg #[.int .i64 0, .int .i64 0, .string ⟨#[]⟩]) ∧ Below w.heap.size w w' := by
  go_enter Tryd.func13, Tryd.ntmps13
  go_wp2
  all_goals first
    | (exfalso; omega)
    | (refine bodyPost_ret (v := .agg #[.int .i64 0, .int .i64 0, .string ⟨#[]⟩]) ?_ rfl ⟨rfl, (Below.refl _ _).alloc (Nat.le_refl _) _⟩; simp [results, Tryd.f13, go_sem]; done)
theorem make_any (w : World) (k : Nat) (n : Int) (s : ByteArray) : Calls Tryd.prog 13 #[.int .u8 k, .int .i64 n, .string s] w fun e w' => e = .returned (vv (vmake k n s)) ∧ Below w.heap.size w w' := by
  unfold vmake
  by_cases h1 : (k : Int) % 5 = 1
  · rw [if_pos h1]; exact make_k1 w k n s h1
  by_cases h2 : (k : Int) % 5 = 2
  · rw [if_neg h1, if_pos h2]
    by_cases hs : 200 < s.size
    · rw [if_pos hs]; exact make_k2L w k n s h2 (by omega)
    · rw [if_neg hs]; exact make_k2S w k n s h2 (by omega)
  by_cases h3 : (k : Int) % 5 = 3
  · rw [if_neg h1, if_neg h2, if_pos h3]; exact make_k3 w k n s h3
  by_cases h4 : (k : Int) % 5 = 4
  · rw [if_neg h1, if_neg h2, if_neg h3, if_pos h4]; exact make_k4 w k n s h4
  · rw [if_neg h1, if_neg h2, if_neg h3, if_neg h4]; exact make_k0 w k n s (by omega)
theorem vmake_may (k : Nat) (n : Int) (s : ByteArray) (hn : InR n) : mayV (vmake k n s) ∧ InR (vmake k n s).2.1 := by
  obtain ⟨m, hm, hb⟩ := bits_low n 1023 (by decide)
  have hb' : bits .and .i64 n 1023 = (m : Int) := hb
  obtain ⟨m1, hm1, hb1⟩ := bits_low n 1 (by decide)
  have hb1' : bits .and .i64 n 1 = (m1 : Int) := hb1
  have r0 : InR 0 := ⟨by decide, by decide⟩
  unfold vmake
  split
  · exact ⟨.inr (.inl ⟨rfl, rfl⟩), hn⟩
  split
  · split
    · exact ⟨.inr (.inr (.inl ⟨rfl, rfl, by decide⟩)), r0⟩
    · exact ⟨.inr (.inr (.inl ⟨rfl, rfl, by show s.size ≤ 200; omega⟩)), r0⟩
  split
  · rw [hb1']
    exact ⟨.inr (.inr (.inr (.inl ⟨rfl, rfl, by show (m1 : Int) = 0 ∨ (m1 : Int) = 1; omega⟩))), by show InR (m1 : Int); unfold InR; omega⟩
  split
  · rw [hb']
    exact ⟨.inr (.inr (.inr (.inr ⟨rfl, rfl, by show (1 : Int) ≤ 1 + (m : Int) % 6; omega, by show 1 + (m : Int) % 6 ≤ 6; omega⟩))), by show InR (1 + (m : Int) % 6); unfold InR; omega⟩
  · exact ⟨.inl ⟨rfl, rfl, rfl⟩, r0⟩
theorem inR_res (z : Int) : InR (resV z).2.1 := by
  unfold resV
  split
  · assumption
  · exact ⟨by decide, by decide⟩
theorem inR_neg {x : V3} (h : InR x.2.1) : InR (vneg x).2.1 := by
  unfold vneg
  repeat' split
  all_goals first | assumption | exact inR_res _ | exact ⟨by show (_ : Int) ≤ 1; decide, by show (1 : Int) ≤ _; decide⟩
end Go.Proofs.YtcbaioagcemmnaaDoor
