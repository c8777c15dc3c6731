/- CalcRow: what stands for the number of cells, for the first number, for its text; what is reckoned with them; hooks. -/
import Derived.Test.YtehbfpcfbpbllaaGreatDoorCRMemoF
import Derived.Test.YtehbfpcfbpbllaaGreatDoorCRMemoM
import Derived.Test.YtehbfpcfbpbllaaGreatDoorCRCell
namespace Go.Proofs.YtehbfpcfbpbllaaGreatDoor
namespace VM
open Go Go.RowKit
set_option linter.unusedVariables false
noncomputable section
def iA (n start c : Int) (j : Nat) : Int := if j = 0 then n else if j ≤ 21 then start + ((j : Int) - 1) else c
def sA (start : Int) : List Nat := strOf (numS start)
def firstC (start : Int) : Int := (((sA start)[0]?).getD 0 : Nat)
@[reducible] def syCR (n start : Int) (tab : List (Nat × Obj)) : Sy := ⟨iA n start (firstC start), fun _ => sA start, tab⟩
def soCR (m : Nat) (o : SOp) (al : List V) : Option V :=
  match o, al with
  | .conv k, [.symI l j] => bif keq k .i64 && (keq l .u8 && Nat.beq j 0 || keq l .i16 && Nat.beq j 1) then some (.symI .i64 j) else none
  | .idx, [.symS j, .int l (.ofNat n)] => bif Nat.beq n 0 then some (.symI .u8 40) else none
  | .bin .rem, [.symI k j, .int l (.ofNat n)] => bif keq k .i64 && keq l .i64 && Nat.beq j 0 && Nat.beq n 9 then some (.int .i64 (.ofNat m)) else none
  | .bin .add, [.symI k j, .int l (.ofNat c)] => bif keq k .i64 && keq l .i64 && Nat.ble 1 j && Nat.ble (j + c) 21 then some (.symI .i64 (j + c)) else none
  | .bin .sub, [.symI k j, .int l (.ofNat c)] => bif keq k .i64 && keq l .i64 && Nat.blt c j && Nat.ble j 21 then some (.symI .i64 (j - c)) else none
  | .bin .gtr, [.symI k a, .symI l b] => bif keq k .i64 && keq l .i64 && Nat.ble 1 a && Nat.ble a 21 && Nat.ble 1 b && Nat.ble b 21 then some (.bool (Nat.blt b a)) else none
  | .bin .neq, [.symS j, .str []] => some (.bool true)
  | .bin .eql, [.symI k j, .int l (.ofNat n)] => bif keq k .u8 && keq l .u8 && Nat.beq j 40 && Nat.beq n 61 then some (.bool false) else none
  | _, _ => none
theorem sA_cons {start : Int} (h : Small start) : ∃ c r, sA start = c :: r ∧ 45 ≤ c ∧ c ≤ 57 := by
  obtain ⟨a, T⟩ := numText start h
  have hs : (sA start).length = (numS start).size := by unfold sA strOf; rw [List.length_map, Array.length_toList]; rfl
  have h0 := T.pos
  cases hc : sA start with
  | nil => rw [hc] at hs; simp at hs; omega
  | cons c r =>
    refine ⟨c, r, rfl, ?_⟩
    have hz : 0 < (numS start).size := by omega
    have e : c = ((numS start)[0]'hz).toNat := by
      have h1 : (sA start)[0]? = some c := by rw [hc]; rfl
      unfold sA strOf at h1
      rw [List.getElem?_map] at h1
      have h2 : (numS start).data.toList[0]? = some ((numS start)[0]'hz) := by
        rw [Array.getElem?_toList]
        exact Array.getElem?_eq_getElem hz
      rw [h2] at h1
      simpa using h1.symm
    rcases T.head with ⟨_, h1⟩ | ⟨h1, _⟩
    · rw [e, h1]; omega
    · subst h1
      have := T.dig 0 hz (Nat.le_refl _)
      omega
structure Fit (n start : Int) (m : Nat) : Prop where
  n0 : 0 ≤ n
  n1 : n < 256
  mod : n % 9 = m
  lo : -32768 ≤ start
  hi : start ≤ 32767
theorem Fit.small {n start : Int} {m : Nat} (f : Fit n start m) : Small start := ⟨by have := f.lo; omega, by have := f.hi; omega⟩
theorem wrap_fit {z : Int} (h1 : -9223372036854775808 ≤ z) (h2 : z ≤ 9223372036854775807) : IntKind.i64.wrap z = z := Go.IntWalk.i64_in _ ⟨h1, h2⟩
theorem keqR (k : IntKind) : keq k k = true := by cases k <;> rfl
theorem keq_iff {j k : IntKind} : keq j k = true ↔ j = k := ⟨fun h => (by cases j <;> cases k <;> first | rfl | cases h), fun h => (by rw [h]; exact keqR k)⟩
theorem sopCR {n start : Int} {m : Nat} (f : Fit n start m) (tab : List (Nat × Obj)) (E : Env) (hE : E.so = soCR m) : @SopOK (syCR n start tab) E := by
  letI : Sy := syCR n start tab
  have f1 := f.lo
  have f2 := f.hi
  obtain ⟨c, r, hc, hc1, hc2⟩ := sA_cons f.small
  have hi : ∀ j, Sy.i j = iA n start (firstC start) j := fun _ => rfl
  have hfc : firstC start = c := by unfold firstC; rw [hc]; rfl
  have i0 : iA n start (firstC start) 0 = n := rfl
  have ij : ∀ j, 1 ≤ j → j ≤ 21 → iA n start (firstC start) j = start + ((j : Int) - 1) := fun j h1 h2 => by unfold iA; rw [if_neg (by omega), if_pos h2]
  have i40 : iA n start (firstC start) 40 = c := by unfold iA; rw [if_neg (by omega), if_neg (by omega), hfc]
  refine ⟨fun op a b v h => ?_, fun k a v h => ?_, fun a l q v h => ?_⟩
  · rw [hE] at h
    unfold soCR at h
    split at h <;> first | (cases h; done) | skip
    all_goals rename_i ho hal
    all_goals (try (cases ho))
    all_goals (try (cases hal))
    · rename_i k j l q
      cases hq : (keq k .i64 && keq l .i64 && Nat.beq j 0 && Nat.beq q 9) with
      | false => rw [hq] at h; cases h
      | true =>
        rw [hq] at h
        cases h
        simp only [Bool.and_eq_true, keq_iff, beq_d, decide_eq_true_iff] at hq
        obtain ⟨⟨⟨rfl, rfl⟩, rfl⟩, rfl⟩ := hq
        simp only [den, hi, i0, vbin, keqR, cond_true]
        have e1 : ieq (Int.ofNat 9) 0 = false := rfl
        rw [e1, mkInt_eq]
        simp only [cond_false]
        have : n.tmod (Int.ofNat 9) = Int.ofNat m := by
          have := f.mod
          have := f.n0
          rw [Int.tmod_eq_emod_of_nonneg (by omega)]
          omega
        rw [this]
    · rename_i k j l q
      cases hq : (keq k .i64 && keq l .i64 && Nat.ble 1 j && Nat.ble (j + q) 21) with
      | false => rw [hq] at h; cases h
      | true =>
        rw [hq] at h
        cases h
        simp only [Bool.and_eq_true, keq_iff, Nat.ble_eq] at hq
        obtain ⟨⟨⟨rfl, rfl⟩, h1⟩, h2⟩ := hq
        simp only [den, hi, ij j h1 (by omega), ij (j + q) (by omega) h2, vbin, keqR, cond_true]
        rw [mkInt_eq, wrap_fit (by simp only [Int.ofNat_eq_natCast]; omega) (by simp only [Int.ofNat_eq_natCast]; omega)]
        congr 2
        simp only [Int.ofNat_eq_natCast]
        omega
    · rename_i k j l q
      cases hq : (keq k .i64 && keq l .i64 && Nat.blt q j && Nat.ble j 21) with
      | false => rw [hq] at h; cases h
      | true =>
        rw [hq] at h
        cases h
        simp only [Bool.and_eq_true, keq_iff, Nat.ble_eq, Nat.blt_eq] at hq
        obtain ⟨⟨⟨rfl, rfl⟩, h1⟩, h2⟩ := hq
        simp only [den, hi, ij j (by omega) (by omega), ij (j - q) (by omega) (by omega), vbin, keqR, cond_true]
        rw [mkInt_eq, wrap_fit (by simp only [Int.ofNat_eq_natCast]; omega) (by simp only [Int.ofNat_eq_natCast]; omega)]
        congr 2
        simp only [Int.ofNat_eq_natCast]
        omega
    · rename_i k a l b
      cases hq : (keq k .i64 && keq l .i64 && Nat.ble 1 a && Nat.ble a 21 && Nat.ble 1 b && Nat.ble b 21) with
      | false => rw [hq] at h; cases h
      | true =>
        rw [hq] at h
        cases h
        simp only [Bool.and_eq_true, keq_iff, Nat.ble_eq] at hq
        obtain ⟨⟨⟨⟨⟨rfl, rfl⟩, h1⟩, h2⟩, h3⟩, h4⟩ := hq
        simp only [den, hi, ij a h1 h2, ij b h3 h4, vbin, keqR, cond_true]
        rw [ilt_eq]
        congr 2
        rw [blt_d]
        rw [Bool.eq_iff_iff]
        simp
    · cases h
      simp only [den, vbin]
      have : Sy.s (self := syCR n start tab) = fun _ => sA start := rfl
      rw [this, hc]
      try rfl
    · rename_i k j l q
      cases hq : (keq k .u8 && keq l .u8 && Nat.beq j 40 && Nat.beq q 61) with
      | false => rw [hq] at h; cases h
      | true =>
        rw [hq] at h
        cases h
        simp only [Bool.and_eq_true, keq_iff, beq_d, decide_eq_true_iff] at hq
        obtain ⟨⟨⟨rfl, rfl⟩, rfl⟩, rfl⟩ := hq
        simp only [den, hi, i40, vbin, keqR, cond_true]
        congr 2
        rw [Bool.eq_false_iff, ne_eq, ieq_iff]
        simp only [Int.ofNat_eq_natCast]
        omega
  · rw [hE] at h
    unfold soCR at h
    split at h <;> first | (cases h; done) | skip
    all_goals rename_i ho hal
    all_goals (try (cases ho; done))
    cases ho
    cases hal
    rename_i l j
    cases hq : (keq k .i64 && (keq l .u8 && Nat.beq j 0 || keq l .i16 && Nat.beq j 1)) with
    | false => rw [hq] at h; cases h
    | true =>
      rw [hq] at h
      cases h
      simp only [Bool.and_eq_true, Bool.or_eq_true, keq_iff, beq_d, decide_eq_true_iff] at hq
      obtain ⟨rfl, ⟨rfl, rfl⟩ | ⟨rfl, rfl⟩⟩ := hq
      · refine ⟨.u8, n, rfl, ?_⟩
        have := f.n0
        have := f.n1
        rw [wrap_fit (by omega) (by omega)]; rfl
      · refine ⟨.i16, start, ?_, ?_⟩
        · simp only [den, hi, ij 1 (by omega) (by omega)]; congr 1; omega
        · rw [wrap_fit (by omega) (by omega)]
          simp only [den, hi, ij 1 (by omega) (by omega)]; congr 1; omega
  · rw [hE] at h
    unfold soCR at h
    split at h <;> first | (cases h; done) | skip
    all_goals rename_i ho hal
    all_goals (try (cases ho; done))
    cases hal
    rename_i j
    cases hq : Nat.beq q 0 with
    | false => rw [hq] at h; cases h
    | true =>
      rw [hq] at h
      cases h
      rw [beq_d, decide_eq_true_iff] at hq
      subst hq
      refine ⟨sA start, rfl, c, by rw [hc]; rfl, ?_⟩
      simp only [den, hi, i40]
      rfl
end
end VM
end Go.Proofs.YtehbfpcfbpbllaaGreatDoor
