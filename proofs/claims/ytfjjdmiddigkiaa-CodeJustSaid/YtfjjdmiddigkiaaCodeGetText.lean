/- The walks of GetText, GetList of package code and of the document. -/
import Derived.Test.YtfjjdmiddigkiaaCodeText
namespace Go.Proofs.Ytfjjdmiddigkiaa
open Go.RowKit

theorem eStr : EInfo Try.prog 22 9 (.string ByteArray.empty) 1 16 := ⟨Try.underlying22, by kernel_rfl, rfl, by decide, by decide⟩
def optText (o : Option (List UInt8 × Nat)) : Value := match o with
  | some (s, m) => .tuple #[.string ⟨s.toArray⟩, .int .i64 m, .bool true]
  | none => .tuple #[.string ⟨#[]⟩, .int .i64 0, .bool false]
def textAt (b : List UInt8) (k : Int) : Option (List UInt8 × Nat) := if k < 0 then none else (Code.getText (b.drop k.toNat)).map fun p => (p.1, k.toNat + p.2)
theorem textAt_neg {b : List UInt8} {k : Int} (h : k < 0) : textAt b k = none := if_pos h
theorem textAt_none {b : List UInt8} {k : Nat} (h : Code.getL (b.drop k) = none) : textAt b k = none := by
  rw [textAt, if_neg (by omega), Int.toNat_natCast, Code.getText, h]; rfl
theorem textAt_long {b : List UInt8} {k n m : Nat} (h : Code.getL (b.drop k) = some (n, m)) (hl : b.length - (k + m) < n) : textAt b k = none := by
  rw [textAt, if_neg (by omega), Int.toNat_natCast, Code.getText, h]
  simp only
  rw [if_pos (by simp; omega)]; rfl
theorem textAt_some {b : List UInt8} {k n m : Nat} (h : Code.getL (b.drop k) = some (n, m)) (hl : ¬ b.length - (k + m) < n) : textAt b k = some ((b.drop (k + m)).take n, k + m + n) := by
  rw [textAt, if_neg (by omega), Int.toNat_natCast, Code.getText, h]
  simp only
  rw [if_neg (by simp; omega), List.drop_drop]
  simp [Nat.add_assoc]
theorem getAt_neg {b : List UInt8} {k : Int} (h : k < 0) : Code.getAt b k = none := if_pos h

theorem get_no {w : World} {A : Option Addr} {b : List UInt8} {c : Nat} {k : Int} (hA : At1 vByte w A b) (h : Code.getAt b k = none) :
    Calls Try.prog 8 #[.slice A b.length c, .int .i64 k] w fun e w' => e = .returned (.tuple #[.int .i64 0, .int .i64 0, .bool false]) ∧ w = w' := by
  have := get_any w A b c k hA
  rwa [h] at this
theorem get_yes {w : World} {A : Option Addr} {b : List UInt8} {c : Nat} {k : Int} {n m : Nat} (hA : At1 vByte w A b) (h : Code.getAt b k = some (n, m)) :
    Calls Try.prog 8 #[.slice A b.length c, .int .i64 k] w fun e w' => e = .returned (.tuple #[.int .i64 n, .int .i64 m, .bool true]) ∧ w = w' := by
  have := get_any w A b c k hA
  rwa [h] at this
theorem rget_no {w : World} {A : Option Addr} {b : List UInt8} {c : Nat} {k : Int} (hA : At1 vByte w A b) (h : Code.getAt b k = none) :
    Calls Try.prog 9 #[.slice A b.length c, .int .i64 k] w fun e w' => e = .returned (.tuple #[.int .i64 0, .int .i64 0, .bool false]) ∧ w = w' := by
  have := rget_any w A b c k hA
  rwa [h] at this
theorem rget_yes {w : World} {A : Option Addr} {b : List UInt8} {c : Nat} {k : Int} {n m : Nat} (hA : At1 vByte w A b) (h : Code.getAt b k = some (n, m)) :
    Calls Try.prog 9 #[.slice A b.length c, .int .i64 k] w fun e w' => e = .returned (.tuple #[.int .i64 n, .int .i64 m, .bool true]) ∧ w = w' := by
  have := rget_any w A b c k hA
  rwa [h] at this

set_option maxRecDepth 100000 in
set_option maxHeartbeats 400000 in
theorem getText_any (w : World) (A : Option Addr) (b : List UInt8) (c : Nat) (k : Int) (hA : At1 vByte w A b) (hc : b.length ≤ c) :
    Calls Try.prog 10 #[.slice A b.length c, .int .i64 k] w fun e w' => e = .returned (optText (textAt b k)) ∧ w = w' := by
  by_cases hk : k < 0
  · rw [textAt_neg hk]
    go_enter Try.func10, Try.ntmps10
    go_wp2_with fail
    refine (get_no hA (getAt_neg hk)).mono ?_
    rintro e w1 ⟨rfl, rfl⟩
    go_wp2
    go_ret3
    exact ⟨rfl, rfl⟩
  · obtain ⟨k, rfl⟩ := Int.eq_ofNat_of_zero_le (show 0 ≤ k by omega)
    cases hg : Code.getL (b.drop k) with
    | none =>
      rw [textAt_none hg]
      go_enter Try.func10, Try.ntmps10
      go_wp2_with fail
      refine (get_no hA (getAt_none hg)).mono ?_
      rintro e w1 ⟨rfl, rfl⟩
      go_wp2
      go_ret3
      exact ⟨rfl, rfl⟩
    | some p =>
      obtain ⟨n, m⟩ := p
      obtain ⟨j1, j2, _, j4⟩ := Code.getL_just hg
      simp only [List.length_drop] at j2
      have hA1 := hA.1
      by_cases hl : b.length - (k + m) < n
      · rw [textAt_long hg hl]
        have hgt : (b.length : Int) - ((k + m : Nat) : Int) < (n : Int) := by omega
        have hq : k + m ≤ b.length := by omega
        go_enter Try.func10, Try.ntmps10
        go_wp2_with fail
        refine (get_yes hA (getAt_some hg)).mono ?_
        rintro e w1 ⟨rfl, rfl⟩
        generalize k + m = q at *
        have HG := Lib.hid hg
        clear hg
        go_wp2
        go_ret3
        exact ⟨rfl, rfl⟩
      · have ht := textAt_some hg hl
        have hy := getAt_some hg
        have hq : k + m ≤ b.length := by omega
        have hqn : k + m + n ≤ b.length := by omega
        generalize k + m = q at *
        rw [ht]
        have HG := Lib.hid hg
        have HY := Lib.hid hy
        clear hg j2 ht hy
        go_enter Try.func10, Try.ntmps10
        go_wp2_with fail
        refine (get_yes hA HY.out).mono ?_
        rintro e w1 ⟨rfl, rfl⟩
        by_cases hcq : c = q
        · have he : (b.drop q).take n = [] := by rw [List.drop_eq_nil_of_le (by omega)]; simp
          have hn0 : n = ((b.drop q).take n).length := by simp; omega
          have hcv := run_str_of (P := Try.prog) (c := 0) Try.underlying23 Try.underlying5 Try.underlying9 hn0 (by rw [he]; exact At1.nil vByte w A)
          clear he hn0
          go_wp2
          go_ret3
          exact ⟨by simp [optText], rfl⟩
        · have hn0 : n = ((b.drop q).take n).length := by simp; omega
          have hat := (At1.cut (cap := c) hA hq hc).take n
          rw [if_neg hcq] at hat
          have hcv := run_str_of (P := Try.prog) (c := c - q) Try.underlying23 Try.underlying5 Try.underlying9 hn0 hat
          clear hat hn0
          go_wp2
          go_ret3
          exact ⟨by simp [optText], rfl⟩
set_option maxRecDepth 100000 in
set_option maxHeartbeats 400000 in
theorem rgetText_any (w : World) (A : Option Addr) (b : List UInt8) (c : Nat) (k : Int) (hA : At1 vByte w A b) (hc : b.length ≤ c) :
    Calls Try.prog 11 #[.slice A b.length c, .int .i64 k] w fun e w' => e = .returned (optText (textAt b k)) ∧ w = w' := by
  by_cases hk : k < 0
  · rw [textAt_neg hk]
    go_enter Try.func11, Try.ntmps11
    go_wp2_with fail
    refine (rget_no hA (getAt_neg hk)).mono ?_
    rintro e w1 ⟨rfl, rfl⟩
    go_wp2
    go_ret3
    exact ⟨rfl, rfl⟩
  · obtain ⟨k, rfl⟩ := Int.eq_ofNat_of_zero_le (show 0 ≤ k by omega)
    cases hg : Code.getL (b.drop k) with
    | none =>
      rw [textAt_none hg]
      go_enter Try.func11, Try.ntmps11
      go_wp2_with fail
      refine (rget_no hA (getAt_none hg)).mono ?_
      rintro e w1 ⟨rfl, rfl⟩
      go_wp2
      go_ret3
      exact ⟨rfl, rfl⟩
    | some p =>
      obtain ⟨n, m⟩ := p
      obtain ⟨j1, j2, _, j4⟩ := Code.getL_just hg
      simp only [List.length_drop] at j2
      have hA1 := hA.1
      by_cases hl : b.length - (k + m) < n
      · rw [textAt_long hg hl]
        have hgt : (b.length : Int) - ((k + m : Nat) : Int) < (n : Int) := by omega
        have hq : k + m ≤ b.length := by omega
        go_enter Try.func11, Try.ntmps11
        go_wp2_with fail
        refine (rget_yes hA (getAt_some hg)).mono ?_
        rintro e w1 ⟨rfl, rfl⟩
        generalize k + m = q at *
        have HG := Lib.hid hg
        clear hg
        go_wp2
        go_ret3
        exact ⟨rfl, rfl⟩
      · have ht := textAt_some hg hl
        have hy := getAt_some hg
        have hq : k + m ≤ b.length := by omega
        have hqn : k + m + n ≤ b.length := by omega
        generalize k + m = q at *
        rw [ht]
        have HG := Lib.hid hg
        have HY := Lib.hid hy
        clear hg j2 ht hy
        go_enter Try.func11, Try.ntmps11
        go_wp2_with fail
        refine (rget_yes hA HY.out).mono ?_
        rintro e w1 ⟨rfl, rfl⟩
        by_cases hcq : c = q
        · have he : (b.drop q).take n = [] := by rw [List.drop_eq_nil_of_le (by omega)]; simp
          have hn0 : n = ((b.drop q).take n).length := by simp; omega
          have hcv := run_str_of (P := Try.prog) (c := 0) Try.underlying23 Try.underlying5 Try.underlying9 hn0 (by rw [he]; exact At1.nil vByte w A)
          clear he hn0
          go_wp2
          go_ret3
          exact ⟨by simp [optText], rfl⟩
        · have hn0 : n = ((b.drop q).take n).length := by simp; omega
          have hat := (At1.cut (cap := c) hA hq hc).take n
          rw [if_neg hcq] at hat
          have hcv := run_str_of (P := Try.prog) (c := c - q) Try.underlying23 Try.underlying5 Try.underlying9 hn0 hat
          clear hat hn0
          go_wp2
          go_ret3
          exact ⟨by simp [optText], rfl⟩

end Go.Proofs.Ytfjjdmiddigkiaa
