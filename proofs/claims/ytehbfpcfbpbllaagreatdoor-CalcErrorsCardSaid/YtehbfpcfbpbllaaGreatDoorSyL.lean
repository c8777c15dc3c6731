/- What stands for numbers: linear sums of a few unknown numbers with bounds; texts of such bytes. No program in sight. -/
import Derived.Test.YtehbfpcfbpbllaaGreatDoorVmI
namespace Go.Proofs.YtehbfpcfbpbllaaGreatDoor.VM
open Go Go.RowKit
set_option linter.unusedVariables false
set_option linter.unusedSectionVars false
set_option linter.unusedSimpArgs false
section
@[reducible] def syNo : Sy := ⟨fun _ => 0, fun _ => [], []⟩
attribute [local instance] syNo
def decL : Nat → Nat → List Int
  | 0, _ => []
  | f + 1, j => bif Nat.beq j 0 then [] else (Int.ofNat (j % 1099511627776) - 549755813888) :: decL f (j / 1099511627776)
def encL : List Int → Nat
  | [] => 0
  | c :: l => encL l * 1099511627776 + (c + 549755813888).toNat
def okL : List Int → Bool
  | [] => true
  | c :: l => ilt (-549755813888) c && ilt c 549755813888 && okL l
theorem dec_enc : ∀ (l : List Int) (f : Nat), l.length ≤ f → okL l = true → decL f (encL l) = l
  | [], f, _, _ => by cases f <;> rfl
  | c :: l, 0, h, _ => by simp at h
  | c :: l, f + 1, h, ho => by
    simp only [okL, Bool.and_eq_true, ilt_eq, decide_eq_true_iff] at ho
    obtain ⟨⟨h1, h2⟩, h3⟩ := ho
    simp only [List.length_cons] at h
    have ih := dec_enc l f (by omega) h3
    rw [decL, encL]
    generalize hd : (c + 549755813888).toNat = d
    have hd1 : 0 < d := by omega
    have hd2 : d < 1099511627776 := by omega
    have e0 : Nat.beq (encL l * 1099511627776 + d) 0 = false := by
      rw [beq_d]; simp; omega
    have e1 : (encL l * 1099511627776 + d) % 1099511627776 = d := by omega
    have e2 : (encL l * 1099511627776 + d) / 1099511627776 = encL l := by omega
    rw [e0, e1, e2, ih]
    simp only [cond_false]
    congr 1
    simp only [Int.ofNat_eq_natCast]
    omega
def lval : List Int → List Int → Int
  | c :: l, x :: xs => c * x + lval l xs
  | _, _ => 0
def ladd : List Int → List Int → List Int
  | [], b => b
  | a, [] => a
  | x :: a, y :: b => (x + y) :: ladd a b
def lscale (c : Int) : List Int → List Int
  | [] => []
  | x :: l => (c * x) :: lscale c l
theorem lval_nil (xs : List Int) : lval [] xs = 0 := by cases xs <;> rfl
theorem lval_add : ∀ (a b xs : List Int), lval (ladd a b) xs = lval a xs + lval b xs
  | [], b, xs => by rw [ladd, lval_nil]; omega
  | x :: a, [], xs => by rw [ladd, lval_nil]; omega; simp
  | x :: a, y :: b, [] => by simp [ladd, lval]
  | x :: a, y :: b, z :: xs => by
    simp only [ladd, lval, lval_add a b xs, Int.add_mul]
    omega
theorem lval_scale (c : Int) : ∀ (a xs : List Int), lval (lscale c a) xs = c * lval a xs
  | [], xs => by rw [lscale, lval_nil]; simp
  | x :: a, [] => by simp [lscale, lval]
  | x :: a, z :: xs => by
    simp only [lscale, lval, lval_scale c a xs, Int.mul_add, Int.mul_assoc]
def lstrip : List Int → List Int
  | [] => []
  | x :: l => match lstrip l with
    | [] => bif ieq x 0 then [] else [x]
    | y :: r => x :: y :: r
theorem lval_strip : ∀ (a xs : List Int), lval (lstrip a) xs = lval a xs
  | [], _ => rfl
  | x :: a, [] => by
    have h : ∀ l, lval l [] = 0 := fun l => by cases l <;> rfl
    rw [h, h]
  | x :: a, z :: xs => by
    have ih := lval_strip a xs
    rw [lstrip]
    cases h : lstrip a with
    | nil =>
      rw [h, lval_nil] at ih
      simp only
      cases hx : ieq x 0 with
      | true =>
        rw [ieq_iff] at hx
        subst hx
        simp only [cond_true, lval_nil, lval, ← ih]
        omega
      | false =>
        simp only [cond_false, lval, lval_nil, ← ih]
    | cons y r =>
      rw [h] at ih
      simp only [lval] at ih ⊢
      rw [ih]
/-- bounds -/
def inB : List (Int × Int) → List Int → Prop
  | [], [] => True
  | b :: bs, x :: xs => b.1 ≤ x ∧ x ≤ b.2 ∧ inB bs xs
  | _, _ => False
def llo : List Int → List (Int × Int) → Int
  | c :: l, b :: bs => (bif ilt c 0 then c * b.2 else c * b.1) + llo l bs
  | _, _ => 0
def lhi : List Int → List (Int × Int) → Int
  | c :: l, b :: bs => (bif ilt c 0 then c * b.1 else c * b.2) + lhi l bs
  | _, _ => 0
theorem l_in : ∀ (l : List Int) (bs : List (Int × Int)) (xs : List Int), inB bs xs → llo l bs ≤ lval l xs ∧ lval l xs ≤ lhi l bs
  | [], _, _, _ => by simp [llo, lhi, lval_nil]
  | c :: l, [], [], _ => by simp [llo, lhi, lval]
  | c :: l, b :: bs, [], h => h.elim
  | c :: l, [], x :: xs, h => h.elim
  | c :: l, b :: bs, x :: xs, ⟨h1, h2, h3⟩ => by
    have ih := l_in l bs xs h3
    simp only [llo, lhi, lval]
    cases hc : ilt c 0 with
    | true =>
      rw [ilt_eq, decide_eq_true_iff] at hc
      have e1 := Int.mul_le_mul_of_nonpos_left (Int.le_of_lt hc) h2
      have e2 := Int.mul_le_mul_of_nonpos_left (Int.le_of_lt hc) h1
      simp only [cond_true]
      omega
    | false =>
      rw [ilt_eq, decide_eq_false_iff_not, Int.not_lt] at hc
      have e1 := Int.mul_le_mul_of_nonneg_left h2 hc
      have e2 := Int.mul_le_mul_of_nonneg_left h1 hc
      simp only [cond_false]
      omega
/-- by a divisor -/
def lsplit (m : Int) : List Int → List Int × List Int
  | [] => ([], [])
  | c :: l => match lsplit m l with
    | (q, r) => bif ieq (c.emod m) 0 then (c.ediv m :: q, 0 :: r) else (0 :: q, c :: r)
def lsplit0 (m : Int) : List Int → List Int × List Int
  | [] => ([], [])
  | c :: l => match lsplit m l with
    | (q, r) => (c.ediv m :: q, c.emod m :: r)
theorem lsplit_val (m : Int) : ∀ (l xs : List Int), m * lval (lsplit m l).1 xs + lval (lsplit m l).2 xs = lval l xs
  | [], xs => by simp [lsplit, lval_nil]
  | c :: l, [] => by
    have h : ∀ l, lval l [] = 0 := fun l => by cases l <;> rfl
    rw [h, h, h]; simp
  | c :: l, x :: xs => by
    have ih := lsplit_val m l xs
    rw [lsplit]
    generalize lsplit m l = p at ih ⊢
    obtain ⟨q, r⟩ := p
    simp only at ih ⊢
    cases hc : ieq (c.emod m) 0 with
    | true =>
      rw [ieq_iff] at hc
      have e : m * c.ediv m = c := Int.mul_ediv_cancel_of_emod_eq_zero hc
      simp only [cond_true, lval, Int.mul_add, ← Int.mul_assoc, e]
      omega
    | false =>
      simp only [cond_false, lval, Int.mul_add]
      simp only [Int.zero_mul, Int.mul_zero]
      omega
theorem lsplit0_val (m : Int) : ∀ (l xs : List Int), m * lval (lsplit0 m l).1 xs + lval (lsplit0 m l).2 xs = lval l xs
  | [], xs => by simp [lsplit0, lval_nil]
  | c :: l, [] => by
    have h : ∀ l, lval l [] = 0 := fun l => by cases l <;> rfl
    rw [h, h, h]; simp
  | c :: l, x :: xs => by
    have ih := lsplit_val m l xs
    rw [lsplit0]
    generalize lsplit m l = p at ih ⊢
    obtain ⟨q, r⟩ := p
    simp only at ih ⊢
    have e : m * c.ediv m + c.emod m = c := Int.mul_ediv_add_emod c m
    simp only [lval, Int.mul_add, ← Int.mul_assoc]
    have e2 : m * c.ediv m * x + c.emod m * x = c * x := by rw [← Int.add_mul, e]
    omega
end
end Go.Proofs.YtehbfpcfbpbllaaGreatDoor.VM
