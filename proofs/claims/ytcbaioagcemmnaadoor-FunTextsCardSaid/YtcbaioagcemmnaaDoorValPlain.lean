/- 64 bits, and what an operator makes of two numbers: plain laws, no program in sight. -/
import Derived.RowKit
import Derived.IntWalk
namespace Go.Proofs.YtcbaioagcemmnaaDoor
open Go.RowKit

def InR (z : Int) : Prop := -9223372036854775808 ≤ z ∧ z ≤ 9223372036854775807
instance (z : Int) : Decidable (InR z) := by unfold InR; infer_instance
theorem wrap_in {z : Int} (h : InR z) : wrap64 z = z := IntWalk.wrap64_in z h
theorem wrap_rng (z : Int) : InR (wrap64 z) := by unfold wrap64 InR; omega
theorem wrap_out {z : Int} (h : ¬ InR z) : wrap64 z ≠ z := by have := wrap_rng z; intro e; rw [e] at this; exact h this
theorem inR_wf {z : Int} : (Lit.int .i64 z).wf = true ↔ InR z := by
  simp [Lit.wf, IntKind.min, IntKind.max, IntKind.signed, IntKind.bits, InR]

theorem bool_iff {a b : Bool} {p : Prop} [Decidable p] (h : (a = b) ↔ p) : (a == b) = decide p := by
  by_cases hp : p
  · rw [decide_eq_true hp, h.2 hp]; simp
  · rw [decide_eq_false hp]
    have : a ≠ b := fun e => hp (h.1 e)
    simpa using this
theorem dec_iff {p q r : Prop} [Decidable p] [Decidable q] [Decidable r] (h : (p ↔ q) ↔ r) : (decide p == decide q) = decide r := bool_iff (by rw [← h, decide_eq_decide])

/-- a sum goes into 64 bits -/
theorem sum_ok {x y : Int} (hx : InR x) (hy : InR y) : (decide (x < wrap64 (x + y)) == decide (0 < y)) = decide (InR (x + y)) := by
  refine dec_iff ?_
  unfold InR wrap64 at *
  omega
theorem sum_ok' {x y : Int} (hx : InR x) (hy : InR y) : (decide (x ≤ wrap64 (x + y)) == decide (0 ≤ y)) = decide (InR (x + y)) := by
  refine dec_iff ?_
  unfold InR wrap64 at *
  omega
theorem dif_ok {x y : Int} (hx : InR x) (hy : InR y) : (decide (wrap64 (x - y) < x) == decide (0 < y)) = decide (InR (x - y)) := by
  refine dec_iff ?_
  unfold InR wrap64 at *
  omega
theorem dif_ok' {x y : Int} (hx : InR x) (hy : InR y) : (decide (wrap64 (x - y) ≤ x) == decide (0 ≤ y)) = decide (InR (x - y)) := by
  refine dec_iff ?_
  unfold InR wrap64 at *
  omega

theorem wrap_mul (z : Int) : ∃ m : Int, wrap64 z = z + m * 18446744073709551616 := by
  refine ⟨-((z + 9223372036854775808) / 18446744073709551616), ?_⟩
  unfold wrap64
  omega
/-- a product goes into 64 bits if the quotient leads back -/
theorem prod_back {x y : Int} (hy : y ≠ 0) (hyr : InR y) (h : (wrap64 (x * y)).tdiv y = x) : InR (x * y) := by
  by_cases hr : InR (x * y)
  · exact hr
  · exfalso
    obtain ⟨m, hm⟩ := wrap_mul (x * y)
    have hne := wrap_out hr
    have h1 := Int.mul_tdiv_add_tmod (wrap64 (x * y)) y
    rw [h] at h1
    have h2 := Int.natAbs_tmod (wrap64 (x * y)) y
    have h3 : ((wrap64 (x * y)).tmod y).natAbs < y.natAbs := by rw [h2]; exact Nat.mod_lt _ (by omega)
    have h4 : (wrap64 (x * y)).tmod y = m * 18446744073709551616 := by
      rw [Int.mul_comm y x] at h1
      omega
    have h5 : m ≠ 0 := by rintro rfl; apply hne; rw [hm]; omega
    unfold InR at hyr
    rw [h4] at h3
    omega
theorem prod_there {x y : Int} (hy : y ≠ 0) (h : InR (x * y)) : (wrap64 (x * y)).tdiv y = x := by
  rw [wrap_in h]
  exact Int.mul_tdiv_cancel _ hy
/-- what the machine's quotient is -/
theorem prod_ok {x y : Int} (hx0 : x ≠ 0) (hy0 : y ≠ 0) (hx : InR x) (hy : InR y) : (wrap64 ((wrap64 (x * y)).tdiv y) = x ∧ ¬ (y = -1 ∧ x = -9223372036854775808)) ↔ InR (x * y) := by
  have hrq := wrap_rng (x * y)
  by_cases hq : InR ((wrap64 (x * y)).tdiv y)
  · rw [wrap_in hq]
    constructor
    · exact fun h => prod_back hy0 hy h.1
    · intro h
      refine ⟨prod_there hy0 h, ?_⟩
      rintro ⟨rfl, rfl⟩
      exact absurd h (by decide)
  · -- only the least number by -1
    have hy1 : y = -1 := by
      by_cases h1 : y = -1
      · exact h1
      exfalso
      apply hq
      have ha : ((wrap64 (x * y)).tdiv y).natAbs = (wrap64 (x * y)).natAbs / y.natAbs := Int.natAbs_tdiv _ _
      by_cases h2 : y = 1
      · rw [h2, Int.tdiv_one]; rw [h2] at hrq; exact hrq
      have h3 : (wrap64 (x * y)).natAbs / y.natAbs ≤ (wrap64 (x * y)).natAbs / 2 := Nat.div_le_div_left (by omega) (by omega)
      unfold InR at hrq ⊢
      omega
    subst hy1
    rw [Int.tdiv_neg, Int.tdiv_one] at hq ⊢
    have hw : wrap64 (x * -1) = -9223372036854775808 := by unfold InR at hq hrq; omega
    have hx1 : x = -9223372036854775808 := by unfold wrap64 at hw; unfold InR at hx; omega
    subst hx1
    exact ⟨fun h => absurd ⟨rfl, rfl⟩ h.2, fun h => absurd h (by decide)⟩
theorem quo_rng {x y : Int} (hx : InR x) (hy0 : y ≠ 0) (h : ¬ (x = -9223372036854775808 ∧ y = -1)) : InR (x.tdiv y) := by
  by_cases h1 : y = -1
  · subst h1
    rw [Int.tdiv_neg, Int.tdiv_one]
    unfold InR at *
    omega
  · by_cases h2 : y = 1
    · rw [h2, Int.tdiv_one]; exact hx
    have ha : (x.tdiv y).natAbs = x.natAbs / y.natAbs := Int.natAbs_tdiv _ _
    have h3 : x.natAbs / y.natAbs ≤ x.natAbs / 2 := Nat.div_le_div_left (by omega) (by omega)
    unfold InR at *
    omega
theorem quo_out : ¬ InR ((-9223372036854775808 : Int).tdiv (-1)) := by decide
end Go.Proofs.YtcbaioagcemmnaaDoor
