/- What is left of a division, with the divisor's sign: plain law. -/
import Derived.Test.YtcbaioagcemmnaaDoorFunMod
namespace Go.Proofs.YtcbaioagcemmnaaDoor
open Go.RowKit Go.Maps
theorem tmod_small (a : Int) {b : Int} (hb : b ≠ 0) : (a.tmod b).natAbs < b.natAbs := by
  rw [Int.natAbs_tmod]
  exact Nat.mod_lt _ (by omega)
theorem fmod_laws (a b : Int) (hb : b ≠ 0) : (a - fmodR a b).tmod b = 0 ∧ (fmodR a b = 0 ∨ (fmodR a b < 0 ∧ b < 0) ∨ (0 < fmodR a b ∧ 0 < b)) ∧ (fmodR a b).natAbs < b.natAbs := by
  have h1 := tmod_small a hb
  have h2 := Int.mul_tdiv_add_tmod a b
  unfold fmodR
  split
  · rename_i h
    obtain ⟨hr, hs⟩ := h
    refine ⟨?_, ?_, ?_⟩
    · rw [show a - (a.tmod b + b) = b * (a.tdiv b - 1) by rw [Int.mul_sub]; omega]
      exact Int.mul_tmod_right _ _
    · right
      by_cases hb0 : b < 0
      · left; have : ¬ a.tmod b < 0 := fun h => (hs.1 h) hb0; omega
      · right; have : a.tmod b < 0 := hs.2 hb0; omega
    · by_cases hb0 : b < 0
      · have : ¬ a.tmod b < 0 := fun h => (hs.1 h) hb0; omega
      · have : a.tmod b < 0 := hs.2 hb0; omega
  · rename_i h
    refine ⟨?_, ?_, h1⟩
    · rw [show a - a.tmod b = b * a.tdiv b by omega]
      exact Int.mul_tmod_right _ _
    · by_cases hr : a.tmod b = 0
      · exact .inl hr
      · right
        by_cases hb0 : b < 0
        · left
          refine ⟨?_, hb0⟩
          by_cases hx : a.tmod b < 0
          · exact hx
          · exact absurd ⟨hr, ⟨fun h => absurd h hx, fun h => absurd hb0 h⟩⟩ h
        · right
          by_cases hx : a.tmod b < 0
          · exact absurd ⟨hr, ⟨fun _ => hb0, fun _ => hx⟩⟩ h
          · omega
end Go.Proofs.YtcbaioagcemmnaaDoor
