/- A slice of truths as an argument. No program in sight. -/
import Derived.Test.YtcbaioagcemmnaaDoorOpen
import Derived.Deep.Grids
namespace Go.Proofs.YtcbaioagcemmnaaDoor
open Go.ChangeShapes Go.WideShapes Go.ChangeAt Go.RowKit
theorem open_bools_at {H : Type} {enc : TypeId × Value → H} {P : Program} {w : World} {base : Nat} {held : Bool} {r : Reach} {b0 : Nat} {t e : TypeId} {v : Value} {d : DataW H} {p : List MemPlace}
    (ht : P.underlying t = some (.slice e)) (he : P.underlying e = some .bool) (hc : P.cellsOf e = 1) (hval : Value.okWide P w r b0 t v) (h : DataW.Trod enc P w base (fun _ => true) held t v d p) :
    ∃ A c zs, v = .slice A zs.length c ∧ At1 Value.bool w A zs := by
  obtain ⟨a, len, cap, rfl⟩ := okWide_slice ht hval
  obtain ⟨fuel, hf⟩ := h
  rcases Go.Deep.open_bools ht he hc hf with ⟨hcs, _⟩ | ⟨x, l, c, B, hcs, _, hl, hm, _, hcell⟩
  · simp [Value.cells] at hcs
    obtain ⟨rfl, rfl, rfl⟩ := hcs
    exact ⟨none, 0, [], rfl, At1.nil _ _ _⟩
  · simp [Value.cells] at hcs
    obtain ⟨rfl, rfl, rfl⟩ := hcs
    refine ⟨some x, cap, (List.range len).map B, by simp, ⟨by simp; unfold maxLen at hm; omega, fun _ => ⟨x, rfl, fun i y hy => ?_⟩⟩⟩
    rw [List.getElem?_map] at hy
    have hi : i < len := by
      rcases Nat.lt_or_ge i len with h | h
      · exact h
      · rw [List.getElem?_eq_none (by simpa using h)] at hy; cases hy
    rw [List.getElem?_range hi] at hy
    injection hy with hy
    rw [hcell i (by omega), hy]
end Go.Proofs.YtcbaioagcemmnaaDoor
