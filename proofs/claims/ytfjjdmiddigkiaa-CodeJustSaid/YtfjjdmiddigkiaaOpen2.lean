/- A byte slice opened, its length below its capacity. No program in sight. -/
import Derived.Test.YtfjjdmiddigkiaaOpen
import Derived.ProofKit
namespace Go.Proofs.Ytfjjdmiddigkiaa
open Go.ChangeShapes Go.WideShapes Go.ChangeAt Go.RowKit
section
variable {H : Type} {enc : TypeId × Value → H} {P : Program} {w : World} {base : Nat} {spare : Nat → Bool} {held : Bool} {r : Reach} {b0 : Nat} {t e : TypeId} {v : Value} {d : DataW H} {p : List MemPlace}

theorem open_bytesc_at (ht : P.underlying t = some (.slice e)) (he : P.underlying e = some (.int .u8)) (hc : P.cellsOf e = 1) (hval : Value.okWide P w r b0 t v) (h : DataW.Trod enc P w base spare held t v d p) :
    ∃ A c ns, v = .slice A ns.length c ∧ At1 vByte w A ns ∧ ns.length ≤ c := by
  obtain ⟨A, c, ns, rfl, h1⟩ := open_bytes_at ht he hc hval h
  refine ⟨A, c, ns, rfl, h1, ?_⟩
  obtain ⟨fuel, hf⟩ := h
  rcases open_ints ht he hc hf with ⟨hcs, _⟩ | ⟨x, l, c', zs, hcs, _, hl, _⟩
  · simp [Value.cells] at hcs
    simp [hcs]
  · simp [Value.cells] at hcs
    omega
end
end Go.Proofs.Ytfjjdmiddigkiaa
