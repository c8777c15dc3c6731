/- A law's arguments opened: what came in reads as lists. No program in sight. -/
import Derived.Test.YtfhgnolfhiffbaaMem
import Derived.ProofKit
namespace Go.Proofs.Ytfhgnolfhiffbaa
open Go.ChangeShapes Go.WideShapes Go.ChangeAt Go.RowKit
section
variable {H : Type} {enc : TypeId × Value → H} {P : Program} {w : World} {base : Nat} {spare : Nat → Bool} {held : Bool} {r : Reach} {b0 : Nat} {t e : TypeId} {v : Value} {d : DataW H} {p : List MemPlace}

theorem getElem?_take_getD {α : Type} {l : List α} {n i : Nat} {x y : α} (h : (l.take n)[i]? = some x) : i < l.length ∧ l.getD i y = x := by
  rw [List.getElem?_take] at h
  split at h
  · obtain ⟨h1, h2⟩ := List.getElem?_eq_some_iff.1 h
    exact ⟨h1, by simp [List.getD, h]⟩
  · cases h

theorem open_ints_at {k : IntKind} (ht : P.underlying t = some (.slice e)) (he : P.underlying e = some (.int k)) (hc : P.cellsOf e = 1) (hval : Value.okWide P w r b0 t v) (h : DataW.Trod enc P w base spare held t v d p) :
    ∃ A c zs, v = .slice A zs.length c ∧ At1 (Value.int k) w A zs ∧ (∀ n ∈ zs, (Lit.int k n).wf = true) := by
  obtain ⟨a, len, cap, rfl⟩ := okWide_slice ht hval
  obtain ⟨fuel, hf⟩ := h
  rcases open_ints ht he hc hf with ⟨hcs, _⟩ | ⟨x, l, c, zs, hcs, _, hl, hm, hz, _, hcell, hwz⟩
  · simp [Value.cells] at hcs
    obtain ⟨rfl, rfl, rfl⟩ := hcs
    exact ⟨none, 0, [], rfl, At1.nil _ _ _, by simp⟩
  · simp [Value.cells] at hcs
    obtain ⟨rfl, rfl, rfl⟩ := hcs
    have hz' : len ≤ zs.length := by rw [hz]; split <;> omega
    refine ⟨some x, cap, zs.take len, by rw [List.length_take, Nat.min_eq_left hz'], ⟨?_, fun _ => ⟨x, rfl, fun i y hy => ?_⟩⟩, fun n hn => hwz n (List.mem_of_mem_take hn)⟩
    · rw [List.length_take]; unfold maxLen at hm; omega
    · obtain ⟨h1, h2⟩ := getElem?_take_getD (y := 0) hy
      rw [hcell i h1, h2]

theorem open_bytes_at (ht : P.underlying t = some (.slice e)) (he : P.underlying e = some (.int .u8)) (hc : P.cellsOf e = 1) (hval : Value.okWide P w r b0 t v) (h : DataW.Trod enc P w base spare held t v d p) :
    ∃ A c ns, v = .slice A ns.length c ∧ At1 vByte w A ns := by
  obtain ⟨A, c, zs, rfl, h1, h2⟩ := open_ints_at ht he hc hval h
  refine ⟨A, c, zs.map fun n => UInt8.ofNat n.toNat, by simp, by simpa using h1.1, fun hn => ?_⟩
  obtain ⟨ad, rfl, hcell⟩ := h1.2 (by simpa using hn)
  refine ⟨ad, rfl, fun i x hx => ?_⟩
  rw [List.getElem?_map] at hx
  cases hz : zs[i]? with
  | none => rw [hz] at hx; cases hx
  | some z =>
    rw [hz] at hx
    injection hx with hx
    subst hx
    have hw := h2 z (List.mem_of_getElem? hz)
    simp [Lit.wf, IntKind.min, IntKind.max, IntKind.signed, IntKind.bits] at hw
    rw [hcell i z hz]
    have hlt : z.toNat < 256 := by omega
    show some (Value.int .u8 z) = some (Value.int .u8 ((UInt8.ofNat z.toNat).toNat : Int))
    rw [UInt8.toNat_ofNat_of_lt' hlt]
    congr 2
    omega

theorem open_strs_at (ht : P.underlying t = some (.slice e)) (he : P.underlying e = some .string) (hc : P.cellsOf e = 1) (hval : Value.okWide P w r b0 t v) (h : DataW.Trod enc P w base spare held t v d p) :
    ∃ A c ss, v = .slice A ss.length c ∧ At1 vStr w A ss ∧ (∀ s ∈ ss, s.size ≤ 9223372036854775807) := by
  obtain ⟨a, len, cap, rfl⟩ := okWide_slice ht hval
  obtain ⟨fuel, hf⟩ := h
  rcases open_strings ht he hc hf with ⟨hcs, _⟩ | ⟨x, l, c, zs, hcs, _, hl, hm, hz, _, hcell, hwz⟩
  · simp [Value.cells] at hcs
    obtain ⟨rfl, rfl, rfl⟩ := hcs
    exact ⟨none, 0, [], rfl, At1.nil _ _ _, by simp⟩
  · simp [Value.cells] at hcs
    obtain ⟨rfl, rfl, rfl⟩ := hcs
    have hz' : len ≤ zs.length := by rw [hz]; split <;> omega
    refine ⟨some x, cap, zs.take len, by rw [List.length_take, Nat.min_eq_left hz'], ⟨?_, fun _ => ⟨x, rfl, fun i y hy => ?_⟩⟩, fun n hn => hwz n (List.mem_of_mem_take hn)⟩
    · rw [List.length_take]; unfold maxLen at hm; omega
    · obtain ⟨h1, h2⟩ := getElem?_take_getD (y := ByteArray.empty) hy
      rw [hcell i h1, h2]
end
end Go.Proofs.Ytfhgnolfhiffbaa
