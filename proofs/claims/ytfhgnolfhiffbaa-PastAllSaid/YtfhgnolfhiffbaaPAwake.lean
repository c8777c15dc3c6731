/- chequerlaw25.awake. -/
import Derived.Test.YtfhgnolfhiffbaaPBase
namespace Go.Proofs.Ytfhgnolfhiffbaa
open Go.RowKit Go.Maps
def tA : ByteArray := ⟨#[97]⟩
def oneA : HC := ⟨tA, none, [], 0, none, 0, 0, ⟨#[]⟩⟩
theorem histA : HistIn [oneA] := by
  have one : ∀ (i : Nat) (c : HC), [oneA][i]? = some c → i = 0 ∧ c = oneA := fun i c h => by
    have h1 := (List.getElem?_eq_some_iff.1 h).1
    simp at h1
    subst h1
    simp at h
    exact ⟨rfl, h.symm⟩
  refine ⟨⟨fun i c h => ?_, fun i c h => ?_⟩, fun y hy => ?_, by simp⟩
  · obtain ⟨rfl, rfl⟩ := one i c h
    simp [posN, idsOf]
  · obtain ⟨rfl, rfl⟩ := one i c h
    intro p hp
    cases hp
  · simp at hy
    subst hy
    exact ⟨by show 1 ≤ maxLen; unfold maxLen; decide, fun p hp => by cases hp⟩
theorem atA (w : World) : AtC (w.alloc (.cells #[.string tA, .slice none 0 0, .slice none 0 0, .string ⟨#[]⟩] 31)) (some ⟨w.heap.size, 0, none⟩) [oneA] := by
  refine ⟨by simp, fun y hy => ?_, fun _ => ⟨w.heap.size, 0, rfl, fun i x hx => ?_⟩⟩
  · simp at hy; subst hy; exact ⟨Nat.zero_le _, fun h => absurd h (Nat.lt_irrefl 0)⟩
  · have hi : i = 0 := by
      have := (List.getElem?_eq_some_iff.1 hx).1
      simp at this; exact this
    subst hi
    simp at hx
    subst hx
    have h9 := heap_alloc_new w (.cells #[.string tA, .slice none 0 0, .slice none 0 0, .string ⟨#[]⟩] 31)
    refine ⟨?_, ?_, ?_, ?_⟩ <;> (unfold World.cell?; rw [h9]; rfl)
theorem firstA {g o : List ByteArray} (hg : GLog [oneA] tA g) (ho : GLog [oneA] tA o) : firstIn g o = (tA, true) := by
  have hm : tA ∈ idsOf [oneA] := by simp [idsOf, oneA]
  have h1 := hg.1 hm
  have h2 := ho.1 hm
  have a1 : tA ∈ g := (h1.reach _).2 .refl
  have a2 : tA ∈ o := (h2.reach _).2 .refl
  cases g with
  | nil => cases a1
  | cons s r =>
    have := h1.ids s (by simp)
    simp [idsOf, oneA] at this
    subst this
    unfold firstIn
    rw [if_pos (hasB_iff.2 a2)]
set_option maxRecDepth 100000 in
set_option maxHeartbeats 1000000 in
theorem awake_any (w : World) :
    Calls Try.prog 9 #[] w fun e w' => e = .returned (.bool true) ∧ Below w.heap.size w w' := by
  have hat := atA w
  have hb : Below w.heap.size w (w.alloc (.cells #[.string tA, .slice none 0 0, .slice none 0 0, .string ⟨#[]⟩] 31)) := (Below.refl _ _).alloc (Nat.le_refl _) _
  go_enter Try.func9, Try.ntmps9
  go_wp2_with fail
  refine (base_any _ _ _ 1 hat histA tA tA).mono ?_
  rintro e w2 ⟨g, o, hg, ho, rfl, hb2⟩
  rw [firstA hg ho]
  have hb3 := hb.trans (hb2.mono hb.size)
  clear hg ho hb hb2 hat
  have hs : (tA.toList == [97]) = true := beq_iff_eq.2 (by kernel_rfl)
  go_wp2
  go_ret
  exact ⟨rfl, hb3⟩
end Go.Proofs.Ytfhgnolfhiffbaa
