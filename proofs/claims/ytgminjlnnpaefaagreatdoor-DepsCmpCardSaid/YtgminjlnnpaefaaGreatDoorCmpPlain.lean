/- Comparisons: plain laws, no program in sight. -/
import Derived.Test.YtgminjlnnpaefaaGreatDoorMem
namespace Go.Proofs.YtgminjlnnpaefaaGreatDoor
open Go.RowKit

theorem bl_total : ∀ x y : List UInt8, Op.bytesLess x y = false → x ≠ y → Op.bytesLess y x = true
  | [], [], _, h => absurd rfl h
  | [], _ :: _, h, _ => by simp [Op.bytesLess] at h
  | _ :: _, [], _, _ => rfl
  | a :: x, b :: y, h, hne => by
    simp only [Op.bytesLess, Bool.or_eq_false_iff, decide_eq_false_iff_not, Bool.and_eq_false_iff, beq_eq_false_iff_ne] at h
    obtain ⟨h1, h2⟩ := h
    simp only [Op.bytesLess, Bool.or_eq_true, decide_eq_true_eq, Bool.and_eq_true, beq_iff_eq]
    have ht : a.toNat < b.toNat ∨ a.toNat = b.toNat ∨ b.toNat < a.toNat := by omega
    rcases ht with h | h | h
    · exact absurd (UInt8.lt_iff_toNat_lt.2 h) h1
    · have e : a = b := UInt8.toNat_inj.1 h
      subst e
      right
      refine ⟨rfl, bl_total x y ?_ fun e => hne (by rw [e])⟩
      rcases h2 with h2 | h2
      · exact absurd rfl h2
      · exact h2
    · exact .inl (UInt8.lt_iff_toNat_lt.2 h)
theorem bl_trans : ∀ x y z : List UInt8, Op.bytesLess x y = true → Op.bytesLess y z = true → Op.bytesLess x z = true
  | _, [], _, h, _ => by simp [Op.bytesLess] at h
  | _, _ :: _, [], _, h => by simp [Op.bytesLess] at h
  | [], _ :: _, _ :: _, _, _ => rfl
  | a :: x, b :: y, c :: z, h1, h2 => by
    simp only [Op.bytesLess, Bool.or_eq_true, decide_eq_true_eq, Bool.and_eq_true, beq_iff_eq] at h1 h2 ⊢
    rcases h1 with h1 | ⟨e1, h1⟩
    · rcases h2 with h2 | ⟨e2, _⟩
      · have q1 := UInt8.lt_iff_toNat_lt.1 h1
        have q2 := UInt8.lt_iff_toNat_lt.1 h2
        exact .inl (UInt8.lt_iff_toNat_lt.2 (by omega))
      · exact .inl (by rw [← e2]; exact h1)
    · rcases h2 with h2 | ⟨e2, h2⟩
      · exact .inl (by rw [e1]; exact h2)
      · exact .inr ⟨e1.trans e2, bl_trans x y z h1 h2⟩
theorem bl_irrefl : ∀ x : List UInt8, Op.bytesLess x x = false
  | [] => rfl
  | a :: x => by
    simp only [Op.bytesLess, Bool.or_eq_false_iff, decide_eq_false_iff_not, Bool.and_eq_false_iff]
    exact ⟨fun h => Nat.lt_irrefl _ (UInt8.lt_iff_toNat_lt.1 h), .inr (bl_irrefl x)⟩
theorem bl_asymm (x y : List UInt8) (h : Op.bytesLess x y = true) : Op.bytesLess y x = false := by
  rw [Bool.eq_false_iff]
  intro h2
  have := bl_trans x y x h h2
  rw [bl_irrefl] at this
  cases this

/-- a three-way comparison -/
structure Cmp3 {α : Type} (f : α → α → Int) : Prop where
  range : ∀ a b, f a b = -1 ∨ f a b = 0 ∨ f a b = 1
  anti : ∀ a b, f b a = - f a b
  le : ∀ a b c, f a b ≤ 0 → f b c ≤ 0 → f a c ≤ 0
def icmp (x y : Int) : Int := if x < y then -1 else if y < x then 1 else 0
def scmp (a b : ByteArray) : Int := if Op.bytesLess a.toList b.toList = true then -1 else if a = b then 0 else 1
theorem icmp3 : Cmp3 icmp := by
  refine ⟨fun a b => ?_, fun a b => ?_, fun a b c => ?_⟩
  · unfold icmp
    by_cases h1 : a < b
    · rw [if_pos h1]; exact .inl rfl
    · rw [if_neg h1]
      by_cases h2 : b < a
      · rw [if_pos h2]; exact .inr (.inr rfl)
      · rw [if_neg h2]; exact .inr (.inl rfl)
  · unfold icmp
    by_cases h1 : a < b
    · rw [if_pos h1, if_neg (by omega), if_pos h1]; rfl
    · rw [if_neg h1]
      by_cases h2 : b < a
      · rw [if_pos h2, if_pos h2, if_neg h1]
      · rw [if_neg h2, if_neg h2, if_neg h1]; rfl
  · unfold icmp
    intro h1 h2
    have l1 : ¬ b < a := fun h => by rw [if_neg (by omega), if_pos h] at h1; omega
    have l2 : ¬ c < b := fun h => by rw [if_neg (by omega), if_pos h] at h2; omega
    by_cases h : a < c
    · rw [if_pos h]; decide
    · rw [if_neg h, if_neg (by omega)]; decide
theorem scmp_lt {a b : ByteArray} (h : Op.bytesLess a.toList b.toList = true) : scmp a b = -1 := if_pos h
theorem scmp_eq (a : ByteArray) : scmp a a = 0 := by unfold scmp; rw [if_neg (by rw [bl_irrefl]; exact Bool.false_ne_true), if_pos rfl]
theorem scmp_gt {a b : ByteArray} (h : Op.bytesLess b.toList a.toList = true) : scmp a b = 1 := by
  unfold scmp
  rw [if_neg (by rw [bl_asymm _ _ h]; exact Bool.false_ne_true), if_neg]
  rintro rfl
  rw [bl_irrefl] at h
  cases h
theorem three (a b : ByteArray) : Op.bytesLess a.toList b.toList = true ∨ a = b ∨ Op.bytesLess b.toList a.toList = true := by
  by_cases h : Op.bytesLess a.toList b.toList = true
  · exact .inl h
  · by_cases e : a = b
    · exact .inr (.inl e)
    · exact .inr (.inr (bl_total _ _ (by simpa using h) fun q => e (toList_inj q)))
theorem scmp3 : Cmp3 scmp := by
  refine ⟨fun a b => ?_, fun a b => ?_, fun a b c h1 h2 => ?_⟩
  · rcases three a b with h | rfl | h
    · exact .inl (scmp_lt h)
    · exact .inr (.inl (scmp_eq _))
    · exact .inr (.inr (scmp_gt h))
  · rcases three a b with h | rfl | h
    · rw [scmp_lt h, scmp_gt h]; rfl
    · rw [scmp_eq]; rfl
    · rw [scmp_gt h, scmp_lt h]
  · rcases three a b with q1 | rfl | q1
    · rcases three b c with q2 | rfl | q2
      · rw [scmp_lt (bl_trans _ _ _ q1 q2)]; omega
      · exact h1
      · rw [scmp_gt q2] at h2; omega
    · exact h2
    · rw [scmp_gt q1] at h1; omega
/-- one comparison, then the other -/
def lex {α β : Type} (f : α → α → Int) (g : β → β → Int) (a b : α × β) : Int := if f a.1 b.1 ≠ 0 then f a.1 b.1 else g a.2 b.2
theorem Cmp3.lex {α β : Type} {f : α → α → Int} {g : β → β → Int} (hf : Cmp3 f) (hg : Cmp3 g) : Cmp3 (lex f g) := by
  refine ⟨fun a b => ?_, fun a b => ?_, fun a b c h1 h2 => ?_⟩
  · unfold Go.Proofs.YtgminjlnnpaefaaGreatDoor.lex
    split
    · exact hf.range _ _
    · exact hg.range _ _
  · unfold Go.Proofs.YtgminjlnnpaefaaGreatDoor.lex
    have e := hf.anti a.1 b.1
    by_cases h : f a.1 b.1 ≠ 0
    · rw [if_pos h, if_pos (by omega), e]
    · rw [if_neg h, if_neg (by omega), hg.anti]
  · unfold Go.Proofs.YtgminjlnnpaefaaGreatDoor.lex at h1 h2 ⊢
    have l1 : f a.1 b.1 ≤ 0 := by
      by_cases h : f a.1 b.1 ≠ 0
      · rw [if_pos h] at h1; exact h1
      · omega
    have l2 : f b.1 c.1 ≤ 0 := by
      by_cases h : f b.1 c.1 ≠ 0
      · rw [if_pos h] at h2; exact h2
      · omega
    have l3 := hf.le _ _ _ l1 l2
    by_cases h : f a.1 c.1 ≠ 0
    · rw [if_pos h]; exact l3
    · have z : f a.1 c.1 = 0 := by omega
      have e1 := hf.anti a.1 c.1
      have e2 := hf.anti b.1 c.1
      have e3 := hf.anti a.1 b.1
      have k1 := hf.le c.1 a.1 b.1 (by omega) l1
      have k2 := hf.le b.1 c.1 a.1 l2 (by omega)
      rw [if_neg (by omega)] at h1 h2
      rw [if_neg h]
      exact hg.le _ _ _ h1 h2
/-- values -/
def vcmp : (Int × Int × ByteArray) → (Int × Int × ByteArray) → Int := lex icmp (lex icmp scmp)
theorem vcmp3 : Cmp3 vcmp := icmp3.lex (icmp3.lex scmp3)
/-- the first that is not 0 -/
def firstOf : List Int → Int
  | [] => 0
  | x :: l => if x ≠ 0 then x else firstOf l
theorem firstOf_vcmp (a b : Int × Int × ByteArray) : firstOf [icmp a.1 b.1, icmp a.2.1 b.2.1, scmp a.2.2 b.2.2] = vcmp a b := by
  show (if icmp a.1 b.1 ≠ 0 then icmp a.1 b.1 else if icmp a.2.1 b.2.1 ≠ 0 then icmp a.2.1 b.2.1 else if scmp a.2.2 b.2.2 ≠ 0 then scmp a.2.2 b.2.2 else 0) = (if icmp a.1 b.1 ≠ 0 then icmp a.1 b.1 else if icmp a.2.1 b.2.1 ≠ 0 then icmp a.2.1 b.2.1 else scmp a.2.2 b.2.2)
  by_cases h : scmp a.2.2 b.2.2 ≠ 0
  · rw [if_pos h]
  · rw [if_neg h]
    have : scmp a.2.2 b.2.2 = 0 := by omega
    rw [this]
end Go.Proofs.YtgminjlnnpaefaaGreatDoor
