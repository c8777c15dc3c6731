/- CodeJust, ahead of the walk: what is read from bytes is told by just those bytes. -/
import Derived.Test.YtfjjdmiddigkiaaCodeHelp
import Derived.Test.YtfjjdmiddigkiaaPlan
namespace Go.Proofs.Ytfjjdmiddigkiaa
open Go.RowKit

theorem getAt_just {b : List UInt8} {k n m : Nat} (h : Code.getAt b k = some (n, m)) : k < m ∧ m ≤ b.length ∧ (b.drop k).take (m - k) = Code.putL n ∧ n < 9223372036854775808 := by
  cases hg : Code.getL (b.drop k) with
  | none => rw [getAt_none hg] at h; cases h
  | some p =>
    obtain ⟨x, j⟩ := p
    rw [getAt_some hg] at h
    injection h with h
    injection h with h1 h2
    subst h1 h2
    obtain ⟨g1, g2, g3, g4⟩ := Code.getL_just hg
    rw [List.length_drop] at g2
    exact ⟨by omega, by omega, by rw [show k + j - k = j by omega]; exact g3, g4⟩

theorem flat_mem {l : List (List UInt8)} {s : List UInt8} (h : s ∈ l) : s.length ≤ (l.flatMap Code.putText).length := by
  induction l with
  | nil => cases h
  | cons x r ih =>
    rw [List.flatMap_cons, List.length_append]
    rcases List.mem_cons.1 h with rfl | h
    · rw [Code.putText, List.length_append]; omega
    · have := ih h; omega
theorem flat_len (l : List (List UInt8)) : l.length ≤ (l.flatMap Code.putText).length := by
  induction l with
  | nil => simp
  | cons x r ih =>
    rw [List.flatMap_cons, List.length_append, List.length_cons, Code.putText, List.length_append]
    have := Code.putL_pos x.length
    omega

theorem listAt_just {b : List UInt8} {k m : Nat} {l : List (List UInt8)} (h : listAt b k = some (l, m)) :
    k < m ∧ m ≤ b.length ∧ (b.drop k).take (m - k) = Code.putList l ∧ l.length ≤ b.length ∧ ∀ s ∈ l, s.length ≤ b.length := by
  rw [listAt, if_neg (by omega), Int.toNat_natCast] at h
  cases hg : Code.getList (b.drop k) with
  | none => rw [hg] at h; cases h
  | some p =>
    obtain ⟨x, j⟩ := p
    rw [hg] at h
    injection h with h
    injection h with h1 h2
    dsimp only at h1 h2
    subst h1 h2
    obtain ⟨g1, g2, g3⟩ := Code.getList_just hg
    rw [List.length_drop] at g2
    have hlen := congrArg List.length g3
    rw [Code.putList, List.length_append, List.length_take, List.length_drop] at hlen
    have hf := flat_len x
    exact ⟨by omega, by omega, by rw [show k + j - k = j by omega]; exact g3, by omega, fun s hs => by have := flat_mem hs; omega⟩

/-- the list as strings -/
theorem bytesOf_mkS (s : List UInt8) : bytesOf (mkS s) = s := by simp [mkS, bytesOf]
theorem map_bytesOf_mkS (l : List (List UInt8)) : (l.map mkS).map bytesOf = l := by
  rw [List.map_map]
  conv => rhs; rw [← List.map_id l]
  exact List.map_congr_left fun s _ => bytesOf_mkS s

theorem getL_yes {w : World} {A : Option Addr} {b : List UInt8} {c : Nat} {k : Nat} {l : List (List UInt8)} {m : Nat} (hA : At1 vByte w A b) (hc : b.length ≤ c) (hb : b.length ≤ 1000) (h : listAt b k = some (l, m)) :
    Calls Try.prog 12 #[.slice A b.length c, .int .i64 k] w fun e w' => ∃ B d, e = .returned (.tuple #[.slice B (l.map mkS).length d, .int .i64 m, .bool true]) ∧ At1 vStr w' B (l.map mkS) ∧ Below w.heap.size w w' := by
  obtain ⟨_, _, _, h4, _⟩ := listAt_just h
  have := getList_any w A b c k hA hc (by omega)
  rw [h] at this
  refine this.mono ?_
  rintro e w' ⟨v, rfl, h1, h2⟩
  rw [mkS_map] at h1
  have h1' : w'.ownsRow w.heap.size 9 1 v (l.map mkS).length ((l.map mkS).map vStr) := by rw [List.length_map]; exact h1
  obtain ⟨B, d, rfl, h3, _⟩ := own_reads h1' (by simp; omega)
  exact ⟨B, d, rfl, h3, h2⟩
theorem getL_no {w : World} {A : Option Addr} {b : List UInt8} {c : Nat} {k : Int} (hA : At1 vByte w A b) (hc : b.length ≤ c) (hb : b.length ≤ 1000) (h : listAt b k = none) :
    Calls Try.prog 12 #[.slice A b.length c, .int .i64 k] w fun e w' => e = .returned (.tuple #[.slice none 0 0, .int .i64 0, .bool false]) ∧ Below w.heap.size w w' := by
  have := getList_any w A b c k hA hc (by omega)
  rwa [h] at this

/-- a part of the bytes converts to the same text as the bytes told -/
theorem part_conv {w : World} {ad : Addr} {b p : List UInt8} {k m c : Nat} (hA : At1 vByte w (some ad) b) (hkm : k < m) (hm : m ≤ b.length) (hp : (b.drop k).take (m - k) = p) :
    ∀ W, Ext w W → (convert 23 9 (.slice (some (ad.add k)) (m - k) c)).run Try.prog W = .ok (.string ⟨p.toArray⟩) W := by
  intro W hW
  have h := hA.below hW
  refine run_str_of (P := Try.prog) Try.underlying23 Try.underlying5 Try.underlying9 (by rw [← hp]; simp; omega) ⟨?_, fun _ => ⟨_, rfl, fun i x hx => ?_⟩⟩
  · rw [← hp]; have := h.1; simp; omega
  · obtain ⟨ad', e, hc⟩ := h.2 (by omega)
    injection e with e
    subst e
    rw [← hp, List.getElem?_take] at hx
    split at hx
    · rw [List.getElem?_drop] at hx
      rw [add_of_add]; exact hc _ _ hx
    · cases hx
end Go.Proofs.Ytfjjdmiddigkiaa
