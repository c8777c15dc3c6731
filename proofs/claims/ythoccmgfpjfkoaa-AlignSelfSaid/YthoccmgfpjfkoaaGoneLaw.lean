/- AlignGone's law over texts. -/
import Derived.Test.YthoccmgfpjfkoaaGone
import Derived.Test.YthoccmgfpjfkoaaGonePlain
namespace Go.Proofs.Ythoccmgfpjfkoaa
open Go.RowKit

theorem keyOf_one {s : ByteArray} (h0 : s ≠ ByteArray.empty) (hs : s.size < 128) : keyOf [s] = ⟨(1 :: UInt8.ofNat s.size :: bytesOf s).toArray⟩ := by
  unfold keyOf
  rw [show texts [s] = [s] by simp [texts, h0]]
  simp only [List.map_cons, List.map_nil, Code.putList, List.length_singleton, List.flatMap_cons, List.flatMap_nil, List.append_nil, Code.putText]
  rw [Code.putL_small (by decide), bytesOf_len, Code.putL_small hs]
  rfl
theorem keyOf_inj {s t : ByteArray} (h0 : s ≠ ByteArray.empty) (hs : s.size < 128) (h1 : t ≠ ByteArray.empty) (ht : t.size < 128) (h : keyOf [s] = keyOf [t]) : s = t := by
  rw [keyOf_one h0 hs, keyOf_one h1 ht] at h
  injection h with h
  have h := congrArg Array.toList h
  simp only [] at h
  injection h with _ h
  injection h with _ h
  apply ByteArray.ext
  exact Array.toList_inj.1 h

/-- the number of its digits -/
def val (l : List UInt8) : Nat := l.foldl (fun a d => a * 10 + (d.toNat - 48)) 0
theorem val_digs : ∀ (f n : Nat), n ≤ f → val (digs n) = n
  | f, n, hf => by
    by_cases h : n < 10
    · rw [digs_small h]
      have := d_num h
      simp only [val, List.foldl_cons, List.foldl_nil, this]; omega
    · match f, hf with
      | f + 1, hf =>
        have ih := val_digs f (n / 10) (by omega)
        rw [digs_big h, val, List.foldl_append]
        unfold val at ih
        rw [ih]
        have := d_num (k := n % 10) (by omega)
        simp only [List.foldl_cons, List.foldl_nil, this]; omega
      | 0, hf => omega
theorem digs_high : ∀ (f n : Nat), n ≤ f → ∀ d ∈ digs n, 48 ≤ d.toNat
  | f, n, hf => by
    by_cases h : n < 10
    · rw [digs_small h]
      have := d_num h
      intro d hd; simp at hd; subst hd; omega
    · match f, hf with
      | f + 1, hf =>
        have ih := digs_high f (n / 10) (by omega)
        rw [digs_big h]
        have := d_num (k := n % 10) (by omega)
        intro d hd
        rcases List.mem_append.1 hd with hd | hd
        · exact ih d hd
        · simp at hd; subst hd; omega
      | 0, hf => omega
theorem digits_bytes (n : Nat) : bytesOf (digits n) = digs n := rfl
theorem digits_inj {n m : Nat} (h : digits n = digits m) : n = m := by
  have e : digs n = digs m := by rw [← digits_bytes, ← digits_bytes, h]
  rw [← val_digs n n (Nat.le_refl _), ← val_digs m m (Nat.le_refl _), e]
theorem digits_size {n : Nat} (h : n < 1000) : (digits n).size ≤ 3 := by
  rw [← bytesOf_len, digits_bytes]
  exact digs_len 2 n (by simpa using h)
theorem digits_pos (n : Nat) : digits n ≠ ByteArray.empty := fun e => by
  have h : digs n = [] := by rw [← digits_bytes, e]; rfl
  by_cases h10 : n < 10
  · rw [digs_small h10] at h; cases h
  · rw [digs_big h10] at h; simp at h

def inText : ByteArray := ⟨#[39, 105, 110]⟩
def rowText (c : Nat) : ByteArray := if c = 1000 then inText else digits (100 + c)
def Code1 (c : Nat) : Prop := c < 12 ∨ c = 1000
theorem rowText_size {c : Nat} (h : Code1 c) : (rowText c).size ≤ 3 := by
  unfold rowText
  split
  · decide
  · rcases h with h | h
    · exact digits_size (by omega)
    · contradiction
theorem rowText_pos (c : Nat) : rowText c ≠ ByteArray.empty := by
  unfold rowText
  split
  · intro e; have := congrArg ByteArray.size e; revert this; decide
  · exact digits_pos _
theorem in_digits (n : Nat) : inText ≠ digits n := fun e => by
  have h : (39 : UInt8) ∈ digs n := by rw [← digits_bytes, ← e]; simp [bytesOf, inText]
  have := digs_high n n (Nat.le_refl _) _ h
  revert this; decide
theorem rowText_inj {c d : Nat} (h : rowText c = rowText d) : c = d := by
  unfold rowText at h
  split at h <;> split at h
  · omega
  · exact absurd h (in_digits _)
  · exact absurd h.symm (in_digits _)
  · have := digits_inj h; omega
def keyText (c : Nat) : ByteArray := keyOf [rowText c]
theorem keyText_inj {c d : Nat} (hc : Code1 c) (hd : Code1 d) (h : keyText c = keyText d) : c = d := by
  have h1 := rowText_size hc
  have h2 := rowText_size hd
  exact rowText_inj (keyOf_inj (rowText_pos c) (by omega) (rowText_pos d) (by omega) h)

/-- the rows' places, over numbers -/
theorem rowsOf_codes {a b : List Nat} (ha : a.length ≤ 200) (hb : b.length ≤ 200) (h1 : ∀ c ∈ a, Code1 c) (h2 : ∀ c ∈ b, Code1 c) (na : a.Nodup) (nb : b.Nodup) (hs : (b.filter (· ∈ a)).Sublist a) :
    rowsOf (a.map keyText) (b.map keyText) = Al.fill (Al.mapOf a.length (Al.M (a.length + b.length) a b 0 0)) b.length 0 := by
  unfold rowsOf pairsOf
  rw [if_neg (by simp; omega), (Al.W_map keyText a b 0 0 fun x hx y hy h => keyText_inj (h1 x hx) (h2 y hy) h).2, Al.M_eq _ a b 0 0 (Nat.le_refl _) na nb hs]
  simp
theorem gone_rows {k i m put : Nat} (hk : k < 12) (hk4 : 4 ≤ k) (hi : i < k) (hm : m < 4) (hp : put < k + 1) :
    rowsOf ((List.range k).map keyText) ((gone k i (min k (i + m)) put (k + 1)).1.map keyText) = (gone k i (min k (i + m)) put (k + 1)).2 ∧ (∀ c ∈ (gone k i (min k (i + m)) put (k + 1)).1, Code1 c) ∧ (gone k i (min k (i + m)) put (k + 1)).1.length ≤ 200 := by
  have h := gone_checked k hk hk4 i hi m hm put hp
  unfold goneCheck at h
  simp only [Bool.and_eq_true, decide_eq_true_eq, beq_iff_eq, List.all_eq_true, Bool.or_eq_true] at h
  obtain ⟨⟨⟨⟨h1, h2⟩, h3⟩, h4⟩, h5⟩ := h
  have hc : ∀ c ∈ (gone k i (min k (i + m)) put (k + 1)).1, Code1 c := fun c hc => h4 c hc
  refine ⟨?_, hc, h5⟩
  rw [rowsOf_codes (by simp; omega) h5 (fun c hc => .inl (by have := List.mem_range.1 hc; omega)) hc List.nodup_range h1 (by
    have := List.isSublist_iff_sublist.1 h2
    rwa [List.filter_congr (q := (· ∈ List.range k)) (fun c _ => by simp)] at this)]
  rw [List.length_range]
  exact h3

/-- rows of one text each -/
def OfCodes (rs : List SRow) (cs : List Nat) : Prop := rs.map (·.l) = cs.map fun c => [rowText c]
theorem OfCodes.keys {rs : List SRow} {cs : List Nat} (h : OfCodes rs cs) : rowKeys rs = cs.map keyText := by
  have e : rowKeys rs = (rs.map (·.l)).map keyOf := by rw [List.map_map]; rfl
  rw [e, h, List.map_map]; rfl
theorem OfCodes.len {rs : List SRow} {cs : List Nat} (h : OfCodes rs cs) : rs.length = cs.length := by
  have := congrArg List.length h
  simpa using this
theorem OfCodes.mild {rs : List SRow} {cs : List Nat} (h : OfCodes rs cs) (hl : cs.length ≤ 200) (hc : ∀ c ∈ cs, Code1 c) : Mild rs := by
  refine ⟨by rw [h.len]; omega, fun r hr => ?_⟩
  have : r.l ∈ cs.map fun c => [rowText c] := by rw [← h]; exact List.mem_map.2 ⟨r, hr, rfl⟩
  obtain ⟨c, hcm, e⟩ := List.mem_map.1 this
  rw [← e]
  refine ⟨by simp, fun s hs => ?_⟩
  simp at hs
  subst hs
  have := rowText_size (hc c hcm)
  omega
theorem OfCodes.snoc {rs : List SRow} {cs : List Nat} (h : OfCodes rs cs) {g c n : Nat} : OfCodes (rs ++ [⟨some ⟨g, 0, none⟩, [rowText c], n⟩]) (cs ++ [c]) := by
  unfold OfCodes at *
  rw [List.map_append, h, List.map_append]; rfl
end Go.Proofs.Ythoccmgfpjfkoaa
