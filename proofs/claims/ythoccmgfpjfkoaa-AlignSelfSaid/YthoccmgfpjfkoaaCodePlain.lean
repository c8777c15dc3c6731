/- Plain laws on numbers and lists as bytes: no program in sight. -/
namespace Go.Proofs.Ythoccmgfpjfkoaa.Code

/-- a number's bytes: seven bits a byte, the low ones first -/
def putL (n : Nat) : List UInt8 := if h : n < 128 then [UInt8.ofNat n] else UInt8.ofNat (n % 128 + 128) :: putL (n / 128)
termination_by n
decreasing_by omega
def putN (n : Int) : List UInt8 := if n < 0 then [] else putL n.toNat
/-- the number that a list of bytes begins with, and how many bytes tell it; i bytes have been read, their bits are in 'acc' -/
def getF : Nat → Nat → Nat → List UInt8 → Option (Nat × Nat)
  | 0, _, _, _ => none
  | _ + 1, _, _, [] => none
  | f + 1, i, acc, c :: r => if 128 ≤ c.toNat then getF f (i + 1) (acc + (c.toNat % 128) * 2 ^ (7 * i)) r else if c.toNat = 0 ∧ 0 < i then none else some (acc + c.toNat * 2 ^ (7 * i), i + 1)
def getL (l : List UInt8) : Option (Nat × Nat) := getF 9 0 0 l
/-- at a place: the number and the place behind it -/
def getAt (b : List UInt8) (k : Int) : Option (Nat × Nat) := if k < 0 then none else (getL (b.drop k.toNat)).map fun p => (p.1, k.toNat + p.2)

theorem putL_small {n : Nat} (h : n < 128) : putL n = [UInt8.ofNat n] := by rw [putL, dif_pos h]
theorem putL_big {n : Nat} (h : ¬ n < 128) : putL n = UInt8.ofNat (n % 128 + 128) :: putL (n / 128) := by rw [putL, dif_neg h]
theorem putL_pos (n : Nat) : 0 < (putL n).length := by
  by_cases h : n < 128
  · rw [putL_small h]; simp
  · rw [putL_big h]; simp
theorem getF_nil (f i acc : Nat) : getF f i acc [] = none := by cases f <;> rfl
theorem getF_zero (i acc : Nat) (l : List UInt8) : getF 0 i acc l = none := rfl
theorem getF_more {f i acc : Nat} {c : UInt8} {r : List UInt8} (h : 128 ≤ c.toNat) : getF (f + 1) i acc (c :: r) = getF f (i + 1) (acc + (c.toNat % 128) * 2 ^ (7 * i)) r := by
  show (if 128 ≤ c.toNat then _ else _) = _
  rw [if_pos h]
theorem getF_zero_end {f i acc : Nat} {c : UInt8} {r : List UInt8} (h : c.toNat = 0) (hi : 0 < i) : getF (f + 1) i acc (c :: r) = none := by
  show (if 128 ≤ c.toNat then _ else if c.toNat = 0 ∧ 0 < i then none else _) = _
  rw [if_neg (by omega), if_pos ⟨h, hi⟩]
theorem getF_end {f i acc : Nat} {c : UInt8} {r : List UInt8} (h : c.toNat < 128) (hi : ¬ (c.toNat = 0 ∧ 0 < i)) : getF (f + 1) i acc (c :: r) = some (acc + c.toNat * 2 ^ (7 * i), i + 1) := by
  show (if 128 ≤ c.toNat then _ else if c.toNat = 0 ∧ 0 < i then none else _) = _
  rw [if_neg (by omega), if_neg hi]

theorem pow7 (i : Nat) : 2 ^ (7 * (i + 1)) = 128 * 2 ^ (7 * i) := by
  rw [Nat.mul_add, Nat.pow_add]; omega
theorem acc_lt {x i : Nat} {c : Nat} (hx : x < 2 ^ (7 * i)) : x + (c % 128) * 2 ^ (7 * i) < 2 ^ (7 * (i + 1)) := by
  rw [pow7]
  have h : c % 128 ≤ 127 := by omega
  have := Nat.mul_le_mul_right (2 ^ (7 * i)) h
  omega

theorem toNat_ofNat {n : Nat} (h : n < 256) : (UInt8.ofNat n).toNat = n := UInt8.toNat_ofNat_of_lt' h
theorem div_pow {n f : Nat} (h : n < 128 ^ (f + 2)) : n / 128 < 128 ^ (f + 1) := by
  rw [Nat.pow_succ] at h
  exact Nat.div_lt_of_lt_mul (by omega)
theorem val_step (n i acc : Nat) : acc + ((n % 128 + 128) % 128) * 2 ^ (7 * i) + n / 128 * 2 ^ (7 * (i + 1)) = acc + n * 2 ^ (7 * i) := by
  rw [pow7]
  have h1 : (n % 128 + 128) % 128 = n % 128 := by omega
  have h2 : n * 2 ^ (7 * i) = (n % 128 + 128 * (n / 128)) * 2 ^ (7 * i) := by rw [Nat.mod_add_div]
  rw [h1, h2, Nat.add_mul, Nat.add_assoc, ← Nat.mul_assoc, Nat.mul_comm (n / 128) 128]

/-- What was told is read, whatever stands behind. -/
theorem getF_putL : ∀ (f i acc n : Nat) (r : List UInt8), n < 128 ^ (f + 1) → (0 < i → 0 < n) → getF (f + 1) i acc (putL n ++ r) = some (acc + n * 2 ^ (7 * i), i + (putL n).length) := by
  intro f
  induction f with
  | zero =>
    intro i acc n r h hi
    have hs : n < 128 := by simpa using h
    rw [putL_small hs, List.singleton_append, getF_end (by rw [toNat_ofNat (by omega)]; exact hs) (by rw [toNat_ofNat (by omega)]; rintro ⟨h1, h2⟩; have := hi h2; omega), toNat_ofNat (by omega)]
    rfl
  | succ f ih =>
    intro i acc n r h hi
    by_cases hs : n < 128
    · rw [putL_small hs, List.singleton_append, getF_end (by rw [toNat_ofNat (by omega)]; exact hs) (by rw [toNat_ofNat (by omega)]; rintro ⟨h1, h2⟩; have := hi h2; omega), toNat_ofNat (by omega)]
      rfl
    · rw [putL_big hs, List.cons_append, getF_more (by rw [toNat_ofNat (by omega)]; omega), toNat_ofNat (by omega), ih _ _ _ _ (div_pow h) (fun _ => by omega), val_step, List.length_cons]
      congr 2
      omega
/-- Cut by its last byte it is not read. -/
theorem getF_cut : ∀ (f i acc n : Nat), n < 128 ^ (f + 1) → getF (f + 1) i acc (putL n).dropLast = none := by
  intro f
  induction f with
  | zero =>
    intro i acc n h
    have hs : n < 128 := by simpa using h
    rw [putL_small hs]; exact getF_nil _ _ _
  | succ f ih =>
    intro i acc n h
    by_cases hs : n < 128
    · rw [putL_small hs]; exact getF_nil _ _ _
    · rw [putL_big hs]
      have hp := putL_pos (n / 128)
      have e : (UInt8.ofNat (n % 128 + 128) :: putL (n / 128)).dropLast = UInt8.ofNat (n % 128 + 128) :: (putL (n / 128)).dropLast := by
        cases h' : putL (n / 128) with
        | nil => rw [h'] at hp; simp at hp
        | cons x l => rfl
      rw [e, getF_more (by rw [toNat_ofNat (by omega)]; omega)]
      exact ih _ _ _ (div_pow h)
/-- What is read is told by just those bytes. -/
theorem getF_just : ∀ (f i acc : Nat) (l : List UInt8) (x m : Nat), getF f i acc l = some (x, m) → ∃ n k, x = acc + n * 2 ^ (7 * i) ∧ m = i + k ∧ 0 < k ∧ k ≤ l.length ∧ l.take k = putL n ∧ (0 < i → 0 < n) ∧ n < 128 ^ f := by
  intro f
  induction f with
  | zero => intro i acc l x m h; cases h
  | succ f ih =>
    intro i acc l x m h
    cases l with
    | nil => rw [getF_nil] at h; cases h
    | cons c r =>
      have hc := c.toNat_lt
      by_cases h1 : 128 ≤ c.toNat
      · rw [getF_more h1] at h
        obtain ⟨n, k, e1, e2, e3, e4, e5, e6, e7⟩ := ih _ _ _ _ _ h
        have hn := e6 (Nat.succ_pos _)
        refine ⟨c.toNat % 128 + 128 * n, k + 1, ?_, by omega, by omega, by simp; omega, ?_, by omega, ?_⟩
        · rw [e1, pow7, Nat.add_mul, Nat.add_assoc, Nat.mul_comm 128 n, Nat.mul_assoc]
        · have hb := putL_big (n := c.toNat % 128 + 128 * n) (by omega)
          rw [List.take_succ_cons, e5, hb, show (c.toNat % 128 + 128 * n) % 128 + 128 = c.toNat from by omega, UInt8.ofNat_toNat, show (c.toNat % 128 + 128 * n) / 128 = n from by omega]
        · rw [Nat.pow_succ]; omega
      · by_cases h2 : c.toNat = 0 ∧ 0 < i
        · rw [getF_zero_end h2.1 h2.2] at h; cases h
        · rw [getF_end (by omega) h2] at h
          injection h with h
          injection h with ha hb
          refine ⟨c.toNat, 1, ha.symm, hb.symm, by omega, by simp, ?_, by omega, ?_⟩
          · rw [putL_small (by omega), UInt8.ofNat_toNat]; rfl
          · have : 1 ≤ 128 ^ f := Nat.one_le_pow _ _ (by omega)
            rw [Nat.pow_succ]; omega

theorem getL_putL {n : Nat} (h : n < 9223372036854775808) (r : List UInt8) : getL (putL n ++ r) = some (n, (putL n).length) := by
  have := getF_putL 8 0 0 n r (by have : (128 : Nat) ^ (8 + 1) = 9223372036854775808 := by decide
                                  omega) (fun h => absurd h (by omega))
  rw [getL, this]
  simp
theorem getL_cut {n : Nat} (h : n < 9223372036854775808) : getL (putL n).dropLast = none :=
  getF_cut 8 0 0 n (by have : (128 : Nat) ^ (8 + 1) = 9223372036854775808 := by decide
                       omega)
theorem getL_just {l : List UInt8} {n m : Nat} (h : getL l = some (n, m)) : 0 < m ∧ m ≤ l.length ∧ l.take m = putL n ∧ n < 9223372036854775808 := by
  obtain ⟨n', k, e1, e2, e3, e4, e5, _, e7⟩ := getF_just 9 0 0 l n m h
  have hn : n = n' := by simpa using e1
  have hm : m = k := by omega
  subst hn hm
  have : (128 : Nat) ^ 9 = 9223372036854775808 := by decide
  exact ⟨e3, e4, e5, by omega⟩
theorem getL_nil : getL [] = none := rfl

/-! ## texts and lists -/
def putText (s : List UInt8) : List UInt8 := putL s.length ++ s
def putList (l : List (List UInt8)) : List UInt8 := putL l.length ++ l.flatMap putText
def getText (b : List UInt8) : Option (List UInt8 × Nat) :=
  match getL b with
  | none => none
  | some (n, m) => if b.length - m < n then none else some ((b.drop m).take n, m + n)
def getTexts : Nat → List UInt8 → Option (List (List UInt8) × Nat)
  | 0, _ => some ([], 0)
  | n + 1, b => match getText b with
    | none => none
    | some (s, m) => match getTexts n (b.drop m) with
      | none => none
      | some (l, k) => some (s :: l, m + k)
def getList (b : List UInt8) : Option (List (List UInt8) × Nat) :=
  match getL b with
  | none => none
  | some (n, m) => match getTexts n (b.drop m) with
    | none => none
    | some (l, k) => some (l, m + k)

theorem getText_just {b s : List UInt8} {m : Nat} (h : getText b = some (s, m)) : 0 < m ∧ m ≤ b.length ∧ b.take m = putText s ∧ s.length ≤ b.length := by
  unfold getText at h
  split at h
  · cases h
  · rename_i n k hk
    obtain ⟨h1, h2, h3, h4⟩ := getL_just hk
    split at h
    · cases h
    · injection h with h
      injection h with ha hb
      subst ha hb
      have hl : ((b.drop k).take n).length = n := by simp; omega
      refine ⟨by omega, by omega, ?_, by omega⟩
      rw [putText, hl, ← h3, List.take_add]
theorem getTexts_just : ∀ (n : Nat) (b : List UInt8) (l : List (List UInt8)) (k : Nat), getTexts n b = some (l, k) → l.length = n ∧ n ≤ k ∧ k ≤ b.length ∧ b.take k = l.flatMap putText
  | 0, b, l, k, h => by
    injection h with h
    injection h with ha hb
    subst ha hb
    exact ⟨rfl, Nat.le_refl _, Nat.zero_le _, by simp⟩
  | n + 1, b, l, k, h => by
    unfold getTexts at h
    split at h
    · cases h
    · rename_i s m hs
      split at h
      · cases h
      · rename_i l' k' hl
        injection h with h
        injection h with ha hb
        subst ha hb
        obtain ⟨h1, h2, h3, _⟩ := getText_just hs
        obtain ⟨g1, g2, g3, g4⟩ := getTexts_just n _ _ _ hl
        simp only [List.length_drop] at g3
        exact ⟨by simp [g1], by omega, by omega, by rw [List.take_add, h3, g4]; rfl⟩
/-- more texts than bytes there are not -/
theorem getTexts_few {n : Nat} {b : List UInt8} (h : b.length < n) : getTexts n b = none := by
  cases hg : getTexts n b with
  | none => rfl
  | some p =>
    obtain ⟨l, k⟩ := p
    obtain ⟨_, h2, h3, _⟩ := getTexts_just n b l k hg
    omega
theorem getList_just {b : List UInt8} {l : List (List UInt8)} {m : Nat} (h : getList b = some (l, m)) : 0 < m ∧ m ≤ b.length ∧ b.take m = putList l := by
  unfold getList at h
  split at h
  · cases h
  · rename_i n k hk
    obtain ⟨h1, h2, h3, h4⟩ := getL_just hk
    split at h
    · cases h
    · rename_i l' k' hl
      injection h with h
      injection h with ha hb
      subst ha hb
      obtain ⟨g1, g2, g3, g4⟩ := getTexts_just n _ _ _ hl
      simp only [List.length_drop] at g3
      exact ⟨by omega, by omega, by rw [putList, g1, List.take_add, h3, g4]⟩
theorem getText_put {s : List UInt8} (h : s.length < 9223372036854775808) (r : List UInt8) : getText (putText s ++ r) = some (s, (putText s).length) := by
  unfold getText
  rw [putText, List.append_assoc, getL_putL h]
  simp only
  rw [if_neg (by simp), List.drop_left, List.take_left, List.length_append]
theorem getTexts_put : ∀ (l : List (List UInt8)) (r : List UInt8), (∀ s ∈ l, s.length < 9223372036854775808) → getTexts l.length (l.flatMap putText ++ r) = some (l, (l.flatMap putText).length)
  | [], r, _ => rfl
  | s :: l, r, h => by
    rw [List.flatMap_cons, List.append_assoc, List.length_cons]
    unfold getTexts
    rw [getText_put (h s (by simp))]
    simp only
    rw [List.drop_left, getTexts_put l r (fun s hs => h s (by simp [hs]))]
    simp
theorem getList_put {l : List (List UInt8)} (hl : l.length < 9223372036854775808) (h : ∀ s ∈ l, s.length < 9223372036854775808) (r : List UInt8) : getList (putList l ++ r) = some (l, (putList l).length) := by
  unfold getList
  rw [putList, List.append_assoc, getL_putL hl]
  simp only
  rw [List.drop_left, getTexts_put l r h]
  simp
/-! what is read is read whatever stands behind -/
theorem getF_mono : ∀ (f i acc : Nat) (l r : List UInt8) (p : Nat × Nat), getF f i acc l = some p → getF f i acc (l ++ r) = some p := by
  intro f
  induction f with
  | zero => intro i acc l r p h; cases h
  | succ f ih =>
    intro i acc l r p h
    cases l with
    | nil => rw [getF_nil] at h; cases h
    | cons c l =>
      rw [List.cons_append]
      by_cases h1 : 128 ≤ c.toNat
      · rw [getF_more h1] at h ⊢; exact ih _ _ _ _ _ h
      · by_cases h2 : c.toNat = 0 ∧ 0 < i
        · rw [getF_zero_end h2.1 h2.2] at h; cases h
        · rw [getF_end (by omega) h2] at h ⊢; exact h
theorem getL_mono {l : List UInt8} {p : Nat × Nat} (h : getL l = some p) (r : List UInt8) : getL (l ++ r) = some p := getF_mono _ _ _ _ _ _ h
theorem getText_mono {b : List UInt8} {p : List UInt8 × Nat} (h : getText b = some p) (r : List UInt8) : getText (b ++ r) = some p := by
  unfold getText at h ⊢
  split at h
  · cases h
  · rename_i n k hk
    obtain ⟨h1, h2, _, _⟩ := getL_just hk
    rw [getL_mono hk r]
    split at h
    · cases h
    · simp only
      rw [if_neg (by simp; omega), List.drop_append_of_le_length h2, List.take_append_of_le_length (by simp; omega)]
      exact h
theorem getTexts_mono : ∀ (n : Nat) (b r : List UInt8) (p : List (List UInt8) × Nat), getTexts n b = some p → getTexts n (b ++ r) = some p
  | 0, _, _, _, h => h
  | n + 1, b, r, p, h => by
    unfold getTexts at h ⊢
    split at h
    · cases h
    · rename_i s m hs
      rw [getText_mono hs r]
      simp only
      rw [List.drop_append_of_le_length (getText_just hs).2.1]
      split at h
      · cases h
      · rename_i l' k' hl
        rw [getTexts_mono n _ r _ hl]
        exact h
theorem getList_mono {b : List UInt8} {p : List (List UInt8) × Nat} (h : getList b = some p) (r : List UInt8) : getList (b ++ r) = some p := by
  unfold getList at h ⊢
  split at h
  · cases h
  · rename_i n k hk
    rw [getL_mono hk r]
    simp only
    rw [List.drop_append_of_le_length (getL_just hk).2.1]
    split at h
    · cases h
    · rename_i l' k' hl
      rw [getTexts_mono n _ r _ hl]
      exact h
/-- A list's bytes, cut by the last one, are not read. -/
theorem getList_cut {l : List (List UInt8)} (hl : l.length < 9223372036854775808) (h : ∀ s ∈ l, s.length < 9223372036854775808) : getList (putList l).dropLast = none := by
  cases hg : getList (putList l).dropLast with
  | none => rfl
  | some p =>
    obtain ⟨l', m⟩ := p
    obtain ⟨h1, h2, h3⟩ := getList_just hg
    have hp : 0 < (putList l).length := by rw [putList, List.length_append]; have := putL_pos l.length; omega
    have hne : putList l ≠ [] := fun e => by rw [e] at hp; simp at hp
    have q := getList_put hl h []
    have q2 := getList_mono hg [(putList l).getLast hne]
    rw [List.dropLast_concat_getLast] at q2
    rw [List.append_nil, q2] at q
    injection q with q
    injection q with _ qb
    rw [List.length_dropLast] at h2
    omega
end Go.Proofs.Ythoccmgfpjfkoaa.Code
