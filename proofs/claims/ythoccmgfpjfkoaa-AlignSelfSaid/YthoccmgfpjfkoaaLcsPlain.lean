/- Plain laws on longest common lists: no program in sight. -/
namespace Go.Proofs.Ythoccmgfpjfkoaa.Lcs
/-- Induction by the sum of the lengths. -/
theorem both_ind {α : Type} {p : List α → List α → Prop} (h0 : ∀ b, p [] b) (h1 : ∀ x a, p (x :: a) []) (h2 : ∀ x y a b, p a b → p a (y :: b) → p (x :: a) b → p (x :: a) (y :: b)) : ∀ a b, p a b := by
  suffices h : ∀ (n : Nat) (a b : List α), a.length + b.length ≤ n → p a b from fun a b => h _ a b (Nat.le_refl _)
  intro n
  induction n with
  | zero =>
    intro a b h
    have : a = [] := List.eq_nil_of_length_eq_zero (by omega)
    subst this; exact h0 b
  | succ n ih =>
    intro a b h
    match a, b with
    | [], b => exact h0 b
    | x :: a, [] => exact h1 x a
    | x :: a, y :: b =>
      simp only [List.length_cons] at h
      exact h2 x y a b (ih _ _ (by omega)) (ih _ _ (by simp only [List.length_cons]; omega)) (ih _ _ (by simp only [List.length_cons]; omega))

theorem sub_cons {α : Type} {z x : α} {c a : List α} (h : (z :: c).Sublist (x :: a)) : c.Sublist a ∧ (z ≠ x → (z :: c).Sublist a) := by
  cases h with
  | cons _ h => exact ⟨(List.sublist_cons_self z c).trans h, fun _ => h⟩
  | cons_cons _ h => exact ⟨h, fun hz => absurd rfl hz⟩

variable {α : Type} [DecidableEq α]

/-- how long a longest common list is -/
def L : List α → List α → Nat
  | [], _ => 0
  | _ :: _, [] => 0
  | x :: a, y :: b => if x = y then L a b + 1 else max (L a (y :: b)) (L (x :: a) b)
termination_by a b => a.length + b.length

/-- the places that the walk through the table takes -/
def W : List α → List α → Nat → Nat → List (Nat × Nat)
  | x :: a, y :: b, i, k => if x = y then (i, k) :: W a b (i + 1) (k + 1) else if L (x :: a) b ≤ L a (y :: b) then W a (y :: b) (i + 1) k else W (x :: a) b i (k + 1)
  | [], _, _, _ => []
  | _ :: _, [], _, _ => []
termination_by a b => a.length + b.length

theorem L_nil (b : List α) : L [] b = 0 := by rw [L]
theorem L_nil_right (a : List α) : L a [] = 0 := by cases a <;> rw [L]
theorem L_cons_eq (x : α) (a b : List α) : L (x :: a) (x :: b) = L a b + 1 := by rw [L, if_pos rfl]
theorem L_cons_ne {x y : α} (h : x ≠ y) (a b : List α) : L (x :: a) (y :: b) = max (L a (y :: b)) (L (x :: a) b) := by rw [L, if_neg h]
theorem W_nil (b : List α) (i k : Nat) : W [] b i k = [] := by rw [W]
theorem W_nil_right (a : List α) (i k : Nat) : W a [] i k = [] := by cases a <;> rw [W]
theorem W_cons_eq (x : α) (a b : List α) (i k : Nat) : W (x :: a) (x :: b) i k = (i, k) :: W a b (i + 1) (k + 1) := by rw [W, if_pos rfl]
theorem W_cons_down {x y : α} (h : x ≠ y) {a b : List α} (hL : L (x :: a) b ≤ L a (y :: b)) (i k : Nat) : W (x :: a) (y :: b) i k = W a (y :: b) (i + 1) k := by rw [W, if_neg h, if_pos hL]
theorem W_cons_right {x y : α} (h : x ≠ y) {a b : List α} (hL : ¬ L (x :: a) b ≤ L a (y :: b)) (i k : Nat) : W (x :: a) (y :: b) i k = W (x :: a) b i (k + 1) := by rw [W, if_neg h, if_neg hL]

theorem L_le_left : ∀ a b : List α, L a b ≤ a.length := by
  refine both_ind (fun b => by rw [L_nil]; simp) (fun x a => by rw [L_nil_right]; simp) fun x y a b h1 h2 h3 => ?_
  by_cases h : x = y
  · subst h; rw [L_cons_eq]; simp only [List.length_cons]; omega
  · rw [L_cons_ne h]; simp only [List.length_cons] at *; omega
theorem L_comm : ∀ a b : List α, L a b = L b a := by
  refine both_ind (fun b => by rw [L_nil, L_nil_right]) (fun x a => by rw [L_nil, L_nil_right]) fun x y a b h1 h2 h3 => ?_
  by_cases h : x = y
  · subst h; rw [L_cons_eq, L_cons_eq, h1]
  · rw [L_cons_ne h, L_cons_ne (Ne.symm h), h2, h3]; omega
theorem L_le_right (a b : List α) : L a b ≤ b.length := by rw [L_comm]; exact L_le_left b a

/-- What stands in both, in order, is no longer. -/
theorem L_ge_of_sublist : ∀ (a b c : List α), c.Sublist a → c.Sublist b → c.length ≤ L a b := by
  intro a b
  revert a b
  refine both_ind (fun b c h1 _ => by rw [List.sublist_nil.1 h1]; simp) (fun x a c _ h2 => by rw [List.sublist_nil.1 h2]; simp) fun x y a b ih1 ih2 ih3 c h1 h2 => ?_
  match c with
  | [] => simp
  | z :: c =>
    have ta := (sub_cons h1).1
    have tb := (sub_cons h2).1
    by_cases h : x = y
    · subst h
      rw [L_cons_eq]
      have := ih1 c ta tb
      simp only [List.length_cons]; omega
    · rw [L_cons_ne h]
      by_cases hz : z = x
      · subst hz
        have hb := (sub_cons h2).2 h
        have := ih3 (z :: c) h1 hb
        omega
      · have ha := (sub_cons h1).2 hz
        have := ih2 (z :: c) ha h2
        omega

theorem L_apart : ∀ (a b : List α), (∀ x ∈ a, ∀ y ∈ b, x ≠ y) → L a b = 0 := by
  refine both_ind (fun b _ => L_nil b) (fun x a _ => L_nil_right _) fun x y a b _ h2 h3 h => ?_
  have hxy : x ≠ y := h x (by simp) y (by simp)
  rw [L_cons_ne hxy, h2 (fun u hu v hv => h u (by simp [hu]) v hv), h3 (fun u hu v hv => h u hu v (by simp [hv]))]
  rfl

theorem W_length : ∀ (a b : List α) (i k : Nat), (W a b i k).length = L a b := by
  refine both_ind (fun b i k => by rw [W_nil, L_nil]; rfl) (fun x a i k => by rw [W_nil_right, L_nil_right]; rfl) fun x y a b h1 h2 h3 i k => ?_
  by_cases h : x = y
  · subst h; rw [W_cons_eq, L_cons_eq, List.length_cons, h1]
  · by_cases hl : L (x :: a) b ≤ L a (y :: b)
    · rw [W_cons_down h hl, L_cons_ne h, h2]; omega
    · rw [W_cons_right h hl, L_cons_ne h, h3]; omega

/-- The places are inside, and the texts there are alike. -/
theorem W_places : ∀ (a b : List α) (i k : Nat) (p : Nat × Nat), p ∈ W a b i k → i ≤ p.1 ∧ k ≤ p.2 ∧ ∃ x, a[p.1 - i]? = some x ∧ b[p.2 - k]? = some x := by
  refine both_ind (fun b i k p h => by rw [W_nil] at h; cases h) (fun x a i k p h => by rw [W_nil_right] at h; cases h) fun x y a b h1 h2 h3 i k p hp => ?_
  by_cases h : x = y
  · subst h
    rw [W_cons_eq] at hp
    rcases List.mem_cons.1 hp with rfl | hp
    · exact ⟨Nat.le_refl _, Nat.le_refl _, x, by simp, by simp⟩
    · obtain ⟨q1, q2, z, e1, e2⟩ := h1 _ _ p hp
      refine ⟨by omega, by omega, z, ?_, ?_⟩
      · rw [show p.1 - i = (p.1 - (i + 1)) + 1 from by omega, List.getElem?_cons_succ]; exact e1
      · rw [show p.2 - k = (p.2 - (k + 1)) + 1 from by omega, List.getElem?_cons_succ]; exact e2
  · by_cases hl : L (x :: a) b ≤ L a (y :: b)
    · rw [W_cons_down h hl] at hp
      obtain ⟨q1, q2, z, e1, e2⟩ := h2 _ _ p hp
      refine ⟨by omega, by omega, z, ?_, e2⟩
      rw [show p.1 - i = (p.1 - (i + 1)) + 1 from by omega, List.getElem?_cons_succ]; exact e1
    · rw [W_cons_right h hl] at hp
      obtain ⟨q1, q2, z, e1, e2⟩ := h3 _ _ p hp
      refine ⟨by omega, by omega, z, e1, ?_⟩
      rw [show p.2 - k = (p.2 - (k + 1)) + 1 from by omega, List.getElem?_cons_succ]; exact e2

/-- The places rise. -/
theorem W_rise : ∀ (a b : List α) (i k : Nat), (W a b i k).Pairwise (fun p q => p.1 < q.1 ∧ p.2 < q.2) := by
  refine both_ind (fun b i k => by rw [W_nil]; exact .nil) (fun x a i k => by rw [W_nil_right]; exact .nil) fun x y a b h1 h2 h3 i k => ?_
  by_cases h : x = y
  · subst h
    rw [W_cons_eq]
    refine .cons (fun p hp => ?_) (h1 _ _)
    obtain ⟨q1, q2, _⟩ := W_places a b (i + 1) (k + 1) p hp
    exact ⟨by simp only; omega, by simp only; omega⟩
  · by_cases hl : L (x :: a) b ≤ L a (y :: b)
    · rw [W_cons_down h hl]; exact h2 _ _
    · rw [W_cons_right h hl]; exact h3 _ _

theorem W_self : ∀ (a : List α) (i : Nat), W a a i i = (List.range' i a.length).map fun j => (j, j)
  | [], i => by rw [W_nil]; rfl
  | x :: a, i => by rw [W_cons_eq, W_self a (i + 1)]; simp [List.range'_succ]

/-! by places -/
theorem L_at_end {a b : List α} {i k : Nat} (h : a.length ≤ i ∨ b.length ≤ k) : L (a.drop i) (b.drop k) = 0 := by
  rcases h with h | h
  · rw [List.drop_eq_nil_of_le h, L_nil]
  · rw [List.drop_eq_nil_of_le h, L_nil_right]
theorem L_at_eq {a b : List α} {i k : Nat} (hi : i < a.length) (hk : k < b.length) (h : a[i] = b[k]) : L (a.drop i) (b.drop k) = L (a.drop (i + 1)) (b.drop (k + 1)) + 1 := by
  rw [List.drop_eq_getElem_cons hi, List.drop_eq_getElem_cons hk, h, L_cons_eq]
theorem L_at_ne {a b : List α} {i k : Nat} (hi : i < a.length) (hk : k < b.length) (h : a[i] ≠ b[k]) :
    L (a.drop i) (b.drop k) = max (L (a.drop (i + 1)) (b.drop k)) (L (a.drop i) (b.drop (k + 1))) := by
  rw [List.drop_eq_getElem_cons hi, List.drop_eq_getElem_cons hk, L_cons_ne h]
theorem W_at_end {a b : List α} {i k : Nat} (h : a.length ≤ i ∨ b.length ≤ k) : W (a.drop i) (b.drop k) i k = [] := by
  rcases h with h | h
  · rw [List.drop_eq_nil_of_le h, W_nil]
  · rw [List.drop_eq_nil_of_le h, W_nil_right]
theorem W_at_eq {a b : List α} {i k : Nat} (hi : i < a.length) (hk : k < b.length) (h : a[i] = b[k]) : W (a.drop i) (b.drop k) i k = (i, k) :: W (a.drop (i + 1)) (b.drop (k + 1)) (i + 1) (k + 1) := by
  rw [List.drop_eq_getElem_cons hi, List.drop_eq_getElem_cons hk, h, W_cons_eq]
theorem W_at_down {a b : List α} {i k : Nat} (hi : i < a.length) (hk : k < b.length) (h : a[i] ≠ b[k]) (hl : L (a.drop i) (b.drop (k + 1)) ≤ L (a.drop (i + 1)) (b.drop k)) :
    W (a.drop i) (b.drop k) i k = W (a.drop (i + 1)) (b.drop k) (i + 1) k := by
  rw [List.drop_eq_getElem_cons hi, List.drop_eq_getElem_cons hk] at *
  exact W_cons_down h hl _ _
theorem W_at_right {a b : List α} {i k : Nat} (hi : i < a.length) (hk : k < b.length) (h : a[i] ≠ b[k]) (hl : ¬ L (a.drop i) (b.drop (k + 1)) ≤ L (a.drop (i + 1)) (b.drop k)) :
    W (a.drop i) (b.drop k) i k = W (a.drop i) (b.drop (k + 1)) i (k + 1) := by
  rw [List.drop_eq_getElem_cons hi, List.drop_eq_getElem_cons hk] at *
  exact W_cons_right h hl _ _

end Go.Proofs.Ythoccmgfpjfkoaa.Lcs
