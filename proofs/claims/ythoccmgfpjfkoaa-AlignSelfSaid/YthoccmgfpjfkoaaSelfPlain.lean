/- Where rows and columns stay: plain laws. -/
import Derived.Test.YthoccmgfpjfkoaaOwnRows
namespace Go.Proofs.Ythoccmgfpjfkoaa
open Go.RowKit

/-- the places of n things, as numbers -/
def upto (n : Nat) : List Int := (List.range n).map fun i : Nat => (i : Int)
theorem upto_len (n : Nat) : (upto n).length = n := by simp [upto]
theorem upto_at {n i : Nat} (h : i < n) : (upto n)[i]? = some (i : Int) := by simp [upto, h]

theorem nextOf_ge : ∀ (l : List Int) (i N : Int), (∀ j t, l[j]? = some t → t = i + (j : Nat) ∨ t = -1) → i ≤ N → i ≤ Al.nextOf l N
  | [], i, N, _, hN => hN
  | t :: l, i, N, h, hN => by
    unfold Al.nextOf
    split
    · rcases h 0 t rfl with e | e <;> omega
    · have := nextOf_ge l (i + 1) (max N (i + 1)) (fun j u hu => by
        rcases h (j + 1) u (by simpa using hu) with e | e
        · left; omega
        · right; exact e) (by omega)
      by_cases hn : i + 1 ≤ N
      · rw [Int.max_eq_left hn] at this; omega
      · have hnn : ∀ (l : List Int), (∀ j t, l[j]? = some t → t = i + 1 + (j : Nat) ∨ t = -1) → i ≤ Al.nextOf l N := by
          intro l
          induction l with
          | nil => intro _; exact hN
          | cons u l ih =>
            intro hh
            unfold Al.nextOf
            split
            · rcases hh 0 u rfl with e | e <;> omega
            · have : ∀ (l : List Int) (k : Int), i + 1 ≤ k → (∀ j t, l[j]? = some t → t = k + (j : Nat) ∨ t = -1) → i ≤ Al.nextOf l N := by
                intro l
                induction l with
                | nil => intro _ _ _; exact hN
                | cons u l ih2 =>
                  intro k hk h3
                  unfold Al.nextOf
                  split
                  · rcases h3 0 u rfl with e | e <;> omega
                  · exact ih2 (k + 1) (by omega) (fun j t ht => by
                      rcases h3 (j + 1) t (by simpa using ht) with e | e
                      · left; omega
                      · right; exact e)
              exact this l (i + 1 + 1) (by omega) (fun j t ht => by
                rcases hh (j + 1) t (by simpa using ht) with e | e
                · left; omega
                · right; exact e)
        exact hnn l (fun j t ht => by
          rcases h (j + 1) t (by simpa using ht) with e | e
          · left; omega
          · right; exact e)
theorem fill_id : ∀ (m : List Int) (i : Nat), (∀ j t, m[j]? = some t → t = (i : Int) + (j : Nat) ∨ t = -1) → Al.fill m ((i + m.length : Nat) : Int) i = (List.range' i m.length).map fun k : Nat => (k : Int)
  | [], i, _ => rfl
  | t :: l, i, h => by
    have hl : ∀ j u, l[j]? = some u → u = ((i + 1 : Nat) : Int) + (j : Nat) ∨ u = -1 := fun j u hu => by
      rcases h (j + 1) u (by simpa using hu) with e | e
      · left; omega
      · right; exact e
    have ih := fill_id l (i + 1) hl
    rw [show i + 1 + l.length = i + (t :: l).length by simp; omega] at ih
    rw [List.length_cons, List.range'_succ, List.map_cons, ← ih]
    conv => lhs; unfold Al.fill
    rcases h 0 t rfl with e | e
    · rw [if_pos (by omega)]
      rw [show t = (i : Int) by omega]
      rfl
    · have hn := nextOf_ge l ((i : Int) + 1) ((i + (l.length + 1) : Nat) : Int) (fun j u hu => by
        rcases hl j u hu with e | e
        · left; omega
        · right; exact e) (by omega)
      rw [if_neg (by omega), if_pos (by omega)]
      rfl
theorem setAll_get : ∀ (W : List (Nat × Nat)) (m : List Int) (j : Nat) (t : Int), (Al.setAll m W)[j]? = some t → m[j]? = some t ∨ ∃ p ∈ W, p.1 = j ∧ t = (p.2 : Int)
  | [], m, j, t, h => .inl h
  | p :: W, m, j, t, h => by
    rcases setAll_get W (m.set p.1 (p.2 : Int)) j t h with h | ⟨q, hq, e⟩
    · rw [List.getElem?_set] at h
      split at h
      · rename_i e
        split at h
        · injection h with h
          exact .inr ⟨p, by simp, e, h.symm⟩
        · cases h
      · exact .inl h
    · exact .inr ⟨q, by simp [hq], e⟩
theorem rows_diag {a b : List ByteArray} (hl : a.length = b.length) (h : ∀ p ∈ pairsOf a b, p.1 = p.2) : rowsOf a b = upto a.length := by
  have := fill_id (Al.mapOf a.length (pairsOf a b)) 0 (fun j t ht => by
    rcases setAll_get _ _ _ _ ht with ht | ⟨p, hp, e1, e2⟩
    · right
      rw [List.getElem?_replicate] at ht
      split at ht
      · injection ht with ht; omega
      · cases ht
    · left
      have := h p hp
      omega)
  rw [Al.mapOf_len, Nat.zero_add] at this
  unfold rowsOf upto
  rw [← hl, List.range_eq_range']
  exact this
theorem pairs_same {a b : List ByteArray} {p : Nat × Nat} (h : p ∈ pairsOf a b) : ∃ x, a[p.1]? = some x ∧ b[p.2]? = some x := by
  unfold pairsOf at h
  split at h
  · cases h
  · obtain ⟨_, _, x, e1, e2⟩ := Lcs.W_places a b 0 0 p h
    exact ⟨x, by simpa using e1, by simpa using e2⟩
theorem rows_own {a b : List ByteArray} (hl : a.length = b.length) (h : ∀ (i j : Nat) (x : ByteArray), a[i]? = some x → b[j]? = some x → i = j) : rowsOf a b = upto a.length :=
  rows_diag hl fun p hp => by obtain ⟨x, e1, e2⟩ := pairs_same hp; exact h _ _ x e1 e2
theorem rows_self (a : List ByteArray) (h : a.length ≤ 200) : rowsOf a a = upto a.length :=
  rows_diag rfl fun p hp => by
    rw [pairsOf, if_neg (by omega), Lcs.W_self] at hp
    obtain ⟨j, _, rfl⟩ := List.mem_map.1 hp
    rfl

theorem kept_diag {p q : List ByteArray} {n : Nat} : ∀ {j : Nat}, j ≤ n → ∀ x ∈ keptTo p q (upto n) j, x.1 = x.2 ∧ p[x.1]? = q[x.1]?
  | 0, _, x, h => by simp [keptTo] at h
  | j + 1, hj, x, h => by
    by_cases hh : alikeB p q (upto n) j = true
    · rw [keptTo_yes hh] at h
      rcases List.mem_append.1 h with h | h
      · exact kept_diag (by omega) x h
      · rw [List.mem_singleton] at h
        have hu : (upto n).getD j (-1) = (j : Int) := by simp [List.getD, upto_at (show j < n by omega)]
        obtain ⟨_, _, h3⟩ := of_decide_eq_true hh
        rw [hu] at h3
        subst h
        rw [hu]
        exact ⟨by simp, by simpa using h3⟩
    · rw [keptTo_no hh] at h
      exact kept_diag (by omega) x h
/-- columns stay where the rows that are kept alike have the same texts -/
theorem cols_own {rs ts : List SRow} {ca : Nat} (hl : rs.length = ts.length) (hca : ca ≤ 200) (h : ∀ (i : Nat) (r t : SRow), rs[i]? = some r → ts[i]? = some t → keyOf r.l = keyOf t.l → r.l = t.l) : colsOf rs ts (upto rs.length) ca ca = upto ca := by
  have key : colKeys ts ((keptTo (rowKeys rs) (rowKeys ts) (upto rs.length) rs.length).map Prod.snd) ca = colKeys rs ((keptTo (rowKeys rs) (rowKeys ts) (upto rs.length) rs.length).map Prod.fst) ca := by
    unfold colKeys
    refine List.map_congr_left fun c _ => ?_
    congr 1
    unfold colTexts
    rw [List.map_map, List.map_map]
    refine List.map_congr_left fun x hx => ?_
    obtain ⟨e1, e2⟩ := kept_diag (Nat.le_refl _) x hx
    have hlt := (keptTo_lt x hx).1
    obtain ⟨x1, x2⟩ := x
    dsimp only at e1
    subst e1
    have h1 : rs[x1]? = some rs[x1] := List.getElem?_eq_getElem hlt
    have hlt2 : x1 < ts.length := by omega
    have h2 : ts[x1]? = some ts[x1] := List.getElem?_eq_getElem hlt2
    have e3 : keyOf rs[x1].l = keyOf ts[x1].l := by
      simp only [rowKeys, List.getElem?_map, h1, h2, Option.map_some] at e2
      exact Option.some.inj e2
    have e4 := h x1 _ _ h1 h2 e3
    simp only [Function.comp, cellOf, h1, h2, Option.map_some, e4]
  unfold colsOf
  rw [key, rows_self _ (by rw [colKeys_len]; exact hca), colKeys_len]

theorem bytesOf_inj {s t : ByteArray} (h : bytesOf s = bytesOf t) : s = t := by
  apply ByteArray.ext
  exact Array.toList_inj.1 h
theorem keyOf_texts {l l' : List ByteArray} (h1 : l.length ≤ 1000) (h2 : l'.length ≤ 1000) (s1 : ∀ s ∈ l, s.size ≤ 1048576) (s2 : ∀ s ∈ l', s.size ≤ 1048576) (h : keyOf l = keyOf l') : texts l = texts l' := by
  unfold keyOf at h
  injection h with h
  have h := congrArg Array.toList h
  simp only [] at h
  have sz : ∀ (l : List ByteArray), (∀ s ∈ l, s.size ≤ 1048576) → ∀ s ∈ (texts l).map bytesOf, s.length < 9223372036854775808 := fun l hs s h => by
    obtain ⟨u, hu, rfl⟩ := List.mem_map.1 h
    have := hs u (texts_mem hu)
    rw [bytesOf_len]; omega
  have g1 := Code.getList_put (l := (texts l).map bytesOf) (by have := texts_len l; simp; omega) (sz l s1) []
  have g2 := Code.getList_put (l := (texts l').map bytesOf) (by have := texts_len l'; simp; omega) (sz l' s2) []
  rw [h, g2] at g1
  have e := (Prod.mk.inj (Option.some.inj g1)).1
  have : ∀ (a b : List ByteArray), a.map bytesOf = b.map bytesOf → a = b := by
    intro a
    induction a with
    | nil => intro b hb; cases b with
      | nil => rfl
      | cons _ _ => simp at hb
    | cons x a ih => intro b hb; cases b with
      | nil => simp at hb
      | cons y b => simp at hb; rw [bytesOf_inj hb.1, ih b (by simpa using hb.2)]
  exact (this _ _ e).symm
theorem texts_all {l : List ByteArray} (h : ∀ s ∈ l, s ≠ ByteArray.empty) : texts l = l := List.filter_eq_self.2 fun s hs => by simpa using h s hs
end Go.Proofs.Ythoccmgfpjfkoaa
