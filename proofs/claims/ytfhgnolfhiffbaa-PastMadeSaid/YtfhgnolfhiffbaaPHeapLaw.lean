/- The heap: what comes first is ahead of all, and nothing is lost. No program in sight. -/
import Derived.Test.YtfhgnolfhiffbaaPUp
namespace Go.Proofs.Ytfhgnolfhiffbaa
open Go.RowKit
theorem Cmp3.flip {α : Type} {f : α → α → Int} (h : Cmp3 f) : Cmp3 (fun a b => f b a) :=
  ⟨fun a b => h.range b a, fun a b => h.anti b a, fun a b c h1 h2 => h.le c b a h2 h1⟩
theorem ndCmp_lex (a b : Nd) : ndCmp a b = lex (fun x y => icmp y x) scmp (a.2, a.1) (b.2, b.1) := by
  show (if icmp b.2 a.2 ≠ 0 then icmp b.2 a.2 else if scmp a.1 b.1 ≠ 0 then scmp a.1 b.1 else 0) = (if icmp b.2 a.2 ≠ 0 then icmp b.2 a.2 else scmp a.1 b.1)
  by_cases h : scmp a.1 b.1 ≠ 0
  · rw [if_pos h]
  · rw [if_neg h]
    have : scmp a.1 b.1 = 0 := by omega
    rw [this]
theorem ndCmp3 : Cmp3 ndCmp := by
  have h : Cmp3 (lex (fun x y : Int => icmp y x) scmp) := icmp3.flip.lex scmp3
  refine ⟨fun a b => ?_, fun a b => ?_, fun a b c h1 h2 => ?_⟩
  · rw [ndCmp_lex]; exact h.range _ _
  · rw [ndCmp_lex, ndCmp_lex]; exact h.anti _ _
  · rw [ndCmp_lex] at h1 h2 ⊢; exact h.le _ _ _ h1 h2
theorem ndCmp_eq {a b : Nd} (h : ndCmp a b = 0) : a = b := by
  rw [ndCmp_lex] at h
  unfold lex at h
  by_cases h1 : icmp b.2 a.2 ≠ 0
  · rw [if_pos h1] at h; exact absurd h h1
  · rw [if_neg h1] at h
    have h2 : icmp b.2 a.2 = 0 := by omega
    have e2 : a.2 = b.2 := by
      unfold icmp at h2
      split at h2
      · omega
      · split at h2 <;> omega
    have e1 : a.1 = b.1 := by
      simp only at h
      rcases three a.1 b.1 with q | q | q
      · rw [scmp_lt q] at h; omega
      · exact q
      · rw [scmp_gt q] at h; omega
    obtain ⟨x, y⟩ := a
    obtain ⟨z, t⟩ := b
    simp only at e1 e2
    rw [e1, e2]
/-- a is not behind b -/
def ndLe (a b : Nd) : Prop := ndCmp a b ≤ 0
theorem ndLe.trans {a b c : Nd} (h : ndLe a b) (k : ndLe b c) : ndLe a c := ndCmp3.le _ _ _ h k
theorem ndLe_of_not {a b : Nd} (h : ¬ ndCmp b a < 0) : ndLe a b := by unfold ndLe; rw [ndCmp3.anti b a]; omega
theorem ndLe_of_lt {a b : Nd} (h : ndCmp a b < 0) : ndLe a b := by unfold ndLe; omega
theorem ndLe.refl (a : Nd) : ndLe a a := ndLe_of_not (by have := ndCmp3.anti a a; omega)
theorem lessL_iff {L : List Nd} {i k : Nat} : lessL L i k = true ↔ ndCmp (L.getD i nd0) (L.getD k nd0) < 0 := by simp [lessL]
theorem lessL_not {L : List Nd} {i k : Nat} (h : ¬ lessL L i k = true) : ndLe (L.getD k nd0) (L.getD i nd0) := ndLe_of_not (fun h2 => h (lessL_iff.2 h2))
section
variable {L : List Nd} {i k m : Nat}
theorem swapD_l (hi : i < L.length) (hne : i ≠ k) : (swapL L i k).getD i nd0 = L.getD k nd0 := by
  unfold swapL
  simp [List.getD, hi, Ne.symm hne]
theorem swapD_r (hk : k < L.length) : (swapL L i k).getD k nd0 = L.getD i nd0 := by
  unfold swapL
  simp [List.getD, hk]
theorem swapD_o (h1 : m ≠ i) (h2 : m ≠ k) : (swapL L i k).getD m nd0 = L.getD m nd0 := by
  rw [List.getD_eq_getElem?_getD, List.getD_eq_getElem?_getD, swapL_get h1 h2]
theorem swap_perm (hi : i < L.length) (hk : k < L.length) : (swapL L i k).Perm L := by
  have h := Array.swap_perm (xs := L.toArray) (i := i) (j := k) (by simpa using hi) (by simpa using hk)
  have h2 := Array.perm_iff_toList_perm.1 h
  rw [Array.toList_swap] at h2
  simp only [List.getElem_toArray] at h2
  unfold swapL
  have e1 : L.getD k nd0 = L[k] := by simp [List.getD, hk]
  have e2 : L.getD i nd0 = L[i] := by simp [List.getD, hi]
  rw [e1, e2]
  exact h2
end
/-- a heap in the first n -/
def Up (L : List Nd) (n : Nat) : Prop := ∀ k, 0 < k → k < n → ndLe (L.getD ((k - 1) / 2) nd0) (L.getD k nd0)
theorem Up.first {L : List Nd} {n : Nat} (h : Up L n) : ∀ k, k < n → ndLe (L.getD 0 nd0) (L.getD k nd0) := by
  intro k
  induction k using Nat.strongRecOn with
  | ind k ih =>
    intro hk
    by_cases h0 : k = 0
    · subst h0; exact ndLe.refl _
    · exact (ih _ (by omega) (by omega)).trans (h k (by omega) hk)
theorem upL_heap : ∀ (j : Nat) (L : List Nd), j < L.length → (∀ k, 0 < k → k < L.length → k ≠ j → ndLe (L.getD ((k - 1) / 2) nd0) (L.getD k nd0)) →
    (∀ k, 0 < k → k < L.length → (k - 1) / 2 = j → 0 < j → ndLe (L.getD ((j - 1) / 2) nd0) (L.getD k nd0)) → Up (upL L j) L.length ∧ (upL L j).Perm L := by
  intro j
  induction j using Nat.strongRecOn with
  | ind j ih =>
    intro L hj h1 h2
    rw [upL]
    by_cases h0 : j = 0
    · rw [if_pos h0]
      exact ⟨fun k hk hkl => h1 k hk hkl (by omega), List.Perm.refl _⟩
    · rw [if_neg h0]
      obtain ⟨i, hi⟩ : ∃ i, (j - 1) / 2 = i := ⟨_, rfl⟩
      rw [hi]
      have hij : i < j := by omega
      by_cases hl : lessL L j i = true
      · rw [if_pos hl]
        have hlt := ndLe_of_lt (lessL_iff.1 hl)
        have hlen := swapL_len L i j
        have hr := ih i hij (swapL L i j) (by rw [hlen]; omega) (fun k hk hkl hki => ?_) (fun k hk hkl hpk hi0 => ?_)
        · rw [hlen] at hr
          exact ⟨hr.1, hr.2.trans (swap_perm (by omega) hj)⟩
        · rw [hlen] at hkl
          by_cases hkj : k = j
          · subst hkj
            rw [hi, swapD_l (by omega) (by omega), swapD_r hj]
            exact hlt
          · rw [swapD_o (m := k) hki hkj]
            by_cases hp1 : (k - 1) / 2 = i
            · rw [hp1, swapD_l (by omega) (by omega)]
              have := h1 k hk hkl hkj
              rw [hp1] at this
              exact hlt.trans this
            · by_cases hp2 : (k - 1) / 2 = j
              · rw [hp2, swapD_r hj]
                have := h2 k hk hkl hp2 (by omega)
                rw [hi] at this
                exact this
              · rw [swapD_o hp1 hp2]
                exact h1 k hk hkl hkj
        · rw [hlen] at hkl
          rw [swapD_o (m := (i - 1) / 2) (by omega) (by omega)]
          have hpi := h1 i hi0 (by omega) (by omega)
          by_cases hkj : k = j
          · subst hkj
            rw [swapD_r hj]
            exact hpi
          · rw [swapD_o (m := k) (by omega) hkj]
            have := h1 k hk hkl hkj
            rw [hpk] at this
            exact hpi.trans this
      · rw [if_neg hl]
        refine ⟨fun k hk hkl => ?_, List.Perm.refl _⟩
        by_cases hkj : k = j
        · subst hkj
          rw [hi]
          exact lessL_not hl
        · exact h1 k hk hkl hkj
theorem downJ_spec {L : List Nd} {i n : Nat} (h : ¬ n ≤ 2 * i + 1) : downJ L i n < n ∧ (downJ L i n - 1) / 2 = i ∧ i < downJ L i n ∧ ∀ k, 0 < k → k < n → (k - 1) / 2 = i → ndLe (L.getD (downJ L i n) nd0) (L.getD k nd0) := by
  unfold downJ
  by_cases hc : 2 * i + 1 + 1 < n ∧ lessL L (2 * i + 1 + 1) (2 * i + 1) = true
  · rw [if_pos hc]
    refine ⟨hc.1, by omega, by omega, fun k hk hkn hp => ?_⟩
    rcases (by omega : k = 2 * i + 1 + 1 ∨ k = 2 * i + 1) with rfl | rfl
    · exact ndLe.refl _
    · exact ndLe_of_lt (lessL_iff.1 hc.2)
  · rw [if_neg hc]
    refine ⟨by omega, by omega, by omega, fun k hk hkn hp => ?_⟩
    rcases (by omega : k = 2 * i + 1 + 1 ∨ k = 2 * i + 1) with rfl | rfl
    · exact lessL_not (fun h2 => hc ⟨hkn, h2⟩)
    · exact ndLe.refl _
theorem downL_heap (n : Nat) : ∀ (f : Nat) (L : List Nd) (i : Nat), n - i ≤ f → n ≤ L.length → (∀ k, 0 < k → k < n → (k - 1) / 2 ≠ i → ndLe (L.getD ((k - 1) / 2) nd0) (L.getD k nd0)) →
    (∀ k, 0 < k → k < n → (k - 1) / 2 = i → 0 < i → ndLe (L.getD ((i - 1) / 2) nd0) (L.getD k nd0)) → Up (downL L i n) n ∧ (downL L i n).Perm L := by
  intro f
  induction f with
  | zero =>
    intro L i hf hn h1 h2
    rw [downL, if_pos (by omega)]
    exact ⟨fun k hk hkn => h1 k hk hkn (by omega), List.Perm.refl _⟩
  | succ f ih =>
    intro L i hf hn h1 h2
    rw [downL]
    by_cases he : n ≤ 2 * i + 1
    · rw [if_pos he]
      exact ⟨fun k hk hkn => h1 k hk hkn (by omega), List.Perm.refl _⟩
    · rw [if_neg he]
      obtain ⟨hjn, hpj, hij, hmin⟩ := downJ_spec (L := L) he
      obtain ⟨j, hj⟩ : ∃ j, downJ L i n = j := ⟨_, rfl⟩
      rw [hj] at hjn hpj hij hmin ⊢
      by_cases hl : lessL L j i = true
      · rw [if_pos hl]
        have hlt := ndLe_of_lt (lessL_iff.1 hl)
        have hlen := swapL_len L i j
        have hr := ih (swapL L i j) j (by omega) (by omega) (fun k hk hkn hpk => ?_) (fun k hk hkn hpk hj0 => ?_)
        · exact ⟨hr.1, hr.2.trans (swap_perm (by omega) (by omega))⟩
        · by_cases hp : (k - 1) / 2 = i
          · rw [hp, swapD_l (by omega) (by omega)]
            by_cases hkj : k = j
            · subst hkj
              rw [swapD_r (by omega)]
              exact hlt
            · rw [swapD_o (m := k) (by omega) hkj]
              exact hmin k hk hkn hp
          · rw [swapD_o (m := (k - 1) / 2) hp hpk]
            by_cases hki : k = i
            · subst hki
              rw [swapD_l (by omega) (by omega)]
              exact h2 j (by omega) hjn hpj hk
            · have hkj : k ≠ j := fun e => hp (e ▸ hpj)
              rw [swapD_o (m := k) hki hkj]
              exact h1 k hk hkn hp
        · rw [hpj, swapD_l (by omega) (by omega), swapD_o (m := k) (by omega) (by omega)]
          have := h1 k hk hkn (by omega)
          rw [hpk] at this
          exact this
      · rw [if_neg hl]
        refine ⟨fun k hk hkn => ?_, List.Perm.refl _⟩
        by_cases hp : (k - 1) / 2 = i
        · rw [hp]
          exact (lessL_not hl).trans (hmin k hk hkn hp)
        · exact h1 k hk hkn hp
theorem hpush_heap {L : List Nd} (h : Up L L.length) (x : Nd) : Up (hpushL L x) (hpushL L x).length ∧ (hpushL L x).Perm (L ++ [x]) := by
  have hg : ∀ m, m < L.length → (L ++ [x]).getD m nd0 = L.getD m nd0 := fun m hm => by
    simp [List.getD, List.getElem?_append_left hm]
  have hr := upL_heap L.length (L ++ [x]) (by simp) (fun k hk hkl hne => by
    have hkl2 : k < L.length := by simp at hkl; omega
    rw [hg _ hkl2, hg _ (by omega)]
    exact h k hk hkl2) (fun k hk hkl hp hj => by simp at hkl; omega)
  have hlen : (hpushL L x).length = (L ++ [x]).length := upL_len _ _
  rw [hlen]
  exact hr
theorem hpop_heap {L : List Nd} (h : Up L L.length) {x : Nd} (hx : L[0]? = some x) : Up (hpopL L) (hpopL L).length ∧ (x :: hpopL L).Perm L ∧ ∀ y ∈ L, ndLe x y := by
  have hl0 : 0 < L.length := (List.getElem?_eq_some_iff.1 hx).1
  obtain ⟨n, hn⟩ : ∃ n, L.length - 1 = n := ⟨_, rfl⟩
  have hlen := swapL_len L 0 n
  have hr := downL_heap n n (swapL L 0 n) 0 (by omega) (by omega) (fun k hk hkn hp => by
    rw [swapD_o (m := k) (by omega) (by omega), swapD_o (by omega) (by omega)]
    exact h k hk (by omega)) (fun k _ _ _ h0 => absurd h0 (by omega))
  have hdl : (downL (swapL L 0 n) 0 n).length = L.length := by rw [downL_len n n _ _ (by omega), hlen]
  have hlast : (downL (swapL L 0 n) 0 n)[n]? = some x := by rw [downL_get _ _ _ (Nat.zero_le _)]; exact swap_last hn hl0 hx
  have hpl : (hpopL L).length = n := by unfold hpopL; rw [hn, List.length_take, hdl]; omega
  refine ⟨?_, ?_, fun y hy => ?_⟩
  · rw [hpl]
    intro k hk hkn
    have hg : ∀ m, m < n → (hpopL L).getD m nd0 = (downL (swapL L 0 n) 0 n).getD m nd0 := fun m hm => by
      unfold hpopL
      rw [hn]
      simp [List.getD, hm]
    rw [hg _ hkn, hg _ (by omega)]
    exact hr.1 k hk hkn
  · have e : downL (swapL L 0 n) 0 n = hpopL L ++ [x] := by
      unfold hpopL
      rw [hn]
      conv => lhs; rw [← List.take_append_drop n (downL (swapL L 0 n) 0 n)]
      congr 1
      obtain ⟨hd, e1⟩ := List.getElem?_eq_some_iff.1 hlast
      rw [List.drop_eq_getElem_cons hd, e1]
      congr 1
      exact List.drop_eq_nil_of_le (by omega)
    have p1 : (hpopL L ++ [x]).Perm L := by rw [← e]; exact hr.2.trans (swap_perm hl0 (by omega))
    exact (List.perm_append_comm (l₁ := [x]) (l₂ := hpopL L)).trans p1
  · obtain ⟨k, hk, e⟩ := List.mem_iff_getElem.1 hy
    have := h.first k hk
    have e0 : L.getD 0 nd0 = x := by simp [List.getD, hx]
    have ek : L.getD k nd0 = y := by simp [List.getD, hk, e]
    rw [e0, ek] at this
    exact this
end Go.Proofs.Ytfhgnolfhiffbaa
