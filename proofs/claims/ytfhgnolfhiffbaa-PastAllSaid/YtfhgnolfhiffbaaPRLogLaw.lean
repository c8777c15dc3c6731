/- What chequerref21.Log tells: marks, then places each marked one by depth and Id. No program in sight. -/
import Derived.Test.YtfhgnolfhiffbaaPRefB
import Derived.Test.YtfhgnolfhiffbaaPBaseW
namespace Go.Proofs.Ytfhgnolfhiffbaa
open Go.RowKit Go.Maps
/-- the marks: i and on are closed; of place i - 1 the first j parents are marked -/
structure RS (l : List HC) (x : ByteArray) (k t j : Nat) (R : List Bool) : Prop where
  len : R.length = l.length
  sound : ∀ q c, R[q]? = some true → l[q]? = some c → Reach l x c.id ∧ q ≤ k
  start : R[k]? = some true
  closed : ∀ q c, t ≤ q → R[q]? = some true → l[q]? = some c → ∀ p ∈ c.ps, R[posN (idsOf l) p]? = some true
  part : ∀ q c, q + 1 = t → R[q]? = some true → l[q]? = some c → ∀ j' p, j' < j → c.ps[j']? = some p → R[posN (idsOf l) p]? = some true
section
variable {l : List HC} {x : ByteArray} {k t j : Nat} {R : List Bool}
theorem RS.init {c : HC} (hk : l[k]? = some c) (hc : c.id = x) : RS l x k (k + 1) 0 ((List.replicate l.length false).set k true) := by
  have hkl := (List.getElem?_eq_some_iff.1 hk).1
  have key : ∀ q : Nat, ((List.replicate l.length false).set k true)[q]? = some true → q = k := by
    intro q hq
    rw [List.getElem?_set] at hq
    split at hq
    · rename_i e; exact e.symm
    · rw [List.getElem?_replicate] at hq
      split at hq <;> cases hq
  refine ⟨by simp, fun q d hq hd => ?_, by rw [List.getElem?_set, if_pos rfl, if_pos (by simpa using hkl)], fun q d h1 hq => ?_, fun q d _ _ _ j' p hj => absurd hj (Nat.not_lt_zero j')⟩
  · have e := key q hq
    subst e
    rw [hk] at hd
    injection hd with hd
    subst hd
    rw [hc]
    exact ⟨.refl, Nat.le_refl _⟩
  · have e := key q hq
    omega
theorem RS.mark (hh : Hist l) (h : RS l x k (t + 1) j R) {c : HC} {p : ByteArray} (ht : R[t]? = some true) (hc : l[t]? = some c) (hp : c.ps[j]? = some p) : RS l x k (t + 1) (j + 1) (R.set (posN (idsOf l) p) true) := by
  have hpt := hh.ahead t c hc p (List.mem_of_getElem? hp)
  have htl := (List.getElem?_eq_some_iff.1 hc).1
  have hst := h.sound t c ht hc
  have keep : ∀ q : Nat, R[q]? = some true → (R.set (posN (idsOf l) p) true)[q]? = some true := by
    intro q hq
    rw [List.getElem?_set]
    split
    · rename_i e
      rw [if_pos (by rw [h.len]; omega)]
    · exact hq
  have back : ∀ q : Nat, (R.set (posN (idsOf l) p) true)[q]? = some true → q = posN (idsOf l) p ∨ R[q]? = some true := by
    intro q hq
    rw [List.getElem?_set] at hq
    split at hq
    · rename_i e; exact .inl e.symm
    · exact .inr hq
  have hpr : Reach l x p := .step hst.1 (by rw [psOf_at (by rw [hh.once t c hc]; exact hc)]; exact List.mem_of_getElem? hp)
  refine ⟨by simp [h.len], fun q d hq hd => ?_, keep _ h.start, fun q d h1 hq hd r hr => ?_, fun q d h1 hq hd j' r hj hr => ?_⟩
  · rcases back q hq with e | e
    · subst e
      obtain ⟨z, hz, hzp⟩ := posN_id (l := l) (x := p) (by omega)
      rw [hz] at hd
      injection hd with hd
      subst hd
      rw [hzp]
      exact ⟨hpr, by omega⟩
    · exact h.sound q d e hd
  · rcases back q hq with e | e
    · omega
    · exact keep _ (h.closed q d h1 e hd r hr)
  · rcases back q hq with e | e
    · omega
    · obtain rfl : q = t := by omega
      rcases Nat.lt_or_ge j' j with h5 | h5
      · exact keep _ (h.part q d rfl e hd j' r h5 hr)
      · obtain rfl : j' = j := by omega
        rw [hc] at hd
        injection hd with hd
        subst hd
        rw [hp] at hr
        injection hr with hr
        subst hr
        rw [List.getElem?_set, if_pos rfl, if_pos (by rw [h.len]; omega)]
theorem RS.over (h : RS l x k (t + 1) j R) {c : HC} (hc : l[t]? = some c) (hj : R[t]? = some true → c.ps.length ≤ j) : RS l x k t 0 R := by
  refine ⟨h.len, h.sound, h.start, fun q d h1 hq hd p hp => ?_, fun q d _ _ _ j' p hj => absurd hj (Nat.not_lt_zero j')⟩
  rcases Nat.lt_or_ge t q with h2 | h2
  · exact h.closed q d h2 hq hd p hp
  · obtain rfl : q = t := by omega
    rw [hc] at hd
    injection hd with hd
    subst hd
    obtain ⟨j', hj'⟩ := List.mem_iff_getElem?.1 hp
    exact h.part q c rfl hq hc j' p (by have := (List.getElem?_eq_some_iff.1 hj').1; have := hj hq; omega) hj'
theorem RS.done (hh : Hist l) (h : RS l x k 0 0 R) {c : HC} (hk : l[k]? = some c) (hc : c.id = x) (s : ByteArray) : Reach l x s → s ∈ idsOf l ∧ R[posN (idsOf l) s]? = some true := by
  have hxi : x ∈ idsOf l := by rw [← hc]; exact List.mem_map.2 ⟨c, List.mem_of_getElem? hk, rfl⟩
  intro hr
  induction hr with
  | refl => exact ⟨hxi, by rw [← hc, hh.once k c hk]; exact h.start⟩
  | step hxs hp ih =>
    obtain ⟨hs, hq⟩ := ih
    obtain ⟨y, hy, hys⟩ := posN_id (mem_ids.1 hs)
    refine ⟨(dep_lt hh hs hp).2, h.closed _ y (Nat.zero_le _) hq hy _ ?_⟩
    rw [← hys] at hp
    rwa [psOf_at (by rw [hys]; exact hy)] at hp
/-- the list, with those of the first i that are marked -/
structure IS (l : List HC) (R : List Bool) (i : Nat) (out : List ByteArray) : Prop where
  sorted : out.Pairwise (fun s t => ndLe (s, dep l s) (t, dep l t))
  nodup : out.Nodup
  mem : ∀ s, s ∈ out ↔ ∃ q c, q < i ∧ R[q]? = some true ∧ l[q]? = some c ∧ s = c.id
theorem IS.init : IS l R 0 [] := ⟨List.Pairwise.nil, List.nodup_nil, fun s => ⟨fun h => (by cases h), fun ⟨q, _, h, _⟩ => absurd h (Nat.not_lt_zero q)⟩⟩
theorem IS.skip {i : Nat} {out : List ByteArray} (h : IS l R i out) (hi : ¬ R[i]? = some true) : IS l R (i + 1) out := by
  refine ⟨h.sorted, h.nodup, fun s => (h.mem s).trans ⟨fun ⟨q, c, h1, h2⟩ => ⟨q, c, by omega, h2⟩, fun ⟨q, c, h1, h2, h3⟩ => ⟨q, c, ?_, h2, h3⟩⟩⟩
  rcases Nat.lt_or_ge q i with h4 | h4
  · exact h4
  · obtain rfl : q = i := by omega
    exact absurd h2 hi
theorem IS.put (hh : Hist l) {i n : Nat} {c : HC} {out : List ByteArray} (h : IS l R i out) (hi : R[i]? = some true) (hc : l[i]? = some c)
    (hlt : ∀ q s, q < n → out[q]? = some s → ndLe (s, dep l s) (c.id, dep l c.id)) (hge : ∀ s, out[n]? = some s → ndLe (c.id, dep l c.id) (s, dep l s)) : IS l R (i + 1) (out.take n ++ [c.id] ++ out.drop n) := by
  have hnew : c.id ∉ out := by
    intro h2
    obtain ⟨q, d, h3, _, h5, h6⟩ := (h.mem _).1 h2
    have e1 := hh.once q d h5
    have e2 := hh.once i c hc
    rw [h6] at e2
    omega
  have hperm : (out.take n ++ [c.id] ++ out.drop n).Perm (c.id :: out) := by
    have h1 : (out.take n ++ [c.id] ++ out.drop n).Perm ([c.id] ++ out.take n ++ out.drop n) := List.Perm.append_right _ List.perm_append_comm
    refine h1.trans ?_
    rw [List.append_assoc, List.take_append_drop]
    rfl
  have hs := h.sorted
  have htd := hs
  rw [← List.take_append_drop n out] at htd
  obtain ⟨s1, s2, s3⟩ := List.pairwise_append.1 htd
  have lt : ∀ s ∈ out.take n, ndLe (s, dep l s) (c.id, dep l c.id) := by
    intro s hs
    obtain ⟨q, hq⟩ := List.mem_iff_getElem?.1 hs
    rw [List.getElem?_take] at hq
    split at hq
    · rename_i h7; exact hlt q s h7 hq
    · cases hq
  have ge : ∀ s ∈ out.drop n, ndLe (c.id, dep l c.id) (s, dep l s) := by
    intro s hs9
    cases hd : out.drop n with
    | nil => rw [hd] at hs9; cases hs9
    | cons y r =>
      have hy : out[n]? = some y := by
        have := congrArg (·[0]?) hd
        simpa using this
      rw [hd] at hs9 s2
      rcases List.mem_cons.1 hs9 with rfl | h8
      · exact hge _ hy
      · exact (hge _ hy).trans ((List.pairwise_cons.1 s2).1 s h8)
  refine ⟨?_, hperm.nodup_iff.2 (List.nodup_cons.2 ⟨hnew, h.nodup⟩), fun s => ?_⟩
  · refine List.pairwise_append.2 ⟨List.pairwise_append.2 ⟨s1, by simp, fun a ha b hb => ?_⟩, s2, fun a ha b hb => ?_⟩
    · simp only [List.mem_cons, List.not_mem_nil, or_false] at hb
      subst hb
      exact lt a ha
    · rcases List.mem_append.1 ha with ha | ha
      · exact s3 a ha b hb
      · simp only [List.mem_cons, List.not_mem_nil, or_false] at ha
        subst ha
        exact ge b hb
  · rw [hperm.mem_iff, List.mem_cons, h.mem s]
    constructor
    · rintro (rfl | ⟨q, d, h1, h2⟩)
      · exact ⟨i, c, by omega, hi, hc, rfl⟩
      · exact ⟨q, d, by omega, h2⟩
    · rintro ⟨q, d, h1, h2, h3, h4⟩
      rcases Nat.lt_or_ge q i with h5 | h5
      · exact .inr ⟨q, d, h5, h2, h3, h4⟩
      · obtain rfl : q = i := by omega
        rw [hc] at h3
        injection h3 with h3
        subst h3
        exact .inl h4
theorem IS.log (hh : Hist l) {c : HC} (hk : l[k]? = some c) (hc : c.id = x) (hR : RS l x k 0 0 R) {out : List ByteArray} (h : IS l R l.length out) : LogIs l x out := by
  have hxi : x ∈ idsOf l := by rw [← hc]; exact List.mem_map.2 ⟨c, List.mem_of_getElem? hk, rfl⟩
  refine ⟨h.nodup, fun s hs => ?_, h.sorted, fun s => (h.mem s).trans ⟨fun ⟨q, d, _, h2, h3, h4⟩ => h4 ▸ (hR.sound q d h2 h3).1, fun hr => ?_⟩⟩
  · obtain ⟨q, d, _, _, h3, rfl⟩ := (h.mem s).1 hs
    exact List.mem_map.2 ⟨d, List.mem_of_getElem? h3, rfl⟩
  · obtain ⟨h1, h2⟩ := hR.done hh hk hc s hr
    obtain ⟨y, hy, hys⟩ := posN_id (mem_ids.1 h1)
    exact ⟨_, y, mem_ids.1 h1, h2, hy, hys.symm⟩
end
theorem log_one {l : List HC} {a : ByteArray} {g o : List ByteArray} (hg : LogIs l a g) (ho : LogIs l a o) : g = o := by
  have hp : g.Perm o := (List.perm_ext_iff_of_nodup hg.nodup ho.nodup).2 (fun s => (hg.reach s).trans (ho.reach s).symm)
  refine List.Perm.eq_of_pairwise (fun s t _ _ h1 h2 => ?_) hg.sorted ho.sorted hp
  have := ndLe_anti h1 h2
  injection this
theorem nd_lt {s t : ByteArray} {d e : Int} (h : e < d ∨ d = e ∧ Op.bytesLess s.toList t.toList = true) : ndLe (s, d) (t, e) := by
  rcases h with h | ⟨rfl, h⟩
  · exact ndLe_deeper h
  · unfold ndLe
    rw [ndCmp_lex]
    unfold lex
    simp only [icmp_eq (Int.le_refl d) (Int.le_refl d), ne_eq, not_true_eq_false, if_false]
    unfold scmp
    rw [if_pos h]
    decide
theorem nd_ge {s t : ByteArray} {d e : Int} (h : ¬ (e < d ∨ d = e ∧ Op.bytesLess s.toList t.toList = true)) : ndLe (t, e) (s, d) := by
  rcases Int.lt_or_le d e with k | k
  · exact ndLe_deeper k
  · have e1 : d = e := by omega
    subst e1
    have h2 : ¬ Op.bytesLess s.toList t.toList = true := fun h9 => h (.inr ⟨rfl, h9⟩)
    refine ndLe_of_not ?_
    rw [ndCmp_lex]
    unfold lex
    simp only [icmp_eq (Int.le_refl d) (Int.le_refl d), ne_eq, not_true_eq_false, if_false]
    unfold scmp
    rw [if_neg h2]
    split <;> omega
end Go.Proofs.Ytfhgnolfhiffbaa
