/- What past.Log tells: what is reached from a commit, the deepest first. No program in sight (but for the facts it stands on). -/
import Derived.Test.YtfhgnolfhiffbaaPHeapLaw
import Derived.Test.YtfhgnolfhiffbaaPDepth
namespace Go.Proofs.Ytfhgnolfhiffbaa
open Go.RowKit
def dep (l : List HC) (s : ByteArray) : Int := (depF l s).getD 0
def psOf (l : List HC) (s : ByteArray) : List ByteArray := match l[posN (idsOf l) s]? with | some c => c.ps | none => []
inductive Reach (l : List HC) (a : ByteArray) : ByteArray → Prop where
  | refl : Reach l a a
  | step {x p : ByteArray} : Reach l a x → p ∈ psOf l x → Reach l a p
theorem psOf_at {l : List HC} {c : HC} (hc : l[posN (idsOf l) c.id]? = some c) : psOf l c.id = c.ps := by
  unfold psOf
  rw [hc]
theorem mem_ids {l : List HC} {s : ByteArray} : s ∈ idsOf l ↔ posN (idsOf l) s < l.length := by
  rw [← idsOf_len]
  constructor
  · intro h
    exact List.findIdx_lt_length_of_exists ⟨s, h, by simp⟩
  · intro h
    have h1 := List.findIdx_getElem (w := h)
    simp only [decide_eq_true_eq] at h1
    rw [← h1]
    exact List.getElem_mem _
theorem depF_other {l : List HC} (h : Hist l) {s : ByteArray} : ∀ (m k : Nat), posN (idsOf l) s < k → k ≤ m → m ≤ l.length → depF (l.take m) s = depF (l.take k) s := by
  intro m k hk hkm
  induction m with
  | zero => intro _; omega
  | succ m ih =>
    intro hm
    by_cases e : k = m + 1
    · rw [e]
    · obtain ⟨y, hy⟩ : ∃ y, l[m]? = some y := ⟨_, List.getElem?_eq_getElem (by omega)⟩
      rw [depF_snoc hy]
      unfold depStep
      rw [if_neg, ih (by omega) (by omega)]
      intro e2
      have := h.once m y hy
      rw [← e2] at this
      omega
theorem dN_ge {f : ByteArray → Option Int} {ps : List ByteArray} {p : ByteArray} (h : p ∈ ps) : (f p).getD 0 + 1 ≤ dN f ps := by
  unfold dN
  have mono : ∀ (ps : List ByteArray) (n : Int), n ≤ ps.foldl (fun n p => max n ((f p).getD 0 + 1)) n := by
    intro ps
    induction ps with
    | nil => intro n; exact Int.le_refl _
    | cons x r ih => intro n; simp only [List.foldl_cons]; have := ih (max n ((f x).getD 0 + 1)); omega
  have : ∀ (ps : List ByteArray) (n : Int), p ∈ ps → (f p).getD 0 + 1 ≤ ps.foldl (fun n p => max n ((f p).getD 0 + 1)) n := by
    intro ps
    induction ps with
    | nil => intro n hp; cases hp
    | cons x r ih =>
      intro n hp
      simp only [List.foldl_cons]
      rcases List.mem_cons.1 hp with rfl | hp
      · have := mono r (max n ((f p).getD 0 + 1)); omega
      · exact ih _ hp
  exact this ps 0 h
/-- a parent is less deep -/
theorem dep_lt {l : List HC} (h : Hist l) {s p : ByteArray} (hs : s ∈ idsOf l) (hp : p ∈ psOf l s) : dep l p < dep l s ∧ p ∈ idsOf l := by
  obtain ⟨c, hc, rfl⟩ := posN_id (mem_ids.1 hs)
  rw [psOf_at hc] at hp
  obtain ⟨i, hi⟩ : ∃ i, posN (idsOf l) c.id = i := ⟨_, rfl⟩
  rw [hi] at hc
  have hil := (List.getElem?_eq_some_iff.1 hc).1
  have hpi := h.ahead i c hc p hp
  refine ⟨?_, mem_ids.2 (by omega)⟩
  have e1 : depF l c.id = some (dN (depF (l.take i)) c.ps) := by
    have := depF_other h (s := c.id) l.length (i + 1) (by omega) (by omega) (Nat.le_refl _)
    rw [List.take_length] at this
    rw [this, depF_snoc hc]
    unfold depStep
    rw [if_pos rfl]
  have e2 : depF l p = depF (l.take i) p := by
    have := depF_other h (s := p) l.length i hpi (by omega) (Nat.le_refl _)
    rw [List.take_length] at this
    exact this
  unfold dep
  rw [e1, e2]
  have := dN_ge (f := depF (l.take i)) hp
  simp only [Option.getD_some]
  omega
theorem ndLe_deeper {s p : ByteArray} {d e : Int} (h : e < d) : ndLe (s, d) (p, e) := by
  unfold ndLe
  rw [ndCmp_lex]
  unfold lex
  simp only
  have : icmp e d = -1 := icmp_lt h
  rw [this, if_pos (by decide)]
  decide
/-- all that stands in the log and the queue -/
abbrev allS (q : List Nd) (out : List ByteArray) : List ByteArray := out ++ q.map Prod.fst
structure LS (l : List HC) (a : ByteArray) (q : List Nd) (out : List ByteArray) (pend : ByteArray → List ByteArray) : Prop where
  heap : Up q q.length
  nodup : (allS q out).Nodup
  ids : ∀ s ∈ allS q out, s ∈ idsOf l
  deps : ∀ nd ∈ q, nd.2 = dep l nd.1
  sorted : out.Pairwise (fun s t => ndLe (s, dep l s) (t, dep l t))
  ahead : ∀ o ∈ out, ∀ nd ∈ q, ndLe (o, dep l o) nd
  reach : ∀ s ∈ allS q out, Reach l a s
  first : a ∈ allS q out
  closed : ∀ o ∈ out, ∀ p ∈ psOf l o, p ∈ allS q out ∨ p ∈ pend o
theorem LS.init {l : List HC} {a : ByteArray} (ha : a ∈ idsOf l) : LS l a [(a, dep l a)] [] (fun _ => []) :=
  ⟨fun k hk hk1 => absurd hk1 (by simp; omega), by simp [allS], by simpa [allS] using ha, by simp, List.Pairwise.nil, by simp, fun s hs => by simp [allS] at hs; subst hs; exact .refl, by simp [allS], by simp⟩
theorem allS_perm {q q' : List Nd} {x : Nd} {out : List ByteArray} (h : (x :: q').Perm q) : (allS q' (out ++ [x.1])).Perm (allS q out) := by
  unfold allS
  rw [List.append_assoc]
  exact List.Perm.append_left _ (h.map Prod.fst)
theorem LS.pop {l : List HC} {a : ByteArray} {q : List Nd} {out : List ByteArray} (h : LS l a q out (fun _ => [])) {x : Nd} (hx : q[0]? = some x) :
    LS l a (hpopL q) (out ++ [x.1]) (fun o => if o = x.1 then psOf l x.1 else []) := by
  obtain ⟨h1, h2, h3⟩ := hpop_heap h.heap hx
  have hp := allS_perm (out := out) h2
  have hxq : x ∈ q := h2.mem_iff.1 (by simp)
  have hx2 := h.deps x hxq
  have hx3 : (x.1, dep l x.1) = x := by rw [← hx2]
  have hsub : ∀ nd ∈ hpopL q, nd ∈ q := fun nd hnd => h2.mem_iff.1 (by simp [hnd])
  refine ⟨h1, hp.nodup_iff.2 h.nodup, fun s hs => h.ids s (hp.mem_iff.1 hs), fun nd hnd => h.deps nd (hsub nd hnd), ?_, fun o ho nd hnd => ?_, fun s hs => h.reach s (hp.mem_iff.1 hs), hp.mem_iff.2 h.first, fun o ho p hpo => ?_⟩
  · refine List.pairwise_append.2 ⟨h.sorted, by simp, fun s hs t ht => ?_⟩
    simp only [List.mem_cons, List.not_mem_nil, or_false] at ht
    subst ht
    rw [hx3]
    exact h.ahead s hs x hxq
  · rcases List.mem_append.1 ho with ho | ho
    · exact h.ahead o ho nd (hsub nd hnd)
    · simp only [List.mem_cons, List.not_mem_nil, or_false] at ho
      subst ho
      rw [hx3]
      exact h3 nd (hsub nd hnd)
  · rcases List.mem_append.1 ho with ho | ho
    · rcases h.closed o ho p hpo with h4 | h4
      · exact .inl (hp.mem_iff.2 h4)
      · cases h4
    · simp only [List.mem_cons, List.not_mem_nil, or_false] at ho
      subst ho
      right
      rw [if_pos rfl]
      exact hpo
theorem LS.skip {l : List HC} {a y p : ByteArray} {q : List Nd} {out r : List ByteArray} (h : LS l a q out (fun o => if o = y then p :: r else [])) (hp : p ∈ allS q out) : LS l a q out (fun o => if o = y then r else []) := by
  refine ⟨h.heap, h.nodup, h.ids, h.deps, h.sorted, h.ahead, h.reach, h.first, fun o ho s hs => ?_⟩
  rcases h.closed o ho s hs with h4 | h4
  · exact .inl h4
  · by_cases e : o = y
    · rw [if_pos e] at h4
      rw [if_pos e]
      rcases List.mem_cons.1 h4 with h4 | h4
      · exact .inl (h4 ▸ hp)
      · exact .inr h4
    · rw [if_neg e] at h4
      cases h4
theorem LS.push {l : List HC} (hh : Hist l) {a y p : ByteArray} {q : List Nd} {out r : List ByteArray} (h : LS l a q out (fun o => if o = y then p :: r else [])) (hp : p ∉ allS q out) (hy : y ∈ out) (hpy : p ∈ psOf l y) (hlast : ∀ o ∈ out, ndLe (o, dep l o) (y, dep l y)) :
    LS l a (hpushL q (p, dep l p)) out (fun o => if o = y then r else []) := by
  obtain ⟨h1, h2⟩ := hpush_heap h.heap (p, dep l p)
  obtain ⟨hd, hpi⟩ := dep_lt hh (h.ids y (List.mem_append.2 (.inl hy))) hpy
  have hm : ∀ nd, nd ∈ hpushL q (p, dep l p) ↔ nd ∈ q ∨ nd = (p, dep l p) := fun nd => by rw [h2.mem_iff]; simp
  have hs : ∀ s, s ∈ allS (hpushL q (p, dep l p)) out ↔ s ∈ allS q out ∨ s = p := fun s => by
    unfold allS
    rw [List.mem_append, List.mem_append, (h2.map Prod.fst).mem_iff]
    simp [or_assoc]
  refine ⟨h1, ?_, fun s hs2 => ?_, fun nd hnd => ?_, h.sorted, fun o ho nd hnd => ?_, fun s hs2 => ?_, (hs a).2 (.inl h.first), fun o ho s hso => ?_⟩
  · have hperm : (allS (hpushL q (p, dep l p)) out).Perm (allS q out ++ [p]) := by
      unfold allS
      rw [List.append_assoc]
      exact List.Perm.append_left _ (by simpa using h2.map Prod.fst)
    rw [hperm.nodup_iff]
    refine List.nodup_append.2 ⟨h.nodup, by simp, fun s hs3 t ht => ?_⟩
    simp only [List.mem_cons, List.not_mem_nil, or_false] at ht
    subst ht
    exact fun e => hp (e ▸ hs3)
  · rcases (hs s).1 hs2 with h5 | rfl
    · exact h.ids s h5
    · exact hpi
  · rcases (hm nd).1 hnd with h5 | rfl
    · exact h.deps nd h5
    · rfl
  · rcases (hm nd).1 hnd with h5 | rfl
    · exact h.ahead o ho nd h5
    · exact (hlast o ho).trans (ndLe_deeper hd)
  · rcases (hs s).1 hs2 with h5 | rfl
    · exact h.reach s h5
    · exact .step (h.reach y (List.mem_append.2 (.inl hy))) hpy
  · rcases h.closed o ho s hso with h4 | h4
    · exact .inl ((hs s).2 (.inl h4))
    · by_cases e : o = y
      · rw [if_pos e] at h4
        rw [if_pos e]
        rcases List.mem_cons.1 h4 with h4 | h4
        · exact .inl ((hs s).2 (.inr h4))
        · exact .inr h4
      · rw [if_neg e] at h4
        cases h4
theorem LS.over {l : List HC} {a y : ByteArray} {q : List Nd} {out : List ByteArray} (h : LS l a q out (fun o => if o = y then [] else [])) : LS l a q out (fun _ => []) :=
  ⟨h.heap, h.nodup, h.ids, h.deps, h.sorted, h.ahead, h.reach, h.first, fun o ho s hs => (h.closed o ho s hs).imp id (fun h4 => by simp at h4)⟩
theorem nodup_le {l m : List ByteArray} (h : l.Nodup) (hs : ∀ s ∈ l, s ∈ m) : l.length ≤ m.length := by
  induction l generalizing m with
  | nil => simp
  | cons x r ih =>
    obtain ⟨h1, h2⟩ := List.nodup_cons.1 h
    have hx : x ∈ m := hs x (by simp)
    have h3 := ih (m := m.filter (fun y => decide (y ≠ x))) h2 (fun s hsr => List.mem_filter.2 ⟨hs s (by simp [hsr]), by simp; exact fun e => h1 (e ▸ hsr)⟩)
    have h4 : (m.filter (fun y => decide (y ≠ x))).length < m.length := List.length_filter_lt_length_iff_exists.2 ⟨x, hx, by simp⟩
    simp only [List.length_cons]
    omega
theorem LS.small {l : List HC} {a : ByteArray} {q : List Nd} {out : List ByteArray} {pend : ByteArray → List ByteArray} (h : LS l a q out pend) : out.length + q.length ≤ l.length := by
  have := nodup_le h.nodup h.ids
  rw [idsOf_len] at this
  simpa [allS] using this
/-- the log of a: what is reached from it, each once, in order -/
structure LogIs (l : List HC) (a : ByteArray) (g : List ByteArray) : Prop where
  nodup : g.Nodup
  ids : ∀ s ∈ g, s ∈ idsOf l
  sorted : g.Pairwise (fun s t => ndLe (s, dep l s) (t, dep l t))
  reach : ∀ s, s ∈ g ↔ Reach l a s
theorem LS.done {l : List HC} {a : ByteArray} {out : List ByteArray} (h : LS l a [] out (fun _ => [])) : LogIs l a out := by
  have e : allS [] out = out := by simp [allS]
  have h2 := h.nodup
  have h3 := h.ids
  have h4 := h.reach
  have h5 := h.first
  have h6 := h.closed
  rw [e] at h2 h3 h4 h5 h6
  refine ⟨h2, h3, h.sorted, fun s => ⟨h4 s, fun hr => ?_⟩⟩
  induction hr with
  | refl => exact h5
  | step _ hp ih =>
    rcases h6 _ ih _ hp with h7 | h7
    · exact h7
    · cases h7
end Go.Proofs.Ytfhgnolfhiffbaa
