/- A region that draws its order, with boxes made at any time among effects that come one after the other: one way is left. No program in sight. -/
import Derived.Test.YtcbaioagcemmnaaDoorPlanH
namespace Go.Proofs.YtcbaioagcemmnaaDoor.PA
open Go.RowKit
/-- the slots ds get the values u -/
def putF (ds : List Nat) (u : Nat → Value) (a : Act) : Act := ds.foldl (fun a d => a.put (some d) (u d)) a
theorem put_self {a : Act} {d : Nat} {v : Value} (h : a.eval (.tmp d) = v) : a.put (some d) v = a := by
  obtain ⟨tmps, defers⟩ := a
  simp only [Act.put, Act.mk.injEq, and_true]
  simp only [Act.eval] at h
  subst h
  apply Array.ext
  · simp
  · intro i h1 h2
    rw [Array.getElem_setIfInBounds (by simpa using h1)]
    split
    · rename_i e
      subst e
      simp [h2]
    · rfl
theorem put_comm {a : Act} {d e : Nat} {v u : Value} (h : d ≠ e) : (a.put (some d) v).put (some e) u = (a.put (some e) u).put (some d) v := by
  simp only [Act.put]
  rw [Array.setIfInBounds_comm _ _ h]
theorem put_put {a : Act} {d : Nat} {v u : Value} : (a.put (some d) v).put (some d) u = a.put (some d) u := by
  simp [Act.put, Array.setIfInBounds_setIfInBounds]
theorem putF_self : ∀ {ds : List Nat} {u : Nat → Value} {a : Act}, (∀ d ∈ ds, a.eval (.tmp d) = u d) → putF ds u a = a
  | [], _, _, _ => rfl
  | d :: r, u, a, h => by
    show putF r u (a.put (some d) (u d)) = a
    rw [put_self (h d (by simp))]
    exact putF_self fun e he => h e (by simp [he])
theorem putF_put : ∀ {ds : List Nat} {u : Nat → Value} {a : Act} {d : Nat} {v : Value}, d ∉ ds → (putF ds u a).put (some d) v = putF ds u (a.put (some d) v)
  | [], _, _, _, _, _ => rfl
  | e :: r, u, a, d, v, h => by
    show (putF r u (a.put (some e) (u e))).put (some d) v = putF r u ((a.put (some d) v).put (some e) (u e))
    rw [putF_put (fun h2 => h (by simp [h2])), put_comm (fun h2 => h (by simp [h2]))]
theorem putF_congr : ∀ {ds : List Nat} {u u' : Nat → Value} {a : Act}, (∀ d ∈ ds, u d = u' d) → putF ds u a = putF ds u' a
  | [], _, _, _, _ => rfl
  | d :: r, u, u', a, h => by
    show putF r u (a.put (some d) (u d)) = putF r u' (a.put (some d) (u' d))
    rw [h d (by simp)]
    exact putF_congr fun e he => h e (by simp [he])
def upd {α : Type} (u : Nat → α) (d : Nat) (v : α) : Nat → α := fun e => if e = d then v else u e
theorem putF_upd : ∀ {ds : List Nat} {u : Nat → Value} {a : Act} {d : Nat} {v : Value}, ds.Nodup → d ∈ ds → (putF ds u a).put (some d) v = putF ds (upd u d v) a
  | [], _, _, _, _, _, h => by cases h
  | e :: r, u, a, d, v, hn, h => by
    obtain ⟨h1, h2⟩ := List.nodup_cons.1 hn
    show (putF r u (a.put (some e) (u e))).put (some d) v = putF r (upd u d v) (a.put (some e) (upd u d v e))
    by_cases hde : d = e
    · subst hde
      rw [putF_put h1, put_put]
      have : upd u d v d = v := by simp [upd]
      rw [this]
      exact putF_congr fun x hx => by
        have : x ≠ d := fun e => h1 (e ▸ hx)
        simp [upd, this]
    · have hr : d ∈ r := by
        rcases List.mem_cons.1 h with h | h
        · exact absurd h hde
        · exact h
      rw [putF_upd h2 hr]
      have : upd u d v e = u e := by simp [upd, Ne.symm hde]
      rw [this]
section
variable {P : Program} {ops : Array Oper} {Q : Exit → Act → World → Prop} {md : Region.Mode} {tail : List Nat}
/-- what is listed: what was, the first p effects, the boxes of done -/
def lst (L0 : Array Bool) (E : List Nat) (p : Nat) (done : List Nat) : Array Bool := Array.ofFn (n := L0.size) fun j => L0[j] || (E.take p).contains j.1 || done.contains j.1
theorem lst_set {L0 : Array Bool} {E : List Nat} {p i : Nat} {done : List Nat} (hi : E[p]? = some i) : (lst L0 E p done).setIfInBounds i true = lst L0 E (p + 1) done := by
  apply Array.ext
  · simp [lst]
  · intro j h1 h2
    rw [Array.getElem_setIfInBounds (by simpa using h1)]
    simp only [lst, Array.getElem_ofFn]
    have e : E.take (p + 1) = E.take p ++ [i] := by
      obtain ⟨hp, rfl⟩ := List.getElem?_eq_some_iff.1 hi
      rw [List.take_succ_eq_append_getElem hp]
    have e2 : (E.take (p + 1)).contains j = ((E.take p).contains j || (i == j)) := by
      rw [e, Bool.eq_iff_iff]
      simp only [List.contains_iff_mem, Bool.or_eq_true, List.mem_append, List.mem_singleton, beq_iff_eq]
      exact ⟨fun h => h.imp id Eq.symm, fun h => h.imp id Eq.symm⟩
    by_cases hij : i = j
    · subst hij
      simp only [e2]
      simp
    · rw [if_neg hij]
      have : (i == j) = false := by simpa using hij
      simp only [e2, this, Bool.or_false]
theorem lst_setD {L0 : Array Bool} {E D : List Nat} {p i : Nat} {b : Nat → Bool} (hi : i ∈ D) : (lst L0 E p (D.filter b)).setIfInBounds i true = lst L0 E p (D.filter (upd b i true)) := by
  apply Array.ext
  · simp [lst]
  · intro j h1 h2
    rw [Array.getElem_setIfInBounds (by simpa using h1)]
    simp only [lst, Array.getElem_ofFn]
    by_cases hij : i = j
    · subst hij
      simp [upd, hi]
    · rw [if_neg hij]
      have : (D.filter (upd b i true)).contains j = (D.filter b).contains j := by
        rw [Bool.eq_iff_iff]
        simp [upd, Ne.symm hij]
      rw [this]
def subs : List Nat → List (List Nat)
  | [] => [[]]
  | x :: r => subs r ++ (subs r).map (x :: ·)
theorem filter_subs (b : Nat → Bool) : ∀ D : List Nat, D.filter b ∈ subs D
  | [] => by simp [subs]
  | x :: r => by
    have h := filter_subs b r
    rw [List.filter_cons, subs]
    split
    · exact List.mem_append.2 (.inr (List.mem_map.2 ⟨_, h, rfl⟩))
    · exact List.mem_append.2 (.inl h)
/-- the check: short of the end, something is ready, and only the next effect or a box that is not made -/
def linOk (md : Region.Mode) (ops : Array Oper) (tail : List Nat) (L0 : Array Bool) (E D : List Nat) : Bool :=
  (List.range (E.length + 1)).all fun p => (subs D).all fun done => (p == E.length && done.length == D.length) ||
    (!(Region.ready md ops (lst L0 E p done)).isEmpty && (Region.ready md ops (lst L0 E p done)).all fun i => (E[p]? == some i || (D.contains i && !done.contains i)) && !tail.contains i && (ops.getD i default).guard.isNone)
/-- what is to be shown of the effects, one after the other: whatever the boxes' slots hold -/
def wpE (P : Program) (ops : Array Oper) (Q : Exit → Act → World → Prop) (ds : List Nat) (cs : Nat → Obj) (B : Nat) (R : Act → World → Prop) : List Nat → Act → World → Prop
  | [], a, w => ∀ u w1 (g : Nat → Nat), Ext w w1 → (∀ d ∈ ds, u d = .pointer (some ⟨g d, 0, none⟩) ∧ w1.heap[g d]? = some (cs d) ∧ B ≤ g d) → (∀ d ∈ ds, ∀ e ∈ ds, d ≠ e → g d ≠ g e) → R (putF ds u a) w1
  | i :: r, a, w => ∀ u w1, Ext w w1 → (ops.getD i default).wp P (putF ds u a) w1 (fun a' w' => (∀ d ∈ ds, a'.eval (.tmp d) = u d) ∧ Ext w1 w' ∧ wpE P ops Q ds cs B R r a' w') Q
theorem wanted_none {o : Oper} {y : Nat → Option Bool} (h : o.guard.isNone = true) : Region.wanted o y = true := by
  unfold Region.wanted
  rw [Option.isNone_iff_eq_none.1 h]
theorem wpE_ext {ds : List Nat} {cs : Nat → Obj} {B : Nat} {R : Act → World → Prop} {E : List Nat} {a : Act} {w w1 : World} (h : wpE P ops Q ds cs B R E a w) (hx : Ext w w1) : wpE P ops Q ds cs B R E a w1 := by
  cases E with
  | nil => exact fun u w2 g h2 h3 h4 => h u w2 g (hx.trans h2) h3 h4
  | cons i r => exact fun u w2 h2 => h u w2 (hx.trans h2)
theorem lin_sound {D : List Nat} {sl : Nat → Nat} {cs : Nat → Obj} {L0 : Array Bool} {E : List Nat} {n B : Nat} {R : Act → World → Prop}
    (hok : linOk md ops tail L0 E D = true) (hD : (D.map sl).Nodup) (hinj : ∀ i ∈ D, ∀ j ∈ D, sl i = sl j → i = j)
    (hal : ∀ i ∈ D, ∀ a w (K : Act → World → Prop), K (a.put (some (sl i)) (.pointer (some ⟨w.heap.size, 0, none⟩))) (w.alloc (cs (sl i))) → (ops.getD i default).wp P a w K Q)
    (hcs : ∀ i ∈ D, ∀ w : World, (w.alloc (cs (sl i))).heap[w.heap.size]? = some (cs (sl i)))
    (hR : ∀ a w, R a w → wpAnyD P md ops Q (Ext w) tail n (lst L0 E E.length D) a w) :
    ∀ (m p : Nat) (b : Nat → Bool) (a0 : Act) (w : World) (u : Nat → Value) (g : Nat → Nat), p ≤ E.length → m = (E.length - p) + (D.length - (D.filter b).length) → B ≤ w.heap.size →
      (∀ i ∈ D, b i = true → u (sl i) = .pointer (some ⟨g (sl i), 0, none⟩) ∧ w.heap[g (sl i)]? = some (cs (sl i)) ∧ B ≤ g (sl i)) → (∀ i ∈ D, ∀ j ∈ D, b i = true → b j = true → i ≠ j → g (sl i) ≠ g (sl j)) →
      wpE P ops Q (D.map sl) cs B R (E.drop p) a0 w → wpAnyD P md ops Q (Ext w) tail (m + n) (lst L0 E p (D.filter b)) (putF (D.map sl) u a0) w := by
  intro m
  induction m with
  | zero =>
    intro p b a0 w u g hp hm hB hb hg h
    have hpe : p = E.length := by omega
    have hbl : D.filter b = D := by
      have := List.length_filter_le b D
      exact (List.filter_sublist).eq_of_length (by omega)
    have hball : ∀ i ∈ D, b i = true := fun i hi => by rw [← hbl] at hi; exact (List.mem_filter.1 hi).2
    subst hpe
    rw [hbl, Nat.zero_add]
    rw [List.drop_length] at h
    refine hR _ _ (h u w g (Ext.refl _) (fun d hd => ?_) (fun d hd e he hne => ?_))
    · obtain ⟨i, hi, rfl⟩ := List.mem_map.1 hd
      exact hb i hi (hball i hi)
    · obtain ⟨i, hi, rfl⟩ := List.mem_map.1 hd
      obtain ⟨j, hj, rfl⟩ := List.mem_map.1 he
      exact hg i hi j hj (hball i hi) (hball j hj) (fun e => hne (by rw [e]))
  | succ m ih =>
    intro p b a0 w u g hp hm hB hb hg h
    have hchk := List.all_eq_true.1 (List.all_eq_true.1 hok p (List.mem_range.2 (by omega))) _ (filter_subs b D)
    have hnot : (p == E.length && (D.filter b).length == D.length) = false := by
      rw [Bool.and_eq_false_iff]
      by_cases h1 : p = E.length
      · right; rw [beq_eq_false_iff_ne]; omega
      · left; simpa using h1
    rw [hnot, Bool.false_or, Bool.and_eq_true] at hchk
    obtain ⟨hne, hall⟩ := hchk
    rw [show m + 1 + n = (m + n) + 1 by omega]
    refine ⟨fun h => (by rw [h] at hne; simp at hne), fun i hi => ?_⟩
    have h1 := List.all_eq_true.1 hall i hi
    simp only [Bool.and_eq_true, Bool.or_eq_true, Bool.not_eq_true', beq_iff_eq, List.contains_iff_mem] at h1
    obtain ⟨⟨h2, h3⟩, h4⟩ := h1
    rcases h2 with h2 | ⟨h2, h5⟩
    · obtain ⟨hpl, hpe⟩ := List.getElem?_eq_some_iff.1 h2
      rw [List.drop_eq_getElem_cons hpl, hpe] at h
      refine eff_sound (R := fun a' w' => wpE P ops Q (D.map sl) cs B R (E.drop (p + 1)) a' w' ∧ (∀ d ∈ D.map sl, a'.eval (.tmp d) = u d) ∧ Ext w w') hi (by rw [h3]; exact Bool.false_ne_true) (fun a' w' h' => ?_) ?_
      · rw [lst_set h2]
        have := ih (p + 1) b a' w' u g (by omega) (by omega) (by have := h'.2.2.size; omega) (fun j hj hbj => ⟨(hb j hj hbj).1, by
          have h9 := (hb j hj hbj).2.1
          exact (h'.2.2.block _ (Array.getElem?_eq_some_iff.1 h9).1).trans h9, (hb j hj hbj).2.2⟩) hg h'.1
        rwa [putF_self h'.2.1] at this
      · rw [if_pos (wanted_none h4)]
        refine Oper.wp_mono (fun a' w' hh => ?_) (h u w (Ext.refl w))
        exact ⟨hh.2.1, hh.2.2, hh.1, hh.2.1⟩
    · have hbi : b i = false := by
        cases hc : b i with
        | false => rfl
        | true => 
          have : (D.filter b).contains i = true := by simp [h2, hc]
          rw [h5] at this
          cases this
      have hcard : (D.filter (upd b i true)).length = (D.filter b).length + 1 := by
        clear hok hal hcs hm hb hg h hne hall hi h5 hinj hnot ih hR
        have hnd : D.Nodup := by
          clear h2 hbi
          induction D with
          | nil => simp
          | cons x r ihx =>
            simp only [List.map_cons, List.nodup_cons] at hD ⊢
            exact ⟨fun hx => hD.1 (List.mem_map.2 ⟨x, hx, rfl⟩), ihx hD.2⟩
        clear hD
        induction D with
        | nil => cases h2
        | cons x r ihx =>
          obtain ⟨hx1, hx2⟩ := List.nodup_cons.1 hnd
          rcases List.mem_cons.1 h2 with rfl | h2
          · have e : r.filter (upd b i true) = r.filter b := List.filter_congr fun y hy => by
              have : y ≠ i := fun e => hx1 (e ▸ hy)
              simp [upd, this]
            simp [upd, hbi]
            rw [e]
          · have hxi : x ≠ i := fun e => hx1 (e ▸ h2)
            have := ihx h2 hx2
            simp only [List.filter_cons]
            have e : upd b i true x = b x := by simp [upd, hxi]
            rw [e]
            split <;> simp [this]
      have hle := List.length_filter_le (upd b i true) D
      refine eff_sound (R := fun a' w' => a' = (putF (D.map sl) u a0).put (some (sl i)) (.pointer (some ⟨w.heap.size, 0, none⟩)) ∧ w' = w.alloc (cs (sl i))) hi (by rw [h3]; exact Bool.false_ne_true) (fun a' w' h' => ?_) ?_
      · obtain ⟨rfl, rfl⟩ := h'
        rw [lst_setD h2, putF_upd hD (List.mem_map.2 ⟨i, h2, rfl⟩)]
        have hx : Ext w (w.alloc (cs (sl i))) := (Below.refl _ _).alloc (Nat.le_refl _) _
        refine ih p (upd b i true) a0 _ _ (upd g (sl i) w.heap.size) hp (by omega) (by have := hx.size; omega) (fun j hj hbj => ?_) (fun j hj k hk hbj hbk hne => ?_) (wpE_ext h hx)
        · by_cases hji : j = i
          · subst hji
            simp only [upd, if_true]
            exact ⟨by first | rfl | trivial, hcs j hj w, hB⟩
          · have hs : sl j ≠ sl i := fun e => hji (hinj j hj i h2 e)
            have hbj' : b j = true := by simpa [upd, hji] using hbj
            simp only [upd, if_neg hs]
            exact ⟨(hb j hj hbj').1, (hx.block _ (Array.getElem?_eq_some_iff.1 (hb j hj hbj').2.1).1).trans (hb j hj hbj').2.1, (hb j hj hbj').2.2⟩
        · by_cases hji : j = i
          · subst hji
            have hs : sl k ≠ sl j := fun e => hne (hinj k hk j hj e).symm
            have hbk' : b k = true := by simpa [upd, Ne.symm hne] using hbk
            have := (Array.getElem?_eq_some_iff.1 (hb k hk hbk').2.1).1
            simp only [upd, if_true, if_neg hs]
            omega
          · have hs : sl j ≠ sl i := fun e => hji (hinj j hj i h2 e)
            have hbj' : b j = true := by simpa [upd, hji] using hbj
            by_cases hki : k = i
            · subst hki
              have := (Array.getElem?_eq_some_iff.1 (hb j hj hbj').2.1).1
              simp only [upd, if_true, if_neg hs]
              omega
            · have hs2 : sl k ≠ sl i := fun e => hki (hinj k hk i h2 e)
              have hbk' : b k = true := by simpa [upd, hki] using hbk
              simp only [upd, if_neg hs, if_neg hs2]
              exact hg j hj k hk hbj' hbk' hne
      · rw [if_pos (wanted_none h4)]
        exact hal i h2 _ w _ ⟨(Below.refl _ _).alloc (Nat.le_refl _) _, rfl, rfl⟩
end
end Go.Proofs.YtcbaioagcemmnaaDoor.PA
