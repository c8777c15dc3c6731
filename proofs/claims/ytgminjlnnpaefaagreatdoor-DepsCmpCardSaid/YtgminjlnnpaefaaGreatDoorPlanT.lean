/- A region that draws its order, by a fixed plan: reads that are stable while memory grows come first; effects in one order, or two of them in either; behind the last read memory may be written. No program in sight. -/
import Derived.Test.YtgminjlnnpaefaaGreatDoorPlan
namespace Go.Proofs.YtgminjlnnpaefaaGreatDoor
open Go.RowKit
section
variable {P : Program} {ops : Array Oper} {Q : Exit → Act → World → Prop} {md : Region.Mode}

/-- whatever is listed, what it waits for is listed -/
def Closed (md : Region.Mode) (ops : Array Oper) (listed : Array Bool) : Prop :=
  ∀ j oj, ops[j]? = some oj → listed.getD j false = true → ∀ e ∈ oj.after, Region.binds md e = true → listed.getD e.on false = true

/-- j waits for i, directly or by others -/
def waitsT (md : Region.Mode) (ops : Array Oper) : Nat → Nat → Nat → Bool
  | 0, _, _ => false
  | n + 1, j, i => match ops[j]? with
    | some oj => oj.after.any fun e => Region.binds md e && (e.on == i || waitsT md ops n e.on i)
    | none => false

theorem Closed.add {listed : Array Bool} (h : Closed md ops listed) {i : Nat} (hi : i ∈ Region.ready md ops listed) : Closed md ops (listed.setIfInBounds i true) := by
  intro j oj hj hl e he hb
  obtain ⟨_, oi, hoi, hall⟩ := mem_ready.1 hi
  by_cases hji : i = j
  · subst hji
    rw [hj] at hoi; injection hoi with hoi; subst hoi
    exact getD_set_true (hall e he hb)
  · rw [getD_set_ne false hji] at hl
    exact getD_set_true (h j oj hj hl e he hb)

theorem closed_waits {listed : Array Bool} (h : Closed md ops listed) : ∀ (n j i : Nat), waitsT md ops n j i = true → (listed.getD j false = true ∨ j ∈ Region.ready md ops listed) → listed.getD i false = true := by
  intro n
  induction n with
  | zero => intro j i h1; simp [waitsT] at h1
  | succ n ih =>
    intro j i h1 h2
    unfold waitsT at h1
    split at h1
    · rename_i oj hj
      obtain ⟨e, he, hb⟩ := Array.any_eq_true'.1 h1
      simp only [Bool.and_eq_true, Bool.or_eq_true, beq_iff_eq] at hb
      obtain ⟨hb1, hb2⟩ := hb
      have hon : listed.getD e.on false = true := by
        rcases h2 with h2 | h2
        · exact h j oj hj h2 e he hb1
        · obtain ⟨_, oj', hj', hall⟩ := mem_ready.1 h2
          rw [hj] at hj'; injection hj' with hj'; subst hj'
          exact hall e he hb1
      rcases hb2 with rfl | hb2
      · exact hon
      · exact ih e.on i hb2 (.inl hon)
    · cases h1

theorem ready_not_listed {listed : Array Bool} {i : Nat} (h : i ∈ Region.ready md ops listed) : listed.getD i false = true → False := by
  intro h1
  have h0 := (mem_ready.1 h).1
  rcases Nat.lt_or_ge i listed.size with h' | h'
  · simp [h'] at h0 h1; rw [h0] at h1; cases h1
  · simp [Array.getElem?_eq_none h'] at h1

/-- whatever order is picked: till an operation of the tail comes, S holds -/
def wpAnyD (P : Program) (md : Region.Mode) (ops : Array Oper) (Q : Exit → Act → World → Prop) (S : World → Prop) (tail : List Nat) : Nat → Array Bool → Act → World → Prop
  | 0, listed, a, w => Region.ready md ops listed = [] ∧ Q .normal a w
  | fuel + 1, listed, a, w =>
    (Region.ready md ops listed = [] → Q .normal a w) ∧
    ∀ i ∈ Region.ready md ops listed, wpOp P ops Q i (fun a' w' => if tail.contains i = true then wpAny P md ops Q fuel (listed.setIfInBounds i true) a' w' else S w' ∧ wpAnyD P md ops Q S tail fuel (listed.setIfInBounds i true) a' w') a w

variable {S : World → Prop} {tail : List Nat}
theorem wpAny_of_D : ∀ (fuel : Nat) (listed : Array Bool) (a : Act) (w : World), wpAnyD P md ops Q S tail fuel listed a w → wpAny P md ops Q fuel listed a w
  | 0, _, _, _, h => h
  | fuel + 1, _, _, _, h => ⟨h.1, fun i hi => wpOp_mono (fun a' w' h' => by
      split at h'
      · exact h'
      · exact wpAny_of_D fuel _ a' w' h'.2) (h.2 i hi)⟩

theorem wpAnyD_mono {S' : World → Prop} (hS : ∀ w, S' w → S w) : ∀ (fuel : Nat) (listed : Array Bool) (a : Act) (w : World), wpAnyD P md ops Q S' tail fuel listed a w → wpAnyD P md ops Q S tail fuel listed a w
  | 0, _, _, _, h => h
  | fuel + 1, _, _, _, h => ⟨h.1, fun i hi => wpOp_mono (fun a' w' h' => by
      split at h'
      · rw [if_pos (by assumption)]; exact h'
      · rw [if_neg (by assumption)]; exact ⟨hS _ h'.1, wpAnyD_mono hS fuel _ a' w' h'.2⟩) (h.2 i hi)⟩

theorem wpAnyD_first {i : Nat} {oi : Oper} {v : Value} (hi : ops[i]? = some oi) (hsel : ∀ (j : Nat) (o : Oper) cs b, ops[j]? = some o → o.op ≠ .select cs b)
    (hQ : ∀ c a w, Q (.panic c) (a.put oi.dst v) w → Q (.panic c) a w) (ht : ∀ j ∈ tail, waitsT md ops ops.size j i = true) :
    ∀ (fuel : Nat) (listed : Array Bool) (a : Act) (w : World), Closed md ops listed →
      (∀ j oj, ops[j]? = some oj → j ≠ i → listed.getD j true = false → (∀ e ∈ oj.after, Region.binds md e = true → e.on ≠ i) → oi.apart ops oj = true) →
      i ∈ Region.ready md ops listed → YieldsIf P ops S oi v a → S w →
      wpAnyD P md ops Q S tail fuel (listed.setIfInBounds i true) (a.put oi.dst v) w → wpAnyD P md ops Q S tail (fuel + 1) listed a w := by
  intro fuel
  induction fuel with
  | zero =>
    intro listed a w _ _ hr hy hS H
    refine ⟨fun h => (by rw [h] at hr; cases hr), fun j hj => ?_⟩
    by_cases hji : j = i
    · subst hji
      refine hy.wpOp hi hS ?_
      split
      · exact H
      · exact ⟨hS, H⟩
    · have := ready_mono hj hji
      rw [H.1] at this
      cases this
  | succ fuel ih =>
    intro listed a w hcl hfree hr hy hS H
    refine ⟨fun h => (by rw [h] at hr; cases hr), fun j hj => ?_⟩
    by_cases hji : j = i
    · subst hji
      refine hy.wpOp hi hS ?_
      split
      · exact wpAny_of_D _ _ _ _ H
      · exact ⟨hS, H⟩
    · have h1 := H.2 j (ready_mono hj hji)
      have hjt : ¬ tail.contains j = true := fun h => ready_not_listed hr (closed_waits hcl _ j i (ht j (by simpa using h)) (.inr hj))
      simp only [hjt] at h1 ⊢
      obtain ⟨hjun, oj, hoj, hall⟩ := mem_ready.1 hj
      have hnot : ∀ e ∈ oj.after, Region.binds md e = true → e.on ≠ i := fun e he hb heq => ready_not_listed hr (heq ▸ hall e he hb)
      have h2 := wpOp_putIf hoj (hfree j oj hoj hji hjun hnot) (fun cs b => hsel i oi cs b hi) (fun cs b => hsel j oj cs b hoj) hQ hy h1
      have hfree' : ∀ k ok, ops[k]? = some ok → k ≠ i → (listed.setIfInBounds j true).getD k true = false →
          (∀ e ∈ ok.after, Region.binds md e = true → e.on ≠ i) → oi.apart ops ok = true := fun k ok hk hki hun hno => by
        refine hfree k ok hk hki ?_ hno
        by_cases hjk : j = k
        · subst hjk; exact hjun
        · rw [getD_set_ne true hjk] at hun; exact hun
      refine wpOp_mono (fun a' w' h3 => ⟨h3.2.1, ih (listed.setIfInBounds j true) a' w' (hcl.add hj) hfree' (ready_mono hr (Ne.symm hji)) h3.1 h3.2.1 ?_⟩) h2
      rw [Array.setIfInBounds_comm _ _ hji]
      exact h3.2.2

/-- an operation that yields its value in whatever world may be taken first, whatever the tail -/
theorem wpAnyD_pure {i : Nat} {oi : Oper} {v : Value} (hi : ops[i]? = some oi) (hsel : ∀ (j : Nat) (o : Oper) cs b, ops[j]? = some o → o.op ≠ .select cs b)
    (hQ : ∀ c a w, Q (.panic c) (a.put oi.dst v) w → Q (.panic c) a w) (hit : ¬ tail.contains i = true) :
    ∀ (fuel : Nat) (listed : Array Bool) (a : Act) (w : World),
      (∀ j oj, ops[j]? = some oj → j ≠ i → listed.getD j true = false → (∀ e ∈ oj.after, Region.binds md e = true → e.on ≠ i) → oi.apart ops oj = true) →
      i ∈ Region.ready md ops listed → Yields P ops oi v a → S w →
      wpAnyD P md ops Q S tail fuel (listed.setIfInBounds i true) (a.put oi.dst v) w → wpAnyD P md ops Q S tail (fuel + 1) listed a w := by
  intro fuel
  induction fuel with
  | zero =>
    intro listed a w _ hr hy hS H
    refine ⟨fun h => (by rw [h] at hr; cases hr), fun j hj => ?_⟩
    by_cases hji : j = i
    · subst hji
      refine hy.wpOp hi ?_
      simp only [hit]
      exact ⟨hS, H⟩
    · have := ready_mono hj hji
      rw [H.1] at this
      cases this
  | succ fuel ih =>
    intro listed a w hfree hr hy hS H
    refine ⟨fun h => (by rw [h] at hr; cases hr), fun j hj => ?_⟩
    by_cases hji : j = i
    · subst hji
      refine hy.wpOp hi ?_
      simp only [hit]
      exact ⟨hS, H⟩
    · have h1 := H.2 j (ready_mono hj hji)
      obtain ⟨hjun, oj, hoj, hall⟩ := mem_ready.1 hj
      have hnot : ∀ e ∈ oj.after, Region.binds md e = true → e.on ≠ i := fun e he hb heq => ready_not_listed hr (heq ▸ hall e he hb)
      have h2 := wpOp_put hoj (hfree j oj hoj hji hjun hnot) (fun cs b => hsel i oi cs b hi) (fun cs b => hsel j oj cs b hoj) hQ hy h1
      have hfree' : ∀ k ok, ops[k]? = some ok → k ≠ i → (listed.setIfInBounds j true).getD k true = false →
          (∀ e ∈ ok.after, Region.binds md e = true → e.on ≠ i) → oi.apart ops ok = true := fun k ok hk hki hun hno => by
        refine hfree k ok hk hki ?_ hno
        by_cases hjk : j = k
        · subst hjk; exact hjun
        · rw [getD_set_ne true hjk] at hun; exact hun
      refine wpOp_mono (fun a' w' h3 => ?_) h2
      obtain ⟨g1, g2⟩ := h3
      rw [Array.setIfInBounds_comm _ _ (Ne.symm hji)] at g2
      split at g2
      · rw [if_pos (by assumption)]
        exact wpAny_first hi hsel hQ fuel _ a' w' hfree' (ready_mono hr (Ne.symm hji)) g1 g2
      · rw [if_neg (by assumption)]
        exact ⟨g2.1, ih (listed.setIfInBounds j true) a' w' hfree' (ready_mono hr (Ne.symm hji)) g1 g2.1 g2.2⟩

/-- THE PLAN: 'pure': a plain operation that reads no memory; 'free': a plain operation, stable while memory grows; 'eff': the one that may come up; 'alt': two that may come up; 'last': of the tail, the one that may come up. -/
inductive PT where
  | nil
  | pure (i : Nat) (t : PT)
  | free (i : Nat) (t : PT)
  | eff (i : Nat) (t : PT)
  | alt (i : Nat) (s : PT) (j : Nat) (t : PT)
  | last (i : Nat) (t : PT)

def PT.size : PT → Nat
  | .nil => 0
  | .pure _ t | .free _ t | .eff _ t | .last _ t => t.size + 1
  | .alt _ s _ _ => s.size + 1

def ptLast (md : Region.Mode) (ops : Array Oper) : PT → Array Bool → Bool
  | .nil, listed => (Region.ready md ops listed).isEmpty
  | .last i t, listed => (Region.ready md ops listed == [i]) && ptLast md ops t (listed.setIfInBounds i true)
  | _, _ => false
def ptOk (md : Region.Mode) (ops : Array Oper) (tail : List Nat) : PT → Array Bool → Bool
  | .nil, listed => (Region.ready md ops listed).isEmpty
  | .pure i t, listed => Region.free md ops listed i && (Region.ready md ops listed).contains i && plainOp (ops.getD i default).op && !tail.contains i && ptOk md ops tail t (listed.setIfInBounds i true)
  | .free i t, listed => Region.free md ops listed i && (Region.ready md ops listed).contains i && plainOp (ops.getD i default).op && (tail.all fun j => waitsT md ops ops.size j i) && ptOk md ops tail t (listed.setIfInBounds i true)
  | .eff i t, listed => (Region.ready md ops listed == [i]) && !tail.contains i && ptOk md ops tail t (listed.setIfInBounds i true)
  | .alt i s j t, listed => (Region.ready md ops listed == [i, j]) && !tail.contains i && !tail.contains j && (s.size == t.size) && ptOk md ops tail s (listed.setIfInBounds i true) && ptOk md ops tail t (listed.setIfInBounds j true)
  | .last i t, listed => (Region.ready md ops listed == [i]) && tail.contains i && ptLast md ops t (listed.setIfInBounds i true)

/-- the plan with its operations -/
inductive PTo where
  | nil
  | pure (o : Oper) (t : PTo)
  | free (o : Oper) (t : PTo)
  | eff (o : Oper) (t : PTo)
  | alt (o : Oper) (s : PTo) (o' : Oper) (t : PTo)
  | last (o : Oper) (t : PTo)
def PT.at_ (ops : Array Oper) : PT → PTo
  | .nil => .nil
  | .pure i t => .pure (ops.getD i default) (t.at_ ops)
  | .free i t => .free (ops.getD i default) (t.at_ ops)
  | .eff i t => .eff (ops.getD i default) (t.at_ ops)
  | .alt i s j t => .alt (ops.getD i default) (s.at_ ops) (ops.getD j default) (t.at_ ops)
  | .last i t => .last (ops.getD i default) (t.at_ ops)

def wpT (P : Program) (ops : Array Oper) (Q : Exit → Act → World → Prop) : PTo → Act → World → Prop
  | .nil, a, w => Q .normal a w
  | .pure o t, a, w => if Region.wanted o (yielded ops a.tmps) = true then o.quiet P a (fun _ => True) (fun a' => wpT P ops Q t a' w) else wpT P ops Q t (a.put o.dst undef) w
  | .free o t, a, w => if Region.wanted o (yielded ops a.tmps) = true then o.quiet P a (Ext w) (fun a' => wpT P ops Q t a' w) else wpT P ops Q t (a.put o.dst undef) w
  | .eff o t, a, w => if Region.wanted o (yielded ops a.tmps) = true then o.wp P a w (fun a' w' => Ext w w' ∧ wpT P ops Q t a' w') Q else wpT P ops Q t (a.put o.dst undef) w
  | .alt o s o' t, a, w => (if Region.wanted o (yielded ops a.tmps) = true then o.wp P a w (fun a' w' => Ext w w' ∧ wpT P ops Q s a' w') Q else wpT P ops Q s (a.put o.dst undef) w) ∧
      (if Region.wanted o' (yielded ops a.tmps) = true then o'.wp P a w (fun a' w' => Ext w w' ∧ wpT P ops Q t a' w') Q else wpT P ops Q t (a.put o'.dst undef) w)
  | .last o t, a, w => if Region.wanted o (yielded ops a.tmps) = true then o.wp P a w (fun a' w' => wpT P ops Q t a' w') Q else wpT P ops Q t (a.put o.dst undef) w

theorem last_sound : ∀ (t : PT) (listed : Array Bool) (a : Act) (w : World), ptLast md ops t listed = true → wpT P ops Q (t.at_ ops) a w → wpAny P md ops Q t.size listed a w
  | .nil, listed, a, w, hok, h => ⟨by simpa [ptLast] using hok, h⟩
  | .last i t, listed, a, w, hok, h => by
    simp only [ptLast, Bool.and_eq_true, beq_iff_eq] at hok
    obtain ⟨h1, h2⟩ := hok
    refine ⟨fun h => (by rw [h1] at h; cases h), fun j hj => ?_⟩
    obtain rfl : j = i := by rw [h1] at hj; simpa using hj
    have hi := ready_get (md := md) (ops := ops) (listed := listed) (i := j) hj
    simp only [PT.at_, wpT] at h
    unfold wpOp
    simp only [hi]
    by_cases hw : Region.wanted (ops.getD j default) (yielded ops a.tmps) = true
    · rw [if_pos hw] at h ⊢
      exact .inl (Oper.wp_mono (fun a' w' hh => last_sound t _ a' w' h2 hh) h)
    · rw [if_neg hw] at h ⊢
      exact last_sound t _ _ w h2 h
  | .pure _ _, _, _, _, hok, _ => by simp [ptLast] at hok
  | .free _ _, _, _, _, hok, _ => by simp [ptLast] at hok
  | .eff _ _, _, _, _, hok, _ => by simp [ptLast] at hok
  | .alt _ _ _ _, _, _, _, hok, _ => by simp [ptLast] at hok

/-- an effect -/
theorem eff_sound {i : Nat} {listed : Array Bool} {a : Act} {w : World} {n : Nat} {R : Act → World → Prop} (hi : i ∈ Region.ready md ops listed) (htl : ¬ tail.contains i = true)
    (hR : ∀ a' w', R a' w' → wpAnyD P md ops Q (Ext w') tail n (listed.setIfInBounds i true) a' w')
    (h : if Region.wanted (ops.getD i default) (yielded ops a.tmps) = true then (ops.getD i default).wp P a w (fun a' w' => Ext w w' ∧ R a' w') Q else R (a.put (ops.getD i default).dst undef) w) :
    wpOp P ops Q i (fun a' w' => if tail.contains i = true then wpAny P md ops Q n (listed.setIfInBounds i true) a' w' else Ext w w' ∧ wpAnyD P md ops Q (Ext w) tail n (listed.setIfInBounds i true) a' w') a w := by
  have hg := ready_get hi
  unfold wpOp
  simp only [hg, htl]
  by_cases hw : Region.wanted (ops.getD i default) (yielded ops a.tmps) = true
  · rw [if_pos hw] at h ⊢
    exact .inl (Oper.wp_mono (fun a' w' hh => ⟨hh.1, wpAnyD_mono (fun W hW => hh.1.trans hW) _ _ _ _ (hR a' w' hh.2)⟩) h)
  · rw [if_neg hw] at h ⊢
    exact ⟨Ext.refl w, hR _ _ h⟩

theorem pt_sound (hs : Region.noSelect ops = true) (hQ : ∀ c a d v w, Q (.panic c) (a.put d v) w → Q (.panic c) a w) : ∀ (t : PT) (listed : Array Bool) (a : Act) (w : World), Closed md ops listed → ptOk md ops tail t listed = true →
    wpT P ops Q (t.at_ ops) a w → wpAnyD P md ops Q (Ext w) tail t.size listed a w
  | .nil, listed, a, w, _, hok, h => ⟨by simpa [ptOk] using hok, h⟩
  | .pure i t, listed, a, w, hcl, hok, h => by
    simp only [ptOk, Bool.and_eq_true, Bool.not_eq_true'] at hok
    obtain ⟨⟨⟨⟨h1, h2⟩, h3⟩, h5⟩, h4⟩ := hok
    have hr : i ∈ Region.ready md ops listed := by simpa using h2
    have hi := ready_get (md := md) (ops := ops) hr
    simp only [PT.at_, wpT] at h
    by_cases hw : Region.wanted (ops.getD i default) (yielded ops a.tmps) = true
    · rw [if_pos hw] at h
      obtain ⟨v, hy, hk⟩ := yieldsIf_of_quiet h3 hw h
      exact wpAnyD_pure hi (Region.noSelect_spec hs) (fun c a w => hQ c a _ _ w) (by rw [h5]; exact Bool.false_ne_true) _ listed a w (Region.free_spec hi h1) hr (hy.imp (fun ⟨x, y⟩ => ⟨x, fun w => y w trivial⟩) id) (Ext.refl w) (pt_sound hs hQ t _ _ w (hcl.add hr) h4 hk)
    · rw [if_neg hw] at h
      exact wpAnyD_pure hi (Region.noSelect_spec hs) (fun c a w => hQ c a _ _ w) (by rw [h5]; exact Bool.false_ne_true) _ listed a w (Region.free_spec hi h1) hr (.inr ⟨by simpa using hw, rfl⟩) (Ext.refl w) (pt_sound hs hQ t _ _ w (hcl.add hr) h4 h)
  | .free i t, listed, a, w, hcl, hok, h => by
    simp only [ptOk, Bool.and_eq_true] at hok
    obtain ⟨⟨⟨⟨h1, h2⟩, h3⟩, h5⟩, h4⟩ := hok
    have hr : i ∈ Region.ready md ops listed := by simpa using h2
    have hi := ready_get (md := md) (ops := ops) hr
    have ht : ∀ j ∈ tail, waitsT md ops ops.size j i = true := by simpa using h5
    simp only [PT.at_, wpT] at h
    by_cases hw : Region.wanted (ops.getD i default) (yielded ops a.tmps) = true
    · rw [if_pos hw] at h
      obtain ⟨v, hy, hk⟩ := yieldsIf_of_quiet h3 hw h
      exact wpAnyD_first hi (Region.noSelect_spec hs) (fun c a w => hQ c a _ _ w) ht _ listed a w hcl (Region.free_spec hi h1) hr hy (Ext.refl w) (pt_sound hs hQ t _ _ w (hcl.add hr) h4 hk)
    · rw [if_neg hw] at h
      exact wpAnyD_first hi (Region.noSelect_spec hs) (fun c a w => hQ c a _ _ w) ht _ listed a w hcl (Region.free_spec hi h1) hr (.inr ⟨by simpa using hw, rfl⟩) (Ext.refl w) (pt_sound hs hQ t _ _ w (hcl.add hr) h4 h)
  | .eff i t, listed, a, w, hcl, hok, h => by
    simp only [ptOk, Bool.and_eq_true, beq_iff_eq, Bool.not_eq_true'] at hok
    obtain ⟨⟨h1, h2⟩, h4⟩ := hok
    refine ⟨fun h => (by rw [h1] at h; cases h), fun j hj => ?_⟩
    obtain rfl : j = i := by rw [h1] at hj; simpa using hj
    exact eff_sound hj (by rw [h2]; exact Bool.false_ne_true) (fun a' w' h' => pt_sound hs hQ t _ a' w' (hcl.add hj) h4 h') h
  | .alt i s k t, listed, a, w, hcl, hok, h => by
    simp only [ptOk, Bool.and_eq_true, beq_iff_eq, Bool.not_eq_true'] at hok
    obtain ⟨⟨⟨⟨⟨h1, h2⟩, h3⟩, hsz⟩, h4⟩, h5⟩ := hok
    simp only [PT.at_, wpT] at h
    refine ⟨fun h => (by rw [h1] at h; cases h), fun j hj => ?_⟩
    have hj' := hj
    rw [h1] at hj'
    rcases (by simpa using hj' : j = i ∨ j = k) with rfl | rfl
    · exact eff_sound hj (by rw [h2]; exact Bool.false_ne_true) (fun a' w' h' => pt_sound hs hQ s _ a' w' (hcl.add hj) h4 h') h.1
    · rw [hsz]
      exact eff_sound hj (by rw [h3]; exact Bool.false_ne_true) (fun a' w' h' => pt_sound hs hQ t _ a' w' (hcl.add hj) h5 h') h.2
  | .last i t, listed, a, w, hcl, hok, h => by
    simp only [ptOk, Bool.and_eq_true, beq_iff_eq] at hok
    obtain ⟨⟨h1, h2⟩, h4⟩ := hok
    refine ⟨fun h => (by rw [h1] at h; cases h), fun j hj => ?_⟩
    obtain rfl : j = i := by rw [h1] at hj; simpa using hj
    have hi := ready_get (md := md) (ops := ops) (listed := listed) (i := j) hj
    simp only [PT.at_, wpT] at h
    unfold wpOp
    simp only [hi, h2, if_true]
    by_cases hw : Region.wanted (ops.getD j default) (yielded ops a.tmps) = true
    · rw [if_pos hw] at h ⊢
      exact .inl (Oper.wp_mono (fun a' w' hh => last_sound t _ a' w' h4 hh) h)
    · rw [if_neg hw] at h ⊢
      exact last_sound t _ _ w h4 h

theorem closed_none (n : Nat) : Closed md ops (Array.replicate n false) := by
  intro j oj _ hl
  rw [Array.getD_eq_getD_getElem?, Array.getElem?_replicate] at hl
  split at hl <;> simp at hl

/-- the walk by a plan, closed -/
structure PlannedT (P : Program) (ops : Array Oper) (Q : Exit → Act → World → Prop) (t : PTo) (a : Act) (w : World) : Prop where
  out : wpT P ops Q t a w

theorem wp_region_tree {id : Nat} {a : Act} {w : World} (tail : List Nat) (t : PT) (hm : P.follows .mixedOrders = true) (hok : (Region.noSelect ops && ptOk .any ops tail t (Array.replicate ops.size false) && (t.size == ops.size)) = true)
    (hQ : ∀ c a d v w, Q (.panic c) (a.put d v) w → Q (.panic c) a w) (h : PlannedT P ops Q (t.at_ ops) a w.drew) : (Code.region id ops true).wp P Q a w := by
  simp only [Bool.and_eq_true, beq_iff_eq] at hok
  obtain ⟨⟨h1, h2⟩, h3⟩ := hok
  have := wpAny_of_D _ _ _ _ (pt_sound h1 hQ t _ a w.drew (closed_none _) h2 h.out)
  rw [h3] at this
  exact wp_region_any hm this

variable {a : Act} {w : World} {o o' : Oper} {s t : PTo}
theorem pt_nil (h : Q .normal a w) : PlannedT P ops Q .nil a w := ⟨h⟩
theorem pt_free (hw : Region.wanted o (yielded ops a.tmps) = true) (h : ∀ K : Act → Prop, (∀ a', PlannedT P ops Q t a' w → K a') → o.quiet P a (Ext w) K) : PlannedT P ops Q (.free o t) a w := by
  refine ⟨?_⟩
  unfold wpT
  rw [if_pos hw]
  exact h _ fun _ h => h.out
theorem pt_pure (hw : Region.wanted o (yielded ops a.tmps) = true) (h : ∀ K : Act → Prop, (∀ a', PlannedT P ops Q t a' w → K a') → o.quiet P a (fun _ => True) K) : PlannedT P ops Q (.pure o t) a w := by
  refine ⟨?_⟩
  unfold wpT
  rw [if_pos hw]
  exact h _ fun _ h => h.out
theorem pt_pure_skip (hw : Region.wanted o (yielded ops a.tmps) = false) (h : PlannedT P ops Q t (a.put o.dst undef) w) : PlannedT P ops Q (.pure o t) a w := by
  refine ⟨?_⟩
  unfold wpT
  rw [if_neg (by rw [hw]; exact Bool.false_ne_true)]
  exact h.out
theorem pt_at {v : Value} (hw : Region.wanted o (yielded ops a.tmps) = true) (h1 : ∀ W, Ext w W → (execOp a.eval o).run P W = .ok (.value v) W) (h2 : PlannedT P ops Q t (a.put o.dst v) w) : PlannedT P ops Q (.free o t) a w := by
  refine ⟨?_⟩
  unfold wpT
  rw [if_pos hw]
  refine ⟨v, fun W hW => ?_, h2.out⟩
  unfold Oper.quietAt
  rw [h1 W hW]
  exact ⟨rfl, rfl⟩
/-- a load of one cell -/
theorem pt_load {T : TypeId} {x : Operand} {p : Addr} {v : Value} (hrun : ∀ W, W.cell? p = some v → (Instr.loadAt T (.pointer (some p))).run P W = .ok v W) (hc : w.cell? p = some v) (hlt : p.block < w.heap.size)
    (hw : Region.wanted o (yielded ops a.tmps) = true) (ho : o.op = .load T x) (hx : a.eval x = .pointer (some p)) (h2 : PlannedT P ops Q t (a.put o.dst v) w) : PlannedT P ops Q (.free o t) a w := by
  refine pt_at hw (fun W hW => ?_) h2
  unfold execOp
  rw [ho]
  simp only [hx, Sem.run_bind, hrun W ((hW.cell hlt).trans hc), Result.andThen_ok]
  rfl
theorem pt_free_skip (hw : Region.wanted o (yielded ops a.tmps) = false) (h : PlannedT P ops Q t (a.put o.dst undef) w) : PlannedT P ops Q (.free o t) a w := by
  refine ⟨?_⟩
  unfold wpT
  rw [if_neg (by rw [hw]; exact Bool.false_ne_true)]
  exact h.out
theorem pt_eff (hw : Region.wanted o (yielded ops a.tmps) = true) (h : ∀ K : Act → World → Prop, (∀ a' w', Ext w w' → PlannedT P ops Q t a' w' → K a' w') → o.wp P a w K Q) : PlannedT P ops Q (.eff o t) a w := by
  refine ⟨?_⟩
  unfold wpT
  rw [if_pos hw]
  exact h _ fun _ _ h1 h2 => ⟨h1, h2.out⟩
theorem pt_eff_skip (hw : Region.wanted o (yielded ops a.tmps) = false) (h : PlannedT P ops Q t (a.put o.dst undef) w) : PlannedT P ops Q (.eff o t) a w := by
  refine ⟨?_⟩
  unfold wpT
  rw [if_neg (by rw [hw]; exact Bool.false_ne_true)]
  exact h.out
theorem pt_alt (h1 : PlannedT P ops Q (.eff o s) a w) (h2 : PlannedT P ops Q (.eff o' t) a w) : PlannedT P ops Q (.alt o s o' t) a w := by
  have e1 := h1.out
  have e2 := h2.out
  unfold wpT at e1 e2
  refine ⟨?_⟩
  unfold wpT
  exact ⟨e1, e2⟩
theorem pt_last (hw : Region.wanted o (yielded ops a.tmps) = true) (h : ∀ K : Act → World → Prop, (∀ a' w', PlannedT P ops Q t a' w' → K a' w') → o.wp P a w K Q) : PlannedT P ops Q (.last o t) a w := by
  refine ⟨?_⟩
  unfold wpT
  rw [if_pos hw]
  exact h _ fun _ _ h2 => h2.out
end
end Go.Proofs.YtgminjlnnpaefaaGreatDoor
