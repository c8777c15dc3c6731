/- Regions that draw their order: as in PlanT, where effects may write what lies beyond a bound B: what lies below stays. Made from XPlanT (Ext replaced by ExtB). -/
import Derived.Test.YthoccmgfpjfkoaaPlanT
namespace Go.Proofs.Ythoccmgfpjfkoaa.PB
open Go.RowKit Go.Proofs.Ythoccmgfpjfkoaa
section
variable {P : Program} {ops : Array Oper} {Q : Exit → Act → World → Prop} {md : Region.Mode} {tail : List Nat} {B : Nat}
def ExtB (B : Nat) (w W : World) : Prop := Below B w W
theorem ExtB.refl (B : Nat) (w : World) : ExtB B w w := Below.refl _ _
theorem ExtB.trans {a b c : World} (h : ExtB B a b) (k : ExtB B b c) : ExtB B a c := Below.trans h k

def wpT (B : Nat) (P : Program) (ops : Array Oper) (Q : Exit → Act → World → Prop) : PTo → Act → World → Prop
  | .nil, a, w => Q .normal a w
  | .pure o t, a, w => if Region.wanted o (yielded ops a.tmps) = true then o.quiet P a (fun _ => True) (fun a' => wpT B P ops Q t a' w) else wpT B P ops Q t (a.put o.dst undef) w
  | .free o t, a, w => if Region.wanted o (yielded ops a.tmps) = true then o.quiet P a (ExtB B w) (fun a' => wpT B P ops Q t a' w) else wpT B P ops Q t (a.put o.dst undef) w
  | .eff o t, a, w => if Region.wanted o (yielded ops a.tmps) = true then o.wp P a w (fun a' w' => ExtB B w w' ∧ wpT B P ops Q t a' w') Q else wpT B P ops Q t (a.put o.dst undef) w
  | .alt o s o' t, a, w => (if Region.wanted o (yielded ops a.tmps) = true then o.wp P a w (fun a' w' => ExtB B w w' ∧ wpT B P ops Q s a' w') Q else wpT B P ops Q s (a.put o.dst undef) w) ∧
      (if Region.wanted o' (yielded ops a.tmps) = true then o'.wp P a w (fun a' w' => ExtB B w w' ∧ wpT B P ops Q t a' w') Q else wpT B P ops Q t (a.put o'.dst undef) w)
  | .last o t, a, w => if Region.wanted o (yielded ops a.tmps) = true then o.wp P a w (fun a' w' => wpT B P ops Q t a' w') Q else wpT B P ops Q t (a.put o.dst undef) w

theorem last_sound : ∀ (t : PT) (listed : Array Bool) (a : Act) (w : World), ptLast md ops t listed = true → wpT B P ops Q (t.at_ ops) a w → wpAny P md ops Q t.size listed a w
  | .nil, listed, a, w, hok, h => ⟨by simpa [ptLast] using hok, h⟩
  | .last i t, listed, a, w, hok, h => by
    simp only [ptLast, Bool.and_eq_true, beq_iff_eq] at hok
    obtain ⟨h1, h2⟩ := hok
    refine ⟨fun h => (by rw [h1] at h; cases h), fun j hj => ?_⟩
    obtain rfl : j = i := by rw [h1] at hj; simpa using hj
    have hi := ready_get (md := md) (ops := ops) (listed := listed) (i := j) hj
    simp only [PT.at_, wpT] at h
    unfold wpOp
    simp only [hi]
    by_cases hw : Region.wanted (ops.getD j default) (yielded ops a.tmps) = true
    · rw [if_pos hw] at h ⊢
      exact .inl (Oper.wp_mono (fun a' w' hh => last_sound t _ a' w' h2 hh) h)
    · rw [if_neg hw] at h ⊢
      exact last_sound t _ _ w h2 h
  | .pure _ _, _, _, _, hok, _ => by simp [ptLast] at hok
  | .free _ _, _, _, _, hok, _ => by simp [ptLast] at hok
  | .eff _ _, _, _, _, hok, _ => by simp [ptLast] at hok
  | .alt _ _ _ _, _, _, _, hok, _ => by simp [ptLast] at hok

/-- an effect -/
theorem eff_sound {i : Nat} {listed : Array Bool} {a : Act} {w : World} {n : Nat} {R : Act → World → Prop} (hi : i ∈ Region.ready md ops listed) (htl : ¬ tail.contains i = true)
    (hR : ∀ a' w', R a' w' → wpAnyD P md ops Q (ExtB B w') tail n (listed.setIfInBounds i true) a' w')
    (h : if Region.wanted (ops.getD i default) (yielded ops a.tmps) = true then (ops.getD i default).wp P a w (fun a' w' => ExtB B w w' ∧ R a' w') Q else R (a.put (ops.getD i default).dst undef) w) :
    wpOp P ops Q i (fun a' w' => if tail.contains i = true then wpAny P md ops Q n (listed.setIfInBounds i true) a' w' else ExtB B w w' ∧ wpAnyD P md ops Q (ExtB B w) tail n (listed.setIfInBounds i true) a' w') a w := by
  have hg := ready_get hi
  unfold wpOp
  simp only [hg, htl]
  by_cases hw : Region.wanted (ops.getD i default) (yielded ops a.tmps) = true
  · rw [if_pos hw] at h ⊢
    exact .inl (Oper.wp_mono (fun a' w' hh => ⟨hh.1, wpAnyD_mono (fun W hW => hh.1.trans hW) _ _ _ _ (hR a' w' hh.2)⟩) h)
  · rw [if_neg hw] at h ⊢
    exact ⟨ExtB.refl B w, hR _ _ h⟩

theorem pt_sound (hs : Region.noSelect ops = true) (hQ : ∀ c a d v w, Q (.panic c) (a.put d v) w → Q (.panic c) a w) : ∀ (t : PT) (listed : Array Bool) (a : Act) (w : World), Closed md ops listed → ptOk md ops tail t listed = true →
    wpT B P ops Q (t.at_ ops) a w → wpAnyD P md ops Q (ExtB B w) tail t.size listed a w
  | .nil, listed, a, w, _, hok, h => ⟨by simpa [ptOk] using hok, h⟩
  | .pure i t, listed, a, w, hcl, hok, h => by
    simp only [ptOk, Bool.and_eq_true, Bool.not_eq_true'] at hok
    obtain ⟨⟨⟨⟨h1, h2⟩, h3⟩, h5⟩, h4⟩ := hok
    have hr : i ∈ Region.ready md ops listed := by simpa using h2
    have hi := ready_get (md := md) (ops := ops) hr
    simp only [PT.at_, wpT] at h
    by_cases hw : Region.wanted (ops.getD i default) (yielded ops a.tmps) = true
    · rw [if_pos hw] at h
      obtain ⟨v, hy, hk⟩ := yieldsIf_of_quiet h3 hw h
      exact wpAnyD_pure hi (Region.noSelect_spec hs) (fun c a w => hQ c a _ _ w) (by rw [h5]; exact Bool.false_ne_true) _ listed a w (Region.free_spec hi h1) hr (hy.imp (fun ⟨x, y⟩ => ⟨x, fun w => y w trivial⟩) id) (ExtB.refl B w) (pt_sound hs hQ t _ _ w (hcl.add hr) h4 hk)
    · rw [if_neg hw] at h
      exact wpAnyD_pure hi (Region.noSelect_spec hs) (fun c a w => hQ c a _ _ w) (by rw [h5]; exact Bool.false_ne_true) _ listed a w (Region.free_spec hi h1) hr (.inr ⟨by simpa using hw, rfl⟩) (ExtB.refl B w) (pt_sound hs hQ t _ _ w (hcl.add hr) h4 h)
  | .free i t, listed, a, w, hcl, hok, h => by
    simp only [ptOk, Bool.and_eq_true] at hok
    obtain ⟨⟨⟨⟨h1, h2⟩, h3⟩, h5⟩, h4⟩ := hok
    have hr : i ∈ Region.ready md ops listed := by simpa using h2
    have hi := ready_get (md := md) (ops := ops) hr
    have ht : ∀ j ∈ tail, waitsT md ops ops.size j i = true := by simpa using h5
    simp only [PT.at_, wpT] at h
    by_cases hw : Region.wanted (ops.getD i default) (yielded ops a.tmps) = true
    · rw [if_pos hw] at h
      obtain ⟨v, hy, hk⟩ := yieldsIf_of_quiet h3 hw h
      exact wpAnyD_first hi (Region.noSelect_spec hs) (fun c a w => hQ c a _ _ w) ht _ listed a w hcl (Region.free_spec hi h1) hr hy (ExtB.refl B w) (pt_sound hs hQ t _ _ w (hcl.add hr) h4 hk)
    · rw [if_neg hw] at h
      exact wpAnyD_first hi (Region.noSelect_spec hs) (fun c a w => hQ c a _ _ w) ht _ listed a w hcl (Region.free_spec hi h1) hr (.inr ⟨by simpa using hw, rfl⟩) (ExtB.refl B w) (pt_sound hs hQ t _ _ w (hcl.add hr) h4 h)
  | .eff i t, listed, a, w, hcl, hok, h => by
    simp only [ptOk, Bool.and_eq_true, beq_iff_eq, Bool.not_eq_true'] at hok
    obtain ⟨⟨h1, h2⟩, h4⟩ := hok
    refine ⟨fun h => (by rw [h1] at h; cases h), fun j hj => ?_⟩
    obtain rfl : j = i := by rw [h1] at hj; simpa using hj
    exact eff_sound hj (by rw [h2]; exact Bool.false_ne_true) (fun a' w' h' => pt_sound hs hQ t _ a' w' (hcl.add hj) h4 h') h
  | .alt i s k t, listed, a, w, hcl, hok, h => by
    simp only [ptOk, Bool.and_eq_true, beq_iff_eq, Bool.not_eq_true'] at hok
    obtain ⟨⟨⟨⟨⟨h1, h2⟩, h3⟩, hsz⟩, h4⟩, h5⟩ := hok
    simp only [PT.at_, wpT] at h
    refine ⟨fun h => (by rw [h1] at h; cases h), fun j hj => ?_⟩
    have hj' := hj
    rw [h1] at hj'
    rcases (by simpa using hj' : j = i ∨ j = k) with rfl | rfl
    · exact eff_sound hj (by rw [h2]; exact Bool.false_ne_true) (fun a' w' h' => pt_sound hs hQ s _ a' w' (hcl.add hj) h4 h') h.1
    · rw [hsz]
      exact eff_sound hj (by rw [h3]; exact Bool.false_ne_true) (fun a' w' h' => pt_sound hs hQ t _ a' w' (hcl.add hj) h5 h') h.2
  | .last i t, listed, a, w, hcl, hok, h => by
    simp only [ptOk, Bool.and_eq_true, beq_iff_eq] at hok
    obtain ⟨⟨h1, h2⟩, h4⟩ := hok
    refine ⟨fun h => (by rw [h1] at h; cases h), fun j hj => ?_⟩
    obtain rfl : j = i := by rw [h1] at hj; simpa using hj
    have hi := ready_get (md := md) (ops := ops) (listed := listed) (i := j) hj
    simp only [PT.at_, wpT] at h
    unfold wpOp
    simp only [hi, h2, if_true]
    by_cases hw : Region.wanted (ops.getD j default) (yielded ops a.tmps) = true
    · rw [if_pos hw] at h ⊢
      exact .inl (Oper.wp_mono (fun a' w' hh => last_sound t _ a' w' h4 hh) h)
    · rw [if_neg hw] at h ⊢
      exact last_sound t _ _ w h4 h

/-- the walk by a plan, closed -/
structure PlannedT (B : Nat) (P : Program) (ops : Array Oper) (Q : Exit → Act → World → Prop) (t : PTo) (a : Act) (w : World) : Prop where
  out : wpT B P ops Q t a w

theorem wp_region_tree (B : Nat) {id : Nat} {a : Act} {w : World} (tail : List Nat) (t : PT) (hm : P.follows .mixedOrders = true) (hok : (Region.noSelect ops && ptOk .any ops tail t (Array.replicate ops.size false) && (t.size == ops.size)) = true)
    (hQ : ∀ c a d v w, Q (.panic c) (a.put d v) w → Q (.panic c) a w) (h : PlannedT B P ops Q (t.at_ ops) a w.drew) : (Code.region id ops true).wp P Q a w := by
  simp only [Bool.and_eq_true, beq_iff_eq] at hok
  obtain ⟨⟨h1, h2⟩, h3⟩ := hok
  have := wpAny_of_D _ _ _ _ (pt_sound h1 hQ t _ a w.drew (closed_none _) h2 h.out)
  rw [h3] at this
  exact wp_region_any hm this

variable {a : Act} {w : World} {o o' : Oper} {s t : PTo}
theorem pt_nil (h : Q .normal a w) : PlannedT B P ops Q .nil a w := ⟨h⟩
theorem pt_free (hw : Region.wanted o (yielded ops a.tmps) = true) (h : ∀ K : Act → Prop, (∀ a', PlannedT B P ops Q t a' w → K a') → o.quiet P a (ExtB B w) K) : PlannedT B P ops Q (.free o t) a w := by
  refine ⟨?_⟩
  unfold wpT
  rw [if_pos hw]
  exact h _ fun _ h => h.out
theorem pt_pure (hw : Region.wanted o (yielded ops a.tmps) = true) (h : ∀ K : Act → Prop, (∀ a', PlannedT B P ops Q t a' w → K a') → o.quiet P a (fun _ => True) K) : PlannedT B P ops Q (.pure o t) a w := by
  refine ⟨?_⟩
  unfold wpT
  rw [if_pos hw]
  exact h _ fun _ h => h.out
theorem pt_pure_skip (hw : Region.wanted o (yielded ops a.tmps) = false) (h : PlannedT B P ops Q t (a.put o.dst undef) w) : PlannedT B P ops Q (.pure o t) a w := by
  refine ⟨?_⟩
  unfold wpT
  rw [if_neg (by rw [hw]; exact Bool.false_ne_true)]
  exact h.out
theorem pt_at {v : Value} (hw : Region.wanted o (yielded ops a.tmps) = true) (h1 : ∀ W, ExtB B w W → (execOp a.eval o).run P W = .ok (.value v) W) (h2 : PlannedT B P ops Q t (a.put o.dst v) w) : PlannedT B P ops Q (.free o t) a w := by
  refine ⟨?_⟩
  unfold wpT
  rw [if_pos hw]
  refine ⟨v, fun W hW => ?_, h2.out⟩
  unfold Oper.quietAt
  rw [h1 W hW]
  exact ⟨rfl, rfl⟩
/-- a load of one cell -/
theorem pt_load {T : TypeId} {x : Operand} {p : Addr} {v : Value} (hrun : ∀ W, W.cell? p = some v → (Instr.loadAt T (.pointer (some p))).run P W = .ok v W) (hc : w.cell? p = some v) (hlt : p.block < B)
    (hw : Region.wanted o (yielded ops a.tmps) = true) (ho : o.op = .load T x) (hx : a.eval x = .pointer (some p)) (h2 : PlannedT B P ops Q t (a.put o.dst v) w) : PlannedT B P ops Q (.free o t) a w := by
  refine pt_at hw (fun W hW => ?_) h2
  unfold execOp
  rw [ho]
  simp only [hx, Sem.run_bind, hrun W ((hW.cell hlt).trans hc), Result.andThen_ok]
  rfl
theorem pt_free_skip (hw : Region.wanted o (yielded ops a.tmps) = false) (h : PlannedT B P ops Q t (a.put o.dst undef) w) : PlannedT B P ops Q (.free o t) a w := by
  refine ⟨?_⟩
  unfold wpT
  rw [if_neg (by rw [hw]; exact Bool.false_ne_true)]
  exact h.out
theorem pt_eff (hw : Region.wanted o (yielded ops a.tmps) = true) (h : ∀ K : Act → World → Prop, (∀ a' w', ExtB B w w' → PlannedT B P ops Q t a' w' → K a' w') → o.wp P a w K Q) : PlannedT B P ops Q (.eff o t) a w := by
  refine ⟨?_⟩
  unfold wpT
  rw [if_pos hw]
  exact h _ fun _ _ h1 h2 => ⟨h1, h2.out⟩
theorem pt_eff_skip (hw : Region.wanted o (yielded ops a.tmps) = false) (h : PlannedT B P ops Q t (a.put o.dst undef) w) : PlannedT B P ops Q (.eff o t) a w := by
  refine ⟨?_⟩
  unfold wpT
  rw [if_neg (by rw [hw]; exact Bool.false_ne_true)]
  exact h.out
theorem pt_alt (h1 : PlannedT B P ops Q (.eff o s) a w) (h2 : PlannedT B P ops Q (.eff o' t) a w) : PlannedT B P ops Q (.alt o s o' t) a w := by
  have e1 := h1.out
  have e2 := h2.out
  unfold wpT at e1 e2
  refine ⟨?_⟩
  unfold wpT
  exact ⟨e1, e2⟩
theorem pt_last (hw : Region.wanted o (yielded ops a.tmps) = true) (h : ∀ K : Act → World → Prop, (∀ a' w', PlannedT B P ops Q t a' w' → K a' w') → o.wp P a w K Q) : PlannedT B P ops Q (.last o t) a w := by
  refine ⟨?_⟩
  unfold wpT
  rw [if_pos hw]
  exact h _ fun _ _ h2 => h2.out
theorem pt_loadC {T : TypeId} {x : Operand} {p : Addr} {v : Value} (hrun : ∀ W, W.heap[p.block]? = w.heap[p.block]? → (Instr.loadAt T (.pointer (some p))).run P W = .ok v W) (hlt : p.block < B)
    (hw : Region.wanted o (yielded ops a.tmps) = true) (ho : o.op = .load T x) (hx : a.eval x = .pointer (some p)) (h2 : PlannedT B P ops Q t (a.put o.dst v) w) : PlannedT B P ops Q (.free o t) a w := by
  refine pt_at hw (fun W hW => ?_) h2
  unfold execOp
  rw [ho]
  simp only [hx, Sem.run_bind, hrun W (hW.block p.block hlt), Result.andThen_ok]
  rfl
end
end Go.Proofs.Ythoccmgfpjfkoaa.PB
