/- A region that draws its order, whose reads are stable while memory only grows, and whose calls stand in one order: ONE WALK SERVES EVERY ORDER. No program in sight. -/
import Derived.Test.YtgminjlnnpaefaaGreatDoorMem
import Derived.OrdersHeld
import Derived.Deep.Quiet
import Derived.Deep.RegionHeld
namespace Go.Proofs.YtgminjlnnpaefaaGreatDoor
open Go.RowKit

/-- memory has only grown -/
def Ext (w W : World) : Prop := Below w.heap.size w W
theorem Ext.refl (w : World) : Ext w w := Below.refl _ _
theorem Ext.trans {a b c : World} (h : Ext a b) (k : Ext b c) : Ext a c := Below.trans h (Below.mono k h.size)

/-- an operation that, where it goes well, hands back a value (no call of a Go function, no store) -/
def plainOp : Op → Bool
  | .move _ | .assign _ | .pick .. | .load .. | .binOp .. | .unOp .. | .convert .. | .slice .. | .fieldAddr .. | .field .. | .indexAddr .. | .index .. | .extract .. | .makeFunc .. | .makeInterface .. | .lookup .. | .build .. | .nilCheck _ => true
  | .call { callee := .builtin .len, .. } | .call { callee := .builtin .max, .. } | .call { callee := .builtin .min, .. } => true
  | _ => false

theorem value_of_v {P : Program} {s : Sem Value} {W w' : World} {nx : Next} (h : ((do pure (Next.value (← s)) : Sem Next)).run P W = .ok nx w') : ∃ u, nx = .value u := by
  simp only [Sem.run_bind] at h
  cases hs : s.run P W with
  | ok a w1 => rw [hs] at h; simp [Result.andThen] at h; exact ⟨_, h.1.symm⟩
  | halt x w1 => rw [hs] at h; simp [Result.andThen] at h

theorem plain_value {P : Program} {o : Oper} {ρ : Operand → Value} {W w' : World} {nx : Next} (hp : plainOp o.op = true) (h : (execOp ρ o).run P W = .ok nx w') : ∃ u, nx = .value u := by
  unfold execOp at h
  cases ho : o.op with
  | move x => rw [ho] at h; simp at h; exact ⟨_, h.1.symm⟩
  | assign x => rw [ho] at h; simp at h; exact ⟨_, h.1.symm⟩
  | pick c a b =>
    rw [ho] at h
    simp only [Sem.run_bind] at h
    cases hs : (asBool (ρ c)).run P W with
    | ok x w1 => rw [hs] at h; simp [Result.andThen] at h; exact ⟨_, h.1.symm⟩
    | halt x w1 => rw [hs] at h; simp [Result.andThen] at h
  | call c =>
    rw [ho] at h hp
    obtain ⟨callee, args, argTypes⟩ := c
    cases callee with
    | builtin b =>
      simp only [resolve, invoke, Sem.run_bind, Sem.run_pure, Result.andThen_ok] at h
      cases b <;> simp [plainOp] at hp <;> exact value_of_v h
    | value f => simp [plainOp] at hp
    | invoke r n => simp [plainOp] at hp
  | load t a => rw [ho] at h; exact value_of_v h
  | binOp op t x y t' => rw [ho] at h; exact value_of_v h
  | unOp op t x => rw [ho] at h; exact value_of_v h
  | convert s d x => rw [ho] at h; exact value_of_v h
  | slice t x lo hi mx => rw [ho] at h; exact value_of_v h
  | fieldAddr s x f => rw [ho] at h; exact value_of_v h
  | field s x f => rw [ho] at h; exact value_of_v h
  | indexAddr t x ix => rw [ho] at h; exact value_of_v h
  | index t x ix => rw [ho] at h; exact value_of_v h
  | extract t ix => rw [ho] at h; exact value_of_v h
  | makeFunc fn f c => rw [ho] at h; exact value_of_v h
  | makeInterface t x => rw [ho] at h; exact value_of_v h
  | lookup t x ix ok => rw [ho] at h; exact value_of_v h
  | build t fs => rw [ho] at h; exact value_of_v h
  | nilCheck x =>
    rw [ho] at h
    simp only at h
    split at h
    · exact absurd h (by simp [runtimePanic])
    · exact absurd h (by simp [runtimePanic])
    · exact absurd h (by simp [runtimePanic])
    · split at h
      · exact absurd h (by simp [runtimePanic])
      · simp only [Sem.run_bind] at h
        simp only [run_program, Result.andThen_ok] at h
        rename_i t1 w1 _
        cases hs : (nilAhead (P.types.size + Made.depth) t1 w1 _).run P W with
        | ok b w2 =>
          rw [hs] at h
          simp only [Result.andThen_ok] at h
          split at h
          · simp [run_unsupported, Result.andThen] at h
          · simp at h; exact ⟨_, h.1.symm⟩
        | halt b w2 => rw [hs] at h; simp [Result.andThen] at h
      · simp at h; exact ⟨_, h.1.symm⟩
    · simp at h; exact ⟨_, h.1.symm⟩
  | _ => rw [ho] at hp; simp [plainOp] at hp
section
variable {P : Program} {ops : Array Oper} {Q : Exit → Act → World → Prop} {md : Region.Mode}

/-- The walk by a plan: '(o, false)': a plain operation, stable while memory grows; '(o, true)': an operation that may make memory, when nothing else may come up. -/
def wpPlan (P : Program) (ops : Array Oper) (Q : Exit → Act → World → Prop) : List (Oper × Bool) → Act → World → Prop
  | [], a, w => Q .normal a w
  | (o, false) :: r, a, w => if Region.wanted o (yielded ops a.tmps) = true then o.quiet P a (Ext w) (fun a' => wpPlan P ops Q r a' w) else wpPlan P ops Q r (a.put o.dst undef) w
  | (o, true) :: r, a, w => if Region.wanted o (yielded ops a.tmps) = true then o.wp P a w (fun a' w' => Ext w w' ∧ wpPlan P ops Q r a' w') Q else wpPlan P ops Q r (a.put o.dst undef) w

def planOk (md : Region.Mode) (ops : Array Oper) : List (Nat × Bool) → Array Bool → Bool
  | [], listed => (Region.ready md ops listed).isEmpty
  | (i, false) :: r, listed => Region.free md ops listed i && (Region.ready md ops listed).contains i && plainOp (ops.getD i default).op && planOk md ops r (listed.setIfInBounds i true)
  | (i, true) :: r, listed => (Region.ready md ops listed == [i]) && planOk md ops r (listed.setIfInBounds i true)

theorem wpAnyH_mono {S S' : World → Prop} (hS : ∀ w, S' w → S w) : ∀ (fuel : Nat) (listed : Array Bool) (a : Act) (w : World), wpAnyH P md ops Q S' fuel listed a w → wpAnyH P md ops Q S fuel listed a w
  | 0, _, _, _, h => h
  | fuel + 1, _, _, _, h => ⟨h.1, fun i hi => wpOp_mono (fun a' w' h' => ⟨hS _ h'.1, wpAnyH_mono hS fuel _ a' w' h'.2⟩) (h.2 i hi)⟩

theorem ready_get {i : Nat} {listed : Array Bool} (h : i ∈ Region.ready md ops listed) : ops[i]? = some (ops.getD i default) := by
  obtain ⟨_, o, ho, _⟩ := mem_ready.1 h
  rw [ho]
  simp [Array.getD, (Array.getElem?_eq_some_iff.1 ho).1, (Array.getElem?_eq_some_iff.1 ho).2]

theorem yieldsIf_of_quiet {o : Oper} {a : Act} {C : World → Prop} {K : Act → Prop} (hp : plainOp o.op = true) (hw : Region.wanted o (yielded ops a.tmps) = true) (h : o.quiet P a C K) : ∃ v, YieldsIf P ops C o v a ∧ K (a.put o.dst v) := by
  obtain ⟨v, h1, h2⟩ := h
  refine ⟨v, .inl ⟨hw, fun w hC => ?_⟩, h2⟩
  have h3 := h1 w hC
  unfold Oper.quietAt at h3
  cases hr : (execOp a.eval o).run P w with
  | halt x w' => rw [hr] at h3; exact h3.elim
  | ok nx w' =>
    obtain ⟨u, rfl⟩ := plain_value hp hr
    rw [hr] at h3
    obtain ⟨e1, e2⟩ := h3
    rw [e1, e2]

theorem plan_sound (hs : Region.noSelect ops = true) (hQ : ∀ c a d v w, Q (.panic c) (a.put d v) w → Q (.panic c) a w) : ∀ (plan : List (Nat × Bool)) (listed : Array Bool) (a : Act) (w : World), planOk md ops plan listed = true →
    wpPlan P ops Q (plan.map fun p => (ops.getD p.1 default, p.2)) a w → wpAnyH P md ops Q (Ext w) plan.length listed a w
  | [], listed, a, w, hok, h => ⟨by simpa [planOk] using hok, h⟩
  | (i, false) :: r, listed, a, w, hok, h => by
    simp only [planOk, Bool.and_eq_true] at hok
    obtain ⟨⟨⟨h1, h2⟩, h3⟩, h4⟩ := hok
    have hi := ready_get (md := md) (ops := ops) (by simpa using h2)
    simp only [List.map_cons, wpPlan] at h
    by_cases hw : Region.wanted (ops.getD i default) (yielded ops a.tmps) = true
    · rw [if_pos hw] at h
      obtain ⟨v, hy, hk⟩ := yieldsIf_of_quiet h3 hw h
      exact wpAnyH_take hi hs h1 h2 (fun c a w => hQ c a _ _ w) hy (Ext.refl w) (plan_sound hs hQ r _ _ w h4 hk)
    · rw [if_neg hw] at h
      exact wpAnyH_take hi hs h1 h2 (fun c a w => hQ c a _ _ w) (.inr ⟨by simpa using hw, rfl⟩) (Ext.refl w) (plan_sound hs hQ r _ _ w h4 h)
  | (i, true) :: r, listed, a, w, hok, h => by
    simp only [planOk, Bool.and_eq_true, beq_iff_eq] at hok
    obtain ⟨h1, h4⟩ := hok
    have hi := ready_get (md := md) (ops := ops) (listed := listed) (i := i) (by rw [h1]; simp)
    refine wpAnyH_all h1 (by simp) fun j hj => ?_
    obtain rfl : j = i := by simpa using hj
    simp only [List.map_cons, wpPlan] at h
    unfold wpOp
    simp only [hi]
    by_cases hw : Region.wanted (ops.getD j default) (yielded ops a.tmps) = true
    · rw [if_pos hw] at h ⊢
      exact .inl (Oper.wp_mono (fun a' w' hh => ⟨hh.1, wpAnyH_mono (fun W hW => hh.1.trans hW) _ _ _ _ (plan_sound hs hQ r _ a' w' h4 hh.2)⟩) h)
    · rw [if_neg hw] at h ⊢
      exact ⟨Ext.refl w, plan_sound hs hQ r _ _ w h4 h⟩

/-- the walk by a plan, closed: so that no tactic opens it unasked -/
structure Planned (P : Program) (ops : Array Oper) (Q : Exit → Act → World → Prop) (r : List (Oper × Bool)) (a : Act) (w : World) : Prop where
  out : wpPlan P ops Q r a w

/-- The region, by a plan. -/
theorem wp_region_plan {id : Nat} {a : Act} {w : World} (plan : List (Nat × Bool)) (hm : P.follows .mixedOrders = true) (hok : (Region.noSelect ops && planOk .any ops plan (Array.replicate ops.size false) && (plan.length == ops.size)) = true)
    (hQ : ∀ c a d v w, Q (.panic c) (a.put d v) w → Q (.panic c) a w) (h : Planned P ops Q (plan.map fun p => (ops.getD p.1 default, p.2)) a w.drew) : (Code.region id ops true).wp P Q a w := by
  simp only [Bool.and_eq_true, beq_iff_eq] at hok
  obtain ⟨⟨h1, h2⟩, h3⟩ := hok
  have := plan_sound h1 hQ plan _ a w.drew h2 h.out
  rw [h3] at this
  exact wp_region_held hm this

variable {a : Act} {w : World} {o : Oper} {r : List (Oper × Bool)}
theorem plan_nil (h : Q .normal a w) : Planned P ops Q [] a w := ⟨h⟩
theorem plan_skip {b : Bool} (hw : Region.wanted o (yielded ops a.tmps) = false) (h : Planned P ops Q r (a.put o.dst undef) w) : Planned P ops Q ((o, b) :: r) a w := by
  refine ⟨?_⟩
  cases b <;> (unfold wpPlan; rw [if_neg (by rw [hw]; exact Bool.false_ne_true)]; exact h.out)
theorem plan_free (hw : Region.wanted o (yielded ops a.tmps) = true) (h : ∀ K : Act → Prop, (∀ a', Planned P ops Q r a' w → K a') → o.quiet P a (Ext w) K) : Planned P ops Q ((o, false) :: r) a w := by
  refine ⟨?_⟩
  unfold wpPlan
  rw [if_pos hw]
  exact h _ fun _ h => h.out
theorem plan_at {v : Value} (hw : Region.wanted o (yielded ops a.tmps) = true) (h1 : ∀ W, Ext w W → (execOp a.eval o).run P W = .ok (.value v) W) (h2 : Planned P ops Q r (a.put o.dst v) w) : Planned P ops Q ((o, false) :: r) a w := by
  refine ⟨?_⟩
  unfold wpPlan
  rw [if_pos hw]
  refine ⟨v, fun W hW => ?_, h2.out⟩
  unfold Oper.quietAt
  rw [h1 W hW]
  exact ⟨rfl, rfl⟩
/-- a conversion of bytes that is stable while memory grows -/
theorem plan_conv {S D : TypeId} {x : Operand} {val v : Value} (ho : o.op = .convert S D x) (hx : a.eval x = val) (hw : Region.wanted o (yielded ops a.tmps) = true) (h1 : ∀ W, Ext w W → (convert S D val).run P W = .ok v W)
    (h2 : Planned P ops Q r (a.put o.dst v) w) : Planned P ops Q ((o, false) :: r) a w := by
  refine plan_at hw (fun W hW => ?_) h2
  unfold execOp
  rw [ho]
  simp only [hx, Sem.run_bind, h1 W hW, Result.andThen_ok]
  rfl
theorem plan_eff (hw : Region.wanted o (yielded ops a.tmps) = true) (h : ∀ K : Act → World → Prop, (∀ a' w', Ext w w' → Planned P ops Q r a' w' → K a' w') → o.wp P a w K Q) : Planned P ops Q ((o, true) :: r) a w := by
  refine ⟨?_⟩
  unfold wpPlan
  rw [if_pos hw]
  exact h _ fun _ _ h1 h2 => ⟨h1, h2.out⟩

/-- THE PLAN: whatever plain operation may come up, first; else the one that is left. -/
def mkPlan (ops : Array Oper) : Nat → Array Bool → List (Nat × Bool)
  | 0, _ => []
  | f + 1, listed =>
    let rs := Region.ready .any ops listed
    match rs.find? (fun i => plainOp (ops.getD i default).op && Region.free .any ops listed i) with
    | some i => (i, false) :: mkPlan ops f (listed.setIfInBounds i true)
    | none => match rs with
      | i :: _ => (i, true) :: mkPlan ops f (listed.setIfInBounds i true)
      | [] => []
end

end Go.Proofs.YtgminjlnnpaefaaGreatDoor
