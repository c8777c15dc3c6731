/- The machine of plain data: operations one after the other, regions whose order is drawn. No program in sight. -/
import Derived.Test.YtehbfpcfbpbllaaGreatDoorVmG
namespace Go.Proofs.YtehbfpcfbpbllaaGreatDoor.VM
open Go Go.RowKit
set_option linter.unusedSectionVars false
variable [Sy]
section
variable {P : Program} {E : Env} {σ : Mp} {w w' : World} {N : Nat} {h : Hp}
/-- a deferred call beside the machine's -/
inductive RepD (σ : Mp) : List (Nat × List V) → List Deferred → Prop
  | nil : RepD σ [] []
  | cons (f : Nat) (as : List V) (d : Deferred) (cap : Array Value) (l : List (Nat × List V)) (m : List Deferred) : d.target = .fn (.func f) cap → RepL σ as (d.args ++ cap).toList → RepD σ l m → RepD σ ((f, as) :: l) (d :: m)
theorem RepD.mono {σ τ : Mp} (h : Mp.le σ τ) : ∀ {l : List (Nat × List V)} {m : List Deferred}, RepD σ l m → RepD τ l m
  | _, _, .nil => .nil
  | _, _, .cons f as d cap l m h1 h2 s => .cons f as d cap l m h1 (h2.mono h) (RepD.mono h s)
/-- slots beside the frame's, but for some -/
structure RepX (σ : Mp) (t : Tm) (n : Nat) (a : Array Value) (S : Nat → Prop) : Prop where
  size : a.size = n
  at_ : ∀ i, ¬ S i → Rep σ ((t.get i).getD undefV) (a.getD i undef)
/-- the machine's state beside an act and a world -/
structure RelS (N : Nat) (σ : Mp) (s : St) (a : Act) (w : World) (S : Nat → Prop) : Prop where
  t : RepX σ s.t s.n a.tmps S
  h : Rel N σ s.h w
  d : RepD σ s.d a.defers
/-- what a call's machine tells is so -/
def CallOK (P : Program) (call : CallF) : Prop :=
  ∀ (N : Nat) f as h v h', call f as h = some (v, h') → ∀ (σ : Mp) (w : World) (xs : List Value), Rel N σ h w → RepL σ as xs →
    match (callFunc f xs.toArray).run P w with
    | .ok (.value x) w' => Does N σ h w v h' x w'
    | .ok (.enter g ys) w' => Calls P g ys w' fun e w'' => ∃ x, e = .returned x ∧ Does N σ h w v h' x w''
    | _ => False
section
variable {S : Nat → Prop}
theorem RepX.mono {σ τ : Mp} (hle : Mp.le σ τ) {t : Tm} {n : Nat} {a : Array Value} (r : RepX σ t n a S) : RepX τ t n a S := ⟨r.size, fun i h => (r.at_ i h).mono hle⟩
theorem getD_set_ne {a : Array Value} {d i : Nat} {x : Value} (h : i ≠ d) : (a.setIfInBounds d x).getD i undef = a.getD i undef := by
  simp only [Array.getD]
  by_cases hi : i < a.size
  · simp [hi, Ne.symm h]
  · simp [hi]
theorem RepX.put {t : Tm} {n : Nat} {a : Array Value} (r : RepX σ t n a S) {d : Nat} {v : V} {x : Value} (hd : d < n) (hr : Rep σ v x) : RepX σ (t.put d v) n (a.setIfInBounds d x) S := by
  refine ⟨by simp [r.size], fun i hS => ?_⟩
  rw [T.get_put]
  by_cases h : i = d
  · subst h
    have : i < a.size := by rw [r.size]; exact hd
    simp [Array.getD, this, hr]
  · rw [if_neg h, getD_set_ne h]
    exact r.at_ i hS
theorem put_sound {s s' : St} {a : Act} {dst : Option Tmp} {v : V} {x : Value} {h' : Hp} {σ' : Mp} (R : RelS N σ s a w S) (hs : s.put dst v h' = some s') (hle : Mp.le σ σ') (hr : Rep σ' v x) (hh : Rel N σ' h' w') : RelS N σ' s' (a.put dst x) w' S := by
  rw [St.put_eq] at hs
  cases dst with
  | none =>
    simp only [Option.some.injEq] at hs
    subst hs
    exact ⟨R.t.mono hle, hh, R.d.mono hle⟩
  | some d =>
    simp only at hs
    cases hb : Nat.blt d s.n with
    | false => rw [hb] at hs; cases hs
    | true =>
      rw [hb] at hs
      simp only [cond_true, Option.some.injEq] at hs
      subst hs
      rw [blt_d, decide_eq_true_iff] at hb
      exact ⟨(R.t.mono hle).put hb hr, hh, R.d.mono hle⟩
theorem rep_undef {v : V} (h : Rep σ v undef) : v = undefV := by
  have key : ∀ x, x = undef → Rep σ v x → v = undefV := fun x hx hr => by
    cases hr <;> simp only [undef] at hx <;> (try (cases hx; done))
    case any h1 => rw [hx] at h1; cases h1
    rename_i l xs hl
    simp only [Value.tuple.injEq] at hx
    have : xs = [] := by simpa using hx
    subst this
    cases hl
    rfl
  exact key _ rfl h
theorem wanted_sound {t : Tm} {a : Act} {ops : Array Oper} {o : Oper} {b : Bool} (h : wantedV t ops.toList o.guard = some b) (hT : ∀ d, d ∈ looks ops.toList o → Rep σ ((t.get d).getD undefV) (a.tmps.getD d undef)) :
    Region.wanted o (yielded ops a.tmps) = b := by
  unfold Region.wanted
  cases hg : o.guard with
  | none =>
    rw [hg] at h
    simp only [wantedV, Option.some.injEq] at h
    exact h
  | some p =>
    obtain ⟨j, q⟩ := p
    rw [hg] at h
    simp only [wantedV, Option.bind_eq_some_iff] at h
    obtain ⟨g, h1, d, h2, h3⟩ := h
    have h1' : ops[j]? = some g := by simpa using h1
    have hl : d ∈ looks ops.toList o := by
      unfold looks
      rw [hg]
      simp only [h1, Option.bind_some, h2, Option.toList_some, List.mem_append, List.mem_singleton]
      exact .inr trivial
    have hr := hT d hl
    simp only [yielded, h1', Option.bind_some, h2]
    by_cases hd : d < a.tmps.size
    · have hget : a.tmps[d]? = some (a.tmps.getD d undef) := by simp [Array.getD, hd]
      rw [hget]
      generalize a.tmps.getD d undef = x at hr
      generalize (t.get d).getD undefV = v at hr h3
      split at h3
      · cases hr
        simp only [Option.some.injEq] at h3
        subst h3
        rename_i c
        cases c <;> cases q <;> rfl
      · cases hr with
        | tup _ xs hx =>
          cases hx
          simp only [Option.some.injEq] at h3
          subst h3
          rfl
      · cases h3
    · have hget : a.tmps[d]? = none := Array.getElem?_eq_none (Nat.le_of_not_lt hd)
      have hu : a.tmps.getD d undef = undef := by simp [Array.getD, hd]
      rw [hget]
      rw [hu] at hr
      rw [rep_undef hr] at h3
      simp only [undefV, Option.some.injEq] at h3
      subst h3
      rfl
/-- operands stand for what they are -/
theorem ops_rep {s : St} {a : Act} {ops : Array Oper} {o : Oper} (R : RelS N σ s a w S) (hl : ∀ d ∈ looks ops.toList o, ¬ S d) : ∀ x ∈ o.op.operands, ∀ v, ev s.t x = some v → Rep σ v (a.eval x) := by
  intro x hx v hv
  cases x with
  | tmp i =>
    simp only [ev, Option.some.injEq] at hv
    subst hv
    refine R.t.at_ i (hl i ?_)
    unfold looks
    rw [List.mem_append]
    left
    exact List.mem_filterMap.2 ⟨.tmp i, by simpa using hx, rfl⟩
  | const c => exact ofVal_rep hv
  | global g => simp only [ev, Option.some.injEq] at hv; subst hv; exact .gptr _ _
  | func f => simp only [ev, Option.some.injEq] at hv; subst hv; exact .fn _ _ _ [] [] .nil .nil
theorem wanted_rep {s : St} {a : Act} {ops : Array Oper} {o : Oper} {b : Bool} (R : RelS N σ s a w S) (hl : ∀ d ∈ looks ops.toList o, ¬ S d) (h : wantedV s.t ops.toList o.guard = some b) : Region.wanted o (yielded ops a.tmps) = b :=
  wanted_sound h fun d hd => R.t.at_ d (hl d hd)
variable {ops : Array Oper} {Q : Exit → Act → World → Prop} {K : Act → World → Prop} {i : Nat} {o : Oper} {s s' : St} {a : Act}
/-- an operation that changes nothing that stands -/
theorem n_sound (hE : EnvOK P E) (R : RelS N σ s a w S) (hi : ops[i]? = some o) (hl : ∀ d ∈ looks ops.toList o, ¬ S d) {b : Bool} (hw : wantedV s.t ops.toList o.guard = some b) {p : PR} (hp : (b = false ∧ p = .skip) ∨ (b = true ∧ ((∃ v, lop E s.t s.h o.op = some v ∧ p = .l v) ∨ ∃ r k id, fop E s.t o.op = some (r, k) ∧ p = .f r k id)))
    (hk : match p with
      | .skip => K (a.put o.dst undef) w
      | .l v => ∀ x, Rep σ v x → K (a.put o.dst x) w
      | .f r k _ => ∀ x w', Made σ w r k x w' → K (a.put o.dst x) w') : wpOp P ops Q i K a w := by
  have hwa := wanted_rep R hl hw
  unfold wpOp
  rw [hi]
  simp only [hwa]
  rcases hp with ⟨rfl, rfl⟩ | ⟨rfl, ⟨v, h1, rfl⟩ | ⟨r, k, id, h1, rfl⟩⟩
  · simpa using hk
  · obtain ⟨x, h2, h3⟩ := lop_sound hE R.h h1 (ops_rep R hl)
    simp only [if_true]
    left
    unfold Oper.wp
    rw [h2]
    exact hk x h3
  · obtain ⟨x, w', h2, h3⟩ := fop_sound (w := w) hE h1 (ops_rep R hl)
    simp only [if_true]
    left
    unfold Oper.wp
    rw [h2]
    exact hk x w' h3
/-- an operation that does something -/
theorem e_sound (hE : EnvOK P E) {call : CallF} (hcall : CallOK P call) (R : RelS N σ s a w S) (hs : eStep E call ops.toList o s = some s') (hi : ops[i]? = some o) (hl : ∀ d ∈ looks ops.toList o, ¬ S d)
    (hk : ∀ σ' a' w', Mp.Ext s.h.n σ σ' → s.h.n ≤ s'.h.n → RelS N σ' s' a' w' S → Below N w w' → K a' w') : wpOp P ops Q i K a w := by
  simp only [eStep, Option.bind_eq_some_iff] at hs
  obtain ⟨b, hw, hs⟩ := hs
  have hwa := wanted_rep R hl hw
  have hn : ∀ {s : St} {dst : Option Tmp} {v : V} {h' : Hp} {s' : St}, s.put dst v h' = some s' → s'.h = h' := fun {s dst v h' s'} h => by
    rw [St.put_eq] at h
    cases dst with
    | none => cases h; rfl
    | some d =>
      simp only at h
      cases hb : Nat.blt d s.n with
      | false => rw [hb] at h; cases h
      | true => rw [hb] at h; cases h; rfl
  unfold wpOp
  rw [hi]
  simp only [hwa]
  split at hs
  · simp only [if_true]
    left
    unfold onNx at hs
    split at hs
    · rename_i v h' he
      obtain ⟨x, w', h2, σ', h3, h4, h5, h6, h7⟩ := eop_sound hE R.h he (ops_rep R hl)
      unfold Oper.wp
      rw [h2]
      exact hk σ' _ w' h3 (by rw [hn hs]; exact h4) (put_sound R hs h3.le h5 h6) h7
    · rename_i h' he
      obtain ⟨w', h2, h3, h4, h5⟩ := eop_sound hE R.h he (ops_rep R hl)
      unfold Oper.wp
      rw [h2]
      exact hk σ _ w' (Mp.Ext.refl _ _) (by rw [hn hs]; exact h5) (put_sound R hs (Mp.le.refl _) (Rep.undef _) h3) h4
    · rename_i f xs h' he
      obtain ⟨h2, ys, h3, h4⟩ := eop_sound hE R.h he (ops_rep R hl)
      subst h2
      rw [Option.bind_eq_some_iff] at hs
      obtain ⟨⟨v, h'⟩, hc, hs⟩ := hs
      have h5 := hcall N f xs s.h v h' hc σ w ys R.h h3
      unfold Oper.wp
      rw [h4]
      generalize (callFunc f ys.toArray).run P w = r at h5
      cases r with
      | halt x w' => exact h5.elim
      | ok n w' =>
        cases n <;> (try (exact h5.elim))
        · obtain ⟨σ', g1, g2, g3, g4, g5⟩ := h5
          exact hk σ' _ w' g1 (by rw [hn hs]; exact g2) (put_sound R hs g1.le g3 g4) g5
        · refine Calls.mono h5 fun e w'' he => ?_
          obtain ⟨x, rfl, σ', g1, g2, g3, g4, g5⟩ := he
          exact hk σ' _ w'' g1 (by rw [hn hs]; exact g2) (put_sound R hs g1.le g3 g4) g5
    · rename_i f xs h' he
      obtain ⟨h2, d, cap, h3, h4, h5⟩ := eop_sound hE R.h he (ops_rep R hl)
      subst h2
      unfold Oper.wp
      rw [h3]
      have R2 : RelS N σ ⟨s.t, s.h, (f, xs) :: s.d, s.n⟩ { a with defers := d :: a.defers } w S := ⟨R.t, R.h, .cons _ _ _ _ _ _ h4 h5 R.d⟩
      exact hk σ _ w (Mp.Ext.refl _ _) (by rw [hn hs]; exact Nat.le_refl _) (put_sound R2 hs (Mp.le.refl _) (Rep.undef _) R.h) (Below.refl _ _)
    · cases hs
    · cases hs
  · simp only [Bool.false_eq_true, if_false]
    exact hk σ _ w (Mp.Ext.refl _ _) (by rw [hn hs]; exact Nat.le_refl _) (put_sound R hs (Mp.le.refl _) (Rep.undef _) R.h) (Below.refl _ _)
end
end
end Go.Proofs.YtehbfpcfbpbllaaGreatDoor.VM
