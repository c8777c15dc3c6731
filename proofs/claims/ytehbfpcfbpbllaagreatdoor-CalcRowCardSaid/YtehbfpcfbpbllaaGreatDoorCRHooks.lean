/- CalcRow: the hooks of its machine are sound. -/
import Derived.Test.YtehbfpcfbpbllaaGreatDoorCRAwake
namespace Go.Proofs.YtehbfpcfbpbllaaGreatDoor
namespace VM
open Go Go.RowKit
set_option linter.unusedVariables false
set_option linter.unusedSectionVars false
noncomputable section
section
variable [Sy]
theorem enter_of {f : Nat} {fn : Func} (hf : Tryz.prog.funcs[f]? = some fn) (hb : fn.body.isNone = false) (args : Array Value) (w : World) : (callFunc f args).run Tryz.prog w = .ok (.enter f args) w := by
  unfold callFunc
  simp only [Sem.run_bind, run_program, Result.andThen_ok, hf, nameOK f fn hf, Bool.false_eq_true, if_false, hb, Sem.run_pure]
theorem envOK_so (P : Program) (hook : Nat → Option (List V → Hp → Option (V × Hp))) (idle : Nat → List V → Bool) (so : SOp → List V → Option V) (hm : P.follows .mixedOrders = true) (hs : SopOK (Env.of P hook idle so)) : EnvOK P (Env.of P hook idle so) :=
  ⟨fun t i h => ofL_range (tiOf P) _ t i h, fun f fn h => ofL_all P.funcs f fn h, hm, hs⟩
/-- what a contract says, a hook may say -/
theorem hook_of {f : Nat} {fn : Func} (hf : Tryz.prog.funcs[f]? = some fn) (hb : fn.body.isNone = false) {N : Nat} {σ : Mp} {h : Hp} {w : World} {xs : List Value} {v : V} {X : Value} (R : Rel N σ h w) (hr : Rep σ v X)
    (hc : Calls Tryz.prog f xs.toArray w fun e w' => e = .returned X ∧ Below w.heap.size w w') :
    match (callFunc f xs.toArray).run Tryz.prog w with
    | .ok (.value x) w' => Does N σ h w v h x w'
    | .ok (.enter g ys) w' => Calls Tryz.prog g ys w' fun e w'' => ∃ x, e = .returned x ∧ Does N σ h w v h x w''
    | _ => False := by
  rw [enter_of hf hb]
  refine hc.mono ?_
  rintro e w' ⟨rfl, hb⟩
  exact ⟨X, rfl, Does.stay hr (R.world hb) (hb.mono R.base) (Nat.le_refl _)⟩
end
theorem idleOKcr [Sy] (m : Nat) : IdleOK Tryz.prog (Ecr m) := @idleOK _
section
variable {n start : Int} {m : Nat} (f : Fit n start m) {tab : List (Nat × Obj)} (ht : ∀ w : World, (∀ p ∈ tab, w.heap[p.1]? = some p.2) → Tab w)
include f ht
set_option maxRecDepth 20000 in
theorem mayH_ok (N : Nat) (al : List V) (h : Hp) (v : V) (h' : Hp) (hc : mayH al h = some (v, h')) : letI := syCR n start tab; ∀ (σ : Mp) (w : World) (xs : List Value), Rel N σ h w → RepL σ al xs →
    match (callFunc 30 xs.toArray).run Tryz.prog w with
    | .ok (.value x) w' => Does N σ h w v h' x w'
    | .ok (.enter g ys) w' => Calls Tryz.prog g ys w' fun e w'' => ∃ x, e = .returned x ∧ Does N σ h w v h' x w''
    | _ => False := by
  letI := syCR n start tab
  intro σ w xs R hr
  unfold mayH at hc
  split at hc
  · cases hc
    cases hr with | cons _ x _ _ r1 r2 =>
    cases r2
    cases r1
    refine hook_of Tryz.func30 (by kernel_rfl) R (.bool true) ?_
    have e : bytesOf (Sy.s (self := syCR n start tab) ‹Nat›) = numS start := bytesOf_strOf (numS start)
    rw [e]
    exact may_num w start f.small (ht w fun p hp => (R.tab p hp).2)
  · exact memoH_sound cr_cell_May_ok N al h v h' hc σ w xs R hr
set_option maxRecDepth 20000 in
theorem plainH_ok (N : Nat) (al : List V) (h : Hp) (v : V) (h' : Hp) (hc : plainH al h = some (v, h')) : letI := syCR n start tab; ∀ (σ : Mp) (w : World) (xs : List Value), Rel N σ h w → RepL σ al xs →
    match (callFunc 11 xs.toArray).run Tryz.prog w with
    | .ok (.value x) w' => Does N σ h w v h' x w'
    | .ok (.enter g ys) w' => Calls Tryz.prog g ys w' fun e w'' => ∃ x, e = .returned x ∧ Does N σ h w v h' x w''
    | _ => False := by
  letI := syCR n start tab
  intro σ w xs R hr
  unfold plainH at hc
  split at hc
  · cases hc
    cases hr with | cons _ x _ _ r1 r2 =>
    cases r2
    cases r1
    have i1 : Sy.i (self := syCR n start tab) 1 = start := by
      show iA n start (firstC start) 1 = start
      unfold iA; rw [if_neg (by omega), if_pos (by omega)]; omega
    have hv : Rep σ (.agg [.int .i64 (.ofNat 1), .symI .i64 1, .str []]) (.agg #[.int .i64 1, .int .i64 start, .string ⟨#[]⟩]) := by
      have h1 := Rep.symI (σ := σ) .i64 1
      rw [i1] at h1
      exact .agg _ [_, _, _] (.cons _ _ _ _ (.int _ _) (.cons _ _ _ _ h1 (.cons _ _ _ _ (.str [] (by simp)) .nil)))
    refine hook_of Tryz.func11 (by kernel_rfl) R hv ?_
    have e : bytesOf (Sy.s (self := syCR n start tab) ‹Nat›) = numS start := bytesOf_strOf (numS start)
    rw [e]
    exact plain_num w start f.small (ht w fun p hp => (R.tab p hp).2)
  · exact memoH_sound cr_cell_Plain_ok N al h v h' hc σ w xs R hr
set_option maxRecDepth 20000 in
theorem digH_ok (N : Nat) (al : List V) (h : Hp) (v : V) (h' : Hp) (hc : digH al h = some (v, h')) : letI := syCR n start tab; ∀ (σ : Mp) (w : World) (xs : List Value), Rel N σ h w → RepL σ al xs →
    match (callFunc 7 xs.toArray).run Tryz.prog w with
    | .ok (.value x) w' => Does N σ h w v h' x w'
    | .ok (.enter g ys) w' => Calls Tryz.prog g ys w' fun e w'' => ∃ x, e = .returned x ∧ Does N σ h w v h' x w''
    | _ => False := by
  letI := syCR n start tab
  intro σ w xs R hr
  unfold digH at hc
  split at hc
  · rename_i k j
    cases hq : (keq k .i64 && Nat.beq j 1) with
    | false => rw [hq] at hc; cases hc
    | true =>
      rw [hq] at hc
      cases hc
      simp only [Bool.and_eq_true, keq_iff, beq_d, decide_eq_true_iff] at hq
      obtain ⟨rfl, rfl⟩ := hq
      cases hr with | cons _ x _ _ r1 r2 =>
      cases r2
      cases r1
      have i1 : Sy.i (self := syCR n start tab) 1 = start := by
        show iA n start (firstC start) 1 = start
        unfold iA; rw [if_neg (by omega), if_pos (by omega)]; omega
      rw [i1]
      have hv : Rep σ (.symS 0) (.string (numS start)) := by
        have h1 := Rep.symS (σ := σ) 0 (strOf_lt (numS start))
        have e : bytesOf (Sy.s (self := syCR n start tab) 0) = numS start := bytesOf_strOf (numS start)
        rwa [e] at h1
      have f1 := f.lo
      have f2 := f.hi
      exact hook_of Tryz.func7 (by kernel_rfl) R hv (rdig_any w start ⟨by omega, by omega⟩)
  · cases hc
set_option maxRecDepth 20000 in
theorem hooksOKcr : @HooksOK (syCR n start tab) Tryz.prog (Ecr m) := by
  letI := syCR n start tab
  intro g k hg N al h v h' hc σ w xs R hr
  have hg' : hooksCR g = some k := hg
  unfold hooksCR at hg'
  cases h1 : Nat.beq g 220 with
  | true =>
    have := Nat.eq_of_beq_eq_true h1
    subst this
    rw [h1] at hg'
    cases hg'
    exact @hooksOK _ 220 idxH rfl N al h v h' hc σ w xs R hr
  | false =>
    rw [h1] at hg'
    cases h2 : Nat.beq g 15 with
    | true =>
      have := Nat.eq_of_beq_eq_true h2
      subst this
      rw [h2] at hg'
      cases hg'
      exact memoH_sound cr_cell_Formula_ok N al h v h' hc σ w xs R hr
    | false =>
      rw [h2] at hg'
      cases h3 : Nat.beq g 30 with
      | true =>
        have := Nat.eq_of_beq_eq_true h3
        subst this
        rw [h3] at hg'
        cases hg'
        exact mayH_ok f ht N al h v h' hc σ w xs R hr
      | false =>
        rw [h3] at hg'
        cases h4 : Nat.beq g 11 with
        | true =>
          have := Nat.eq_of_beq_eq_true h4
          subst this
          rw [h4] at hg'
          cases hg'
          exact plainH_ok f ht N al h v h' hc σ w xs R hr
        | false =>
          rw [h4] at hg'
          cases h5 : Nat.beq g 7 with
          | true =>
            have := Nat.eq_of_beq_eq_true h5
            subst this
            rw [h5] at hg'
            cases hg'
            exact digH_ok f ht N al h v h' hc σ w xs R hr
          | false =>
            rw [h5] at hg'
            cases h6 : Nat.beq g 6 with
            | true =>
              have := Nat.eq_of_beq_eq_true h6
              subst this
              rw [h6] at hg'
              cases hg'
              exact memoH_sound (fun m hm => by rw [List.mem_singleton.1 hm]; exact awakeMemo_ok) N al h v h' hc σ w xs R hr
            | false => rw [h6] at hg'; cases hg'
theorem envOKcr : @EnvOK (syCR n start tab) Tryz.prog (Ecr m) := by
  letI := syCR n start tab
  exact envOK_so _ _ _ _ (by kernel_rfl) (sopCR f tab _ rfl)
end
end
end VM
end Go.Proofs.YtehbfpcfbpbllaaGreatDoor
