/- The machine of plain data: code and calls are sound. No program in sight. -/
import Derived.Test.YtehbfpcfbpbllaaGreatDoorVmH
import Derived.Defers
import Derived.LoopN
namespace Go.Proofs.YtehbfpcfbpbllaaGreatDoor.VM
open Go Go.RowKit
set_option linter.unusedSectionVars false
variable [Sy]
section
variable {P : Program} {E : Env} {N : Nat} {ops : Array Oper} {Q : Exit → Act → World → Prop}
def none_ : Nat → Prop := fun _ => False
theorem step_sound (hE : EnvOK P E) {call : CallF} (hcall : CallOK P call) {s s' : St} {σ : Mp} {a : Act} {w : World} {o : Oper} {i : Nat} {K : Act → World → Prop} (hs : opStep E call ops.toList o s = some s') (hi : ops[i]? = some o) (R : RelS N σ s a w none_)
    (hk : ∀ σ' a' w', Mp.Ext s.h.n σ σ' → s.h.n ≤ s'.h.n → RelS N σ' s' a' w' none_ → Below N w w' → K a' w') : wpOp P ops Q i K a w := by
  unfold opStep at hs
  split at hs
  · exact e_sound hE hcall R hs hi (fun _ _ h => h) hk
  · rw [Option.bind_eq_some_iff] at hs
    obtain ⟨p, hn, hs⟩ := hs
    obtain ⟨b, hw, hcase⟩ := nStep_facts hn
    refine n_sound hE R hi (fun _ _ h => h) hw (hcase.imp id fun ⟨hb, h⟩ => ⟨hb, h.imp id fun ⟨r, k, h1, h2⟩ => ⟨r, k, s.h.n, h1, h2⟩⟩) ?_
    cases p with
    | skip =>
      have h1 := (put_facts hs).1
      exact hk σ _ w (Mp.Ext.refl _ _) (by rw [h1]; exact Nat.le_refl _) (put_sound R hs (Mp.le.refl _) (Rep.undef _) R.h) (Below.refl _ _)
    | l v =>
      intro x hx
      have h1 := (put_facts hs).1
      exact hk σ _ w (Mp.Ext.refl _ _) (by rw [h1]; exact Nat.le_refl _) (put_sound R hs (Mp.le.refl _) hx R.h) (Below.refl _ _)
    | f r k id =>
      intro x w' hm
      have h1 := (put_facts hs).1
      have hid : id = s.h.n := by
        rcases hcase with ⟨_, h⟩ | ⟨_, ⟨v, _, h⟩ | ⟨r', k', _, h⟩⟩ <;> cases h
        rfl
      subst hid
      obtain ⟨σ', g1, g2, g3, g4, g5⟩ := R.h.made hm
      exact hk σ' _ w' g1 (by rw [h1]; exact g2) (put_sound R hs g1.le g3 g4) g5
theorem ops_sound (hE : EnvOK P E) {call : CallF} (hcall : CallOK P call) {s' : St} : ∀ (rest : List Oper) (k : Nat) (s : St) (σ : Mp) (a : Act) (w : World), ops.toList.drop k = rest → opsRun E call ops.toList rest s = some s' → RelS N σ s a w none_ →
    (∀ σ' a' w', Mp.Ext s.h.n σ σ' → s.h.n ≤ s'.h.n → RelS N σ' s' a' w' none_ → Below N w w' → Q .normal a' w') → wpOps P ops Q (List.range' k rest.length) a w
  | [], k, s, σ, a, w, _, hr, R, hQ => by
    simp only [opsRun, Option.some.injEq] at hr
    subst hr
    exact hQ σ a w (Mp.Ext.refl _ _) (Nat.le_refl _) R (Below.refl _ _)
  | o :: r, k, s, σ, a, w, hd, hr, R, hQ => by
    rw [opsRun] at hr
    split at hr
    · rename_i s1 hs1
      have ho : ops[k]? = some o := by
        have := congrArg List.head? hd
        simpa using this
      have hd2 : ops.toList.drop (k + 1) = r := by have := congrArg List.tail hd; simpa using this
      rw [List.length_cons, List.range'_succ, wpOps_cons]
      refine step_sound hE hcall hs1 ho R fun σ1 a1 w1 h1 h2 h3 h4 => ?_
      exact ops_sound hE hcall r (k + 1) s1 σ1 a1 w1 hd2 hr h3 fun σ2 a2 w2 g1 g2 g3 g4 => hQ σ2 a2 w2 (h1.trans g1 h2) (Nat.le_trans h2 g2) g3 (h4.trans g4)
    · cases hr
theorem region_sound (hE : EnvOK P E) {call : CallF} (hcall : CallOK P call) {s s' : St} {σ : Mp} {a : Act} {w : World} {id : Nat} {draw : Bool} (hr : regRun E call ops.toList draw s = some s') (R : RelS N σ s a w none_)
    (hQ : ∀ σ' a' w', Mp.Ext s.h.n σ σ' → s.h.n ≤ s'.h.n → RelS N σ' s' a' w' none_ → Below N w w' → Q .normal a' w') : (Code.region id ops draw).wp P Q a w := by
  cases draw with
  | false =>
    refine wp_region ?_
    have := ops_sound hE hcall (Q := Q) ops.toList 0 s σ a w (by simp) hr R hQ
    rw [List.range_eq_range']
    simpa using this
  | true =>
    simp only [regRun] at hr
    split at hr
    · rename_i p hp
      obtain ⟨ms, st, hpl⟩ := planOf_spec hp
      refine wp_region_any hE.mixed ?_
      have hgd : ∀ i, i < ops.size → (Array.replicate ops.size false).getD i true = false := fun i hi => by simp [Array.getD, hi]
      have hgt : ∀ i, (Array.replicate ops.size false).getD i true = true → ops.size ≤ i := fun i h => by
        rcases Nat.lt_or_ge i ops.size with h1 | h1
        · rw [hgd i h1] at h; cases h
        · exact h1
      have hbel : Below w.heap.size w { w with drawn := w.drawn + 1 } := ⟨rfl, rfl, rfl, Nat.le_refl _, fun _ _ => rfl⟩
      refine plan_sound (n0 := s.h.n) hE hcall st (ops.size + p.length) ops.size p 0 [] s σ _ a _ (Nat.le_refl _) ?_ hpl ⟨by simp, fun i hi h => ?_, fun i _ h => by simp at h, fun i o p h => by simp at h, fun i o p h => by simp at h, fun i j o o' r r' k k' id h => by simp at h, ?_, fun i o _ h => by simp at h, fun i o ho h => ?_, Nat.le_refl _⟩ hr fun σ' a' w' h1 h2 h3 h4 => hQ σ' a' w' h1 h2 h3 ((hbel.mono R.h.base).trans h4)
      · unfold cnt; simp
      · have := hgt i h; omega
      · exact ⟨⟨R.t.size, fun i _ => R.t.at_ i (fun h => h)⟩, R.h.world hbel, R.d⟩
      · have := hgt i h
        have hi := (Array.getElem?_eq_some_iff.1 (mem_list.1 ho)).1
        omega
    · cases hr
def exOf : Ex → Exit
  | .normal => .normal
  | .exit id => .exit id
  | .ret => .ret
def ExecOK (P : Program) (ex : Code → St → Option (Ex × St)) : Prop :=
  ∀ c s e s', ex c s = some (e, s') → ∀ (N : Nat) (σ : Mp) (a : Act) (w : World) (Q : Exit → Act → World → Prop), RelS N σ s a w none_ →
    (∀ σ' a' w', Mp.Ext s.h.n σ σ' → s.h.n ≤ s'.h.n → RelS N σ' s' a' w' none_ → Below N w w' → Q (exOf e) a' w') → c.wp P Q a w
def LoopOK (P : Program) (ex : Code → St → Option (Ex × St)) (n : Nat) : Prop :=
  ∀ c s e s', ex (.loop c) s = some (e, s') → ∀ (N : Nat) (σ : Mp) (a : Act) (w : World) (Q : Exit → Act → World → Prop), RelS N σ s a w none_ →
    (∀ σ' a' w', Mp.Ext s.h.n σ σ' → s.h.n ≤ s'.h.n → RelS N σ' s' a' w' none_ → Below N w w' → Q (exOf e) a' w') → Code.rounds P c Q n a w
theorem loopF_ok {ih : Code → St → Option (Ex × St)} {n : Nat} (hi : ExecOK P ih) (hl : LoopOK P ih n) (hex : exec E n = ih) : LoopOK P (exec E (n + 1)) (n + 1) := by
  intro x s e s' h N σ a w Q R hQ
  rw [exec.eq_def] at h
  simp only [hex] at h
  rw [rounds_succ]
  unfold ndNormal at h
  split at h
  · rename_i s1 h1
    refine hi x s .normal s1 h1 N σ a w _ R fun σ1 a1 w1 g1 g2 g3 g4 => ?_
    exact hl x s1 e s' h N σ1 a1 w1 Q g3 fun σ2 a2 w2 k1 k2 k3 k4 => hQ σ2 a2 w2 (g1.trans k1 g2) (Nat.le_trans g2 k2) k3 (g4.trans k4)
  · rename_i hn
    refine hi x s e s' h N σ a w _ R fun σ1 a1 w1 g1 g2 g3 g4 => ?_
    have := hQ σ1 a1 w1 g1 g2 g3 g4
    cases e with
    | normal => exact (hn s' h).elim
    | exit id => exact this
    | ret => exact this
theorem execF_ok (hE : EnvOK P E) {ih : Code → St → Option (Ex × St)} (hi : ExecOK P ih) (hc : CallOK P (callOf E ih)) (n : Nat) (hl : LoopOK P (exec E (n + 1)) (n + 1)) (hex : exec E n = ih) : ExecOK P (exec E (n + 1)) := by
  intro c s e s' h N σ a w Q R hQ
  have h0 := h
  rw [exec.eq_def] at h
  simp only [hex] at h
  cases c <;> simp only at h <;> (try (cases h; done))
  case skip =>
    cases h
    exact wp_skip (hQ σ a w (Mp.Ext.refl _ _) (Nat.le_refl _) R (Below.refl _ _))
  case region id ops draw =>
    unfold ndRegion at h
    split at h
    · rename_i s1 hr
      cases h
      exact region_sound hE hc hr R hQ
    · cases h
  case seq x y =>
    unfold ndNormal at h
    refine wp_seq ?_
    split at h
    · rename_i s1 h1
      refine hi x s .normal s1 h1 N σ a w _ R fun σ1 a1 w1 g1 g2 g3 g4 => ?_
      show y.wp P Q a1 w1
      exact hi y s1 e s' h N σ1 a1 w1 Q g3 fun σ2 a2 w2 k1 k2 k3 k4 => hQ σ2 a2 w2 (g1.trans k1 g2) (Nat.le_trans g2 k2) k3 (g4.trans k4)
    · rename_i hn
      refine hi x s e s' h N σ a w _ R fun σ1 a1 w1 g1 g2 g3 g4 => ?_
      have := hQ σ1 a1 w1 g1 g2 g3 g4
      cases e with
      | normal => exact (hn s' h).elim
      | exit id => exact this
      | ret => exact this
  case cond c x y =>
    have hcr : ∀ v, ev s.t c = some v → Rep σ v (a.eval c) := fun v hv => by
      cases c with
      | tmp i => simp only [ev, Option.some.injEq] at hv; subst hv; exact R.t.at_ i (fun h => h)
      | const q => exact ofVal_rep hv
      | global g => simp only [ev, Option.some.injEq] at hv; subst hv; exact .gptr _ _
      | func f => simp only [ev, Option.some.injEq] at hv; subst hv; exact .fn _ _ _ [] [] .nil .nil
    unfold ndCond at h
    split at h
    · rename_i hv
      have := hcr _ hv
      generalize hq : a.eval c = q at this
      cases this
      exact wp_cond hq (hi x s e s' h N σ a w Q R hQ)
    · rename_i hv
      have := hcr _ hv
      generalize hq : a.eval c = q at this
      cases this
      exact wp_cond hq (hi y s e s' h N σ a w Q R hQ)
    · cases h
  case block id x =>
    refine wp_block ?_
    unfold ndBlock at h
    split at h
    · rename_i j s1 h1
      refine hi x s (.exit j) s1 h1 N σ a w _ R fun σ1 a1 w1 g1 g2 g3 g4 => ?_
      show (if j = id then Q .normal a1 w1 else Q (.exit j) a1 w1)
      rw [beq_d] at h
      by_cases hj : j = id
      · simp only [hj, decide_true, cond_true, Option.some.injEq, Prod.mk.injEq] at h
        obtain ⟨rfl, rfl⟩ := h
        rw [if_pos hj]
        exact hQ σ1 a1 w1 g1 g2 g3 g4
      · simp only [hj, decide_false, cond_false, Option.some.injEq, Prod.mk.injEq] at h
        obtain ⟨rfl, rfl⟩ := h
        rw [if_neg hj]
        exact hQ σ1 a1 w1 g1 g2 g3 g4
    · rename_i hn
      refine hi x s e s' h N σ a w _ R fun σ1 a1 w1 g1 g2 g3 g4 => ?_
      have := hQ σ1 a1 w1 g1 g2 g3 g4
      cases e with
      | normal => exact this
      | exit id' => exact (hn id' s' h).elim
      | ret => exact this
  case loop x => exact wp_loop_rounds (n + 1) (hl x s e s' h0 N σ a w Q R hQ)
  case exit id =>
    cases h
    exact wp_exit (hQ σ a w (Mp.Ext.refl _ _) (Nat.le_refl _) R (Below.refl _ _))
  case ret =>
    cases h
    exact wp_ret (hQ σ a w (Mp.Ext.refl _ _) (Nat.le_refl _) R (Below.refl _ _))
/-! ### calls -/
def NameOK (P : Program) : Prop := ∀ (f : Nat) (fn : Func), P.funcs[f]? = some fn → (fn.name == "runtime.NumGoroutine") = false
/-- calls that stand for themselves -/
def HooksOK (P : Program) (E : Env) : Prop :=
  ∀ f g, E.hook f = some g → ∀ (N : Nat) as h v h', g as h = some (v, h') → ∀ (σ : Mp) (w : World) (xs : List Value), Rel N σ h w → RepL σ as xs →
    match (callFunc f xs.toArray).run P w with
    | .ok (.value x) w' => Does N σ h w v h' x w'
    | .ok (.enter g ys) w' => Calls P g ys w' fun e w'' => ∃ x, e = .returned x ∧ Does N σ h w v h' x w''
    | _ => False
/-- deferred calls that do nothing -/
def IdleOK (P : Program) (E : Env) : Prop :=
  ∀ f as, E.idle f as = true → ∀ (N : Nat) (σ : Mp) (h : Hp) (w : World) (xs : List Value), Rel N σ h w → RepL σ as xs →
    (callFunc f xs.toArray).run P w = .ok (.enter f xs.toArray) w ∧ CallsD P f xs.toArray .returning w fun e u' w' => (∃ v, e = .returned v) ∧ u' = .returning ∧ Below w.heap.size w w'
theorem resV_sound (hE : EnvOK P E) {s : St} {σ : Mp} {tmps : Array Value} {w : World} (T : RepX σ s.t s.n tmps none_) (R : Rel N σ s.h w) : ∀ {rs : List ResultVar} {l : List V}, resV E s rs = some l →
    ∃ xs, RepL σ l xs ∧ (rs.mapM (fun | .tmp t => pure (tmps.getD t undef) | .cell a t => do loadVar t (← asAddr (tmps.getD a undef)) : ResultVar → Sem Value)).run P w = .ok xs w
  | [], l, h => by simp only [resV, Option.some.injEq] at h; subst h; exact ⟨[], .nil, rfl⟩
  | .tmp t :: r, l, h => by
    simp only [resV, Option.bind_eq_some_iff, Option.some.injEq] at h
    obtain ⟨l', h1, rfl⟩ := h
    obtain ⟨xs, h2, h3⟩ := resV_sound hE T R h1
    refine ⟨_ :: xs, .cons _ _ _ _ (T.at_ t (fun h => h)) h2, ?_⟩
    simp only [List.mapM_cons, Sem.run_bind, Sem.run_pure, Result.andThen_ok, h3]
  | .cell a ty :: r, l, h => by
    simp only [resV, Option.bind_eq_some_iff, Option.some.injEq] at h
    obtain ⟨v, hv, l', h1, rfl⟩ := h
    obtain ⟨xs, h2, h3⟩ := resV_sound hE T R h1
    have ha := T.at_ a (fun h => h)
    generalize hax : tmps.getD a undef = ax at ha
    generalize (s.t.get a).getD undefV = av at ha hv
    unfold vload at hv
    split at hv
    · cases ha
      rw [Option.bind_eq_some_iff] at hv
      obtain ⟨vs, h4, h5⟩ := hv
      obtain ⟨x, h6, h7⟩ := loadVar_sound hE (R.at_ ‹_› h4) h5
      refine ⟨x :: xs, .cons _ _ _ _ h7 h2, ?_⟩
      have e1 : (do loadVar ty (← asAddr (tmps.getD a undef)) : Sem Value).run P w = .ok x w := by
        rw [hax, Sem.run_bind]; exact h6
      rw [List.mapM_cons, Sem.run_bind, e1, Result.andThen_ok, Sem.run_bind, h3, Result.andThen_ok]
      rfl
    · cases ha
      obtain ⟨x, h6, h7⟩ := hE.glob _ _ _ _ hv w (fun p hp => (R.tab p hp).2)
      refine ⟨x :: xs, .cons _ _ _ _ (h7 σ) h2, ?_⟩
      have e1 : (do loadVar ty (← asAddr (tmps.getD a undef)) : Sem Value).run P w = .ok x w := by
        rw [hax, Sem.run_bind]; exact h6
      rw [List.mapM_cons, Sem.run_bind, e1, Result.andThen_ok, Sem.run_bind, h3, Result.andThen_ok]
      rfl
    · cases hv
theorem end_sound (hE : EnvOK P E) {fn : Func} {s : St} {σ : Mp} {v : V} {h' : Hp} {tmps : Array Value} {w : World} (T : RepX σ s.t s.n tmps none_) (R : Rel N σ s.h w) (he : endOf E fn s = some (v, h')) : h' = s.h ∧ ∃ x, (results fn tmps).run P w = .ok x w ∧ Rep σ v x := by
  unfold endOf at he
  rw [Option.bind_eq_some_iff] at he
  obtain ⟨l, hl, he⟩ := he
  obtain ⟨xs, h1, h2⟩ := resV_sound hE T R hl
  have h3 : (fn.results.mapM (fun | .tmp t => pure (tmps.getD t undef) | .cell a t => do loadVar t (← asAddr (tmps.getD a undef)) : ResultVar → Sem Value)).run P w = .ok xs.toArray w := by
    rw [Array.mapM_eq_mapM_toList, Sem.run_map]
    simp only [h2, Result.andThen_ok]
  have h4 : (results fn tmps).run P w = .ok (if h : xs.toArray.size = 1 then xs.toArray[0] else .tuple xs.toArray) w := by
    unfold results
    rw [Sem.run_bind]
    exact congrArg (fun r : Result (Array Value) => r.andThen fun a w' => (pure (if h : a.size = 1 then a[0] else Value.tuple a) : Sem Value).run P w') h3
  split at he
  · cases he
    cases h1 with
    | cons _ x _ ys hr hy =>
      cases hy
      exact ⟨rfl, x, by rw [h4]; simp, hr⟩
  · rename_i hn
    cases he
    refine ⟨rfl, .tuple xs.toArray, ?_, .tup _ _ h1⟩
    rw [h4]
    have : ¬ xs.toArray.size = 1 := fun e => by
      have hlen := h1.length
      simp at e
      rw [e] at hlen
      match l, hlen with
      | [u], _ => exact hn u rfl
    simp only [this, dif_neg, not_false_iff]
theorem leaves_sound (hE : EnvOK P E) (hI : IdleOK P E) {fn : Func} {s : St} {σ : Mp} {v : V} {h' : Hp} {tmps : Array Value} {R : Ending → World → Prop} (T : RepX σ s.t s.n tmps none_) (he : endOf E fn s = some (v, h')) {ds : List (Nat × List V)} {defers : List Deferred} (hd : RepD σ ds defers) : ∀ {w : World}, idleAll E ds = true → Rel N σ s.h w →
    (∀ x w', Rep σ v x → Rel N σ h' w' → Below N w w' → R (.returned x) w') → Leaves P fn tmps R defers .returning w := by
  induction hd with
  | nil =>
    intro w _ hR hk
    obtain ⟨rfl, x, h1, h2⟩ := end_sound hE T hR he
    exact ⟨x, h1, hk x w h2 hR (Below.refl _ _)⟩
  | cons f as d cap l m h1 h2 hl ih =>
    intro w hid hR hk
    rw [idleAll] at hid
    cases hi : E.idle f as with
    | false => rw [hi] at hid; cases hid
    | true =>
      rw [hi] at hid
      simp only [cond_true] at hid
      obtain ⟨k1, k2⟩ := hI f as hi N σ s.h w _ hR h2
      rw [Array.toArray_toList] at k1 k2
      refine ⟨by simp, .func f, cap, f, d.args ++ cap, h1, by rw [h1]; exact k1, k2.mono fun e u' w' ⟨⟨x, hx⟩, hu, hb⟩ => ?_⟩
      subst hx
      subst hu
      show Leaves P fn tmps R m (settle .returning) w'
      exact ih hid (hR.world hb) fun x w2 g1 g2 g3 => hk x w2 g1 g2 ((hb.mono hR.base).trans g3)
theorem callFn_sound (hE : EnvOK P E) (hI : IdleOK P E) {ex : Code → St → Option (Ex × St)} (hx : ExecOK P ex) {f : Nat} {fn : Func} {as : List V} {h h' : Hp} {v : V} (hf : P.funcs[f]? = some fn) (hc : callFn E ex as h fn = some (v, h')) {σ : Mp} {w : World} {xs : List Value} (R : Rel N σ h w) (hr : RepL σ as xs) :
    Calls P f xs.toArray w fun e w' => ∃ x, e = .returned x ∧ Does N σ h w v h' x w' := by
  unfold callFn at hc
  split at hc
  · cases hc
  · rename_i c hb
    cases hle : Nat.ble as.length fn.ntmps with
    | false => rw [hle] at hc; cases hc
    | true =>
      rw [hle] at hc
      simp only [cond_true] at hc
      have hlen := Nat.le_of_ble_eq_true hle
      have hxl := hr.length
      have hT : RepX σ (T.ofL (as.map some) 0 .leaf) fn.ntmps (xs.toArray ++ Array.replicate (fn.ntmps - xs.toArray.size) undef) none_ := by
        refine ⟨by simp; omega, fun i _ => ?_⟩
        rw [T.get_ofL]
        by_cases hi : i < as.length
        · rw [if_pos ⟨Nat.zero_le _, by simpa using hi⟩]
          obtain ⟨x, h1, h2⟩ := hr.get (i := i) (v := as[i]) (by simp)
          have e : (xs.toArray ++ Array.replicate (fn.ntmps - xs.toArray.size) undef).getD i undef = x := by
            have hi2 : i < xs.length := by omega
            simp only [Array.getD]
            have : i < (xs.toArray ++ Array.replicate (fn.ntmps - xs.toArray.size) undef).size := by simp; omega
            simp only [this, dif_pos]
            obtain ⟨_, h3⟩ := List.getElem?_eq_some_iff.1 h1
            simp [hi2, h3]
          rw [e]
          simpa [hi] using h2
        · rw [if_neg (by simp; omega), T.get_leaf]
          have e : (xs.toArray ++ Array.replicate (fn.ntmps - xs.toArray.size) undef).getD i undef = undef := by
            simp only [Array.getD]
            split
            · have hi2 : ¬ i < xs.length := by omega
              simp [Array.getElem_append, hi2]
            · rfl
          rw [e]
          exact Rep.undef σ
      refine calls_of_wp_defers hf hb ?_
      cases hex : ex c ⟨T.ofL (as.map some) 0 .leaf, h, [], fn.ntmps⟩ with
      | none => rw [hex] at hc; cases hc
      | some p =>
        obtain ⟨e, s'⟩ := p
        rw [hex] at hc
        have hfin : (e = .normal ∨ e = .ret) ∧ idleAll E s'.d = true ∧ endOf E fn s' = some (v, h') := by
          unfold finOf at hc
          split at hc
          · rename_i s1 h1
            cases h1
            cases hi : idleAll E s'.d with
            | false => rw [hi] at hc; cases hc
            | true => rw [hi] at hc; exact ⟨.inl rfl, rfl, hc⟩
          · rename_i s1 h1
            cases h1
            cases hi : idleAll E s'.d with
            | false => rw [hi] at hc; cases hc
            | true => rw [hi] at hc; exact ⟨.inr rfl, rfl, hc⟩
          · cases hc
        obtain ⟨he, hidle, hend⟩ := hfin
        refine hx c _ e s' hex N σ _ w _ ⟨hT, R, .nil⟩ fun σ1 a1 w1 g1 g2 g3 g4 => ?_
        have hh : h'.n = s'.h.n := by
          unfold endOf at hend
          rw [Option.bind_eq_some_iff] at hend
          obtain ⟨l, _, hend⟩ := hend
          split at hend <;> cases hend <;> rfl
        have hL : Leaves P fn a1.tmps (fun e w' => ∃ x, e = .returned x ∧ Does N σ h w v h' x w') a1.defers .returning w1 :=
          leaves_sound hE hI g3.t hend g3.d hidle g3.h fun x w' k1 k2 k3 => ⟨x, rfl, σ1, g1, by rw [hh]; exact g2, k1, k2, g4.trans k3⟩
        rcases he with rfl | rfl
        · exact hL
        · exact hL
theorem call_ok (hE : EnvOK P E) (hI : IdleOK P E) (hH : HooksOK P E) (hname : NameOK P) {ex : Code → St → Option (Ex × St)} (hx : ExecOK P ex) : CallOK P (callOf E ex) := by
  intro N f as h v h' hc σ w xs R hr
  unfold callOf at hc
  split at hc
  · rename_i g hg
    exact hH f g hg N as h v h' hc σ w xs R hr
  · split at hc
    · rename_i fn hf
      have hfn := hE.fn f fn hf
      have hbody : fn.body.isNone = false := by
        unfold callFn at hc
        split at hc
        · cases hc
        · rename_i c hb; rw [hb]; rfl
      have e : (callFunc f xs.toArray).run P w = .ok (.enter f xs.toArray) w := by
        unfold callFunc
        simp only [Sem.run_bind, run_program, Result.andThen_ok, hfn, hname f fn hfn, Bool.false_eq_true, if_false, hbody, Sem.run_pure]
      rw [e]
      exact callFn_sound hE hI hx hfn hc R hr
    · cases hc
theorem exec_ok (hE : EnvOK P E) (hI : IdleOK P E) (hH : HooksOK P E) (hname : NameOK P) : ∀ n, ExecOK P (exec E n) ∧ LoopOK P (exec E n) n
  | 0 => ⟨fun c s e s' h => (by rw [exec.eq_def] at h; cases h), fun c s e s' h => (by rw [exec.eq_def] at h; cases h)⟩
  | n + 1 => by
    obtain ⟨h1, h2⟩ := exec_ok hE hI hH hname n
    have h3 := loopF_ok (E := E) h1 h2 rfl
    exact ⟨execF_ok hE h1 (call_ok hE hI hH hname h1) n h3 rfl, h3⟩
end
theorem run_ok {P : Program} {E : Env} (hE : EnvOK P E) (hI : IdleOK P E) (hH : HooksOK P E) (hname : NameOK P) (n : Nat) : CallOK P (callOf E (exec E n)) := call_ok hE hI hH hname (exec_ok hE hI hH hname n).1
/-- a call that enters -/
theorem runs {P : Program} {E : Env} (hE : EnvOK P E) (hI : IdleOK P E) (hH : HooksOK P E) (hname : NameOK P) {f : Nat} {fn : Func} (hf : P.funcs[f]? = some fn) (hb : fn.body.isNone = false) {al : List V} {h h' : Hp} {v : V} {n : Nat} (hc : callOf E (exec E n) f al h = some (v, h')) {N : Nat} {σ : Mp} {w : World} {xs : List Value} (R : Rel N σ h w) (hr : RepL σ al xs) :
    Calls P f xs.toArray w fun e w'' => ∃ x, e = .returned x ∧ Does N σ h w v h' x w'' := by
  have h1 := run_ok hE hI hH hname n N f al h v h' hc σ w xs R hr
  have e : (callFunc f xs.toArray).run P w = .ok (.enter f xs.toArray) w := by
    unfold callFunc
    simp only [Sem.run_bind, run_program, Result.andThen_ok, hf, hname f fn hf, Bool.false_eq_true, if_false, hb, Sem.run_pure]
  rw [e] at h1
  exact h1
theorem Rel.none (w : World) (ht : ∀ p ∈ Sy.tab, p.1 < w.heap.size ∧ w.heap[p.1]? = some p.2) : Rel w.heap.size (fun _ => none) ⟨.leaf, 0⟩ w := ⟨fun _ _ _ h => (by cases h), fun _ _ _ _ _ h => (by cases h), fun _ _ _ h => (by cases h), Nat.le_refl _, ht⟩
end Go.Proofs.YtehbfpcfbpbllaaGreatDoor.VM
