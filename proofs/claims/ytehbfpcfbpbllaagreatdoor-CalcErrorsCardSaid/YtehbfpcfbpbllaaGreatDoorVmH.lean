/- The machine of plain data: a region whose order is drawn goes as its plan. No program in sight. -/
import Derived.Test.YtehbfpcfbpbllaaGreatDoorVmD
namespace Go.Proofs.YtehbfpcfbpbllaaGreatDoor.VM
open Go Go.RowKit
set_option linter.unusedSectionVars false
variable [Sy]
def valOf : PR → V
  | .skip => undefV
  | .l v => v
  | .f r _ id => r.at id
section
variable {P : Program} {E : Env} {N n0 : Nat} {ops : Array Oper}
/-- what has come up in the plan, and not yet in the world -/
structure Valid (E : Env) (ops : Array Oper) (n0 : Nat) (σ : Mp) (s : St) (o : Oper) (p : PR) : Prop where
  run : ∃ b, wantedV s.t ops.toList o.guard = some b ∧ ((b = false ∧ p = .skip) ∨ (b = true ∧ ((∃ v, lop E s.t s.h o.op = some v ∧ p = .l v) ∨ ∃ r k id, fop E s.t o.op = some (r, k) ∧ p = .f r k id)))
  blk : ∀ r k id, p = .f r k id → s.h.t.get id = some k ∧ id < s.h.n ∧ σ id = none ∧ n0 ≤ id
  slot : ∀ d, o.dst = some d → d < s.n ∧ (s.t.get d).getD undefV = valOf p
structure Inv (E : Env) (N : Nat) (ops : Array Oper) (n0 : Nat) (σ : Mp) (listed : Array Bool) (l : Nat) (pd : List (Nat × Oper × PR)) (s : St) (a : Act) (w : World) : Prop where
  size : listed.size = ops.size
  sub : ∀ i, i < ops.size → listed.getD i true = true → Nat.testBit l i = true
  cov : ∀ i, i < ops.size → Nat.testBit l i = true → listed.getD i true = true ∨ ∃ o p, (i, o, p) ∈ pd
  pend : ∀ i o p, (i, o, p) ∈ pd → ops[i]? = some o ∧ isE o.op = false ∧ Nat.testBit l i = true
  val : ∀ i o p, (i, o, p) ∈ pd → listed.getD i true = false → Valid E ops n0 σ s o p
  ids : ∀ i j o o' r r' k k' id, (i, o, PR.f r k id) ∈ pd → (j, o', PR.f r' k' id) ∈ pd → listed.getD i true = false → listed.getD j true = false → i = j
  rel : RelS N σ s a w (fun d => ∃ i o p, (i, o, p) ∈ pd ∧ listed.getD i true = false ∧ o.dst = some d)
  cl : Closed ops.toList (fun i => Nat.testBit l i = true)
  cll : Closed ops.toList (fun i => listed.getD i true = true)
  base : n0 ≤ s.h.n
def cnt (listed : Array Bool) : Nat := listed.toList.count false
theorem getD_list {listed : Array Bool} {i : Nat} (d : Bool) (h : i < listed.size) : listed.getD i d = listed[i] := by simp [Array.getD, h]
theorem unl_lt {listed : Array Bool} {i : Nat} (h : listed.getD i true = false) : i < listed.size := by
  rcases Nat.lt_or_ge i listed.size with h1 | h1
  · exact h1
  · simp [Array.getD, Nat.not_lt.2 h1] at h
theorem cnt_set {listed : Array Bool} {i : Nat} (h : listed.getD i true = false) : cnt (listed.setIfInBounds i true) + 1 = cnt listed := by
  have hi := unl_lt h
  unfold cnt
  rw [Array.toList_setIfInBounds, List.count_set (by simpa using hi)]
  have e : listed.toList[i]'(by simpa using hi) = false := by rw [getD_list true hi] at h; simpa using h
  have hpos : 0 < listed.toList.count false := List.count_pos_iff.2 (by rw [← e]; exact List.getElem_mem _)
  rw [e]
  have h1 : (false == false) = true := rfl
  have h2 : (true == false) = false := rfl
  simp only [h1, h2, if_true, Bool.false_eq_true, if_false]
  omega
theorem set_get {listed : Array Bool} {i j : Nat} (hi : i < listed.size) : (listed.setIfInBounds i true).getD j true = true ↔ j = i ∨ listed.getD j true = true := by
  by_cases h : j = i
  · subst h; simp [Array.getD, hi]
  · have := Go.getD_set_ne (listed := listed) (i := i) (j := j) true (Ne.symm h)
    rw [this]
    simp [h]
theorem set_unl {listed : Array Bool} {i j : Nat} (hi : i < listed.size) (h : (listed.setIfInBounds i true).getD j true = false) : j ≠ i ∧ listed.getD j true = false := by
  constructor
  · intro e
    have := (set_get hi (j := j)).2 (.inl e)
    rw [h] at this; cases this
  · cases hc : listed.getD j true with
    | false => rfl
    | true =>
      have := (set_get hi (j := j)).2 (.inr hc)
      rw [h] at this; cases this
theorem bit_set {l i j : Nat} : Nat.testBit (l ||| 2 ^ i) j = true ↔ Nat.testBit l j = true ∨ j = i := by
  rw [Nat.testBit_or, Bool.or_eq_true, Nat.testBit_two_pow, decide_eq_true_iff]
  exact ⟨fun h => h.imp id Eq.symm, fun h => h.imp id Eq.symm⟩
theorem put_facts {s s' : St} {dst : Option Tmp} {v : V} {h' : Hp} (h : s.put dst v h' = some s') : s'.h = h' ∧ s'.n = s.n ∧ s'.d = s.d ∧ (∀ d, dst = some d → d < s.n ∧ (s'.t.get d).getD undefV = v) ∧ ∀ k, dst ≠ some k → s'.t.get k = s.t.get k := by
  rw [St.put_eq] at h
  cases dst with
  | none => cases h; exact ⟨rfl, rfl, rfl, fun d h => (by cases h), fun _ _ => rfl⟩
  | some d =>
    simp only at h
    cases hb : Nat.blt d s.n with
    | false => rw [hb] at h; cases h
    | true =>
      rw [hb] at h
      cases h
      rw [blt_d, decide_eq_true_iff] at hb
      refine ⟨rfl, rfl, rfl, fun q hq => ?_, fun k hk => ?_⟩
      · cases hq
        exact ⟨hb, by rw [T.get_put, if_pos rfl]; rfl⟩
      · rw [T.get_put, if_neg (fun e => hk (by rw [e]))]
theorem take_facts {s s' : St} {dst : Option Tmp} {p : PR} (h : s.take dst p = some s') : s'.n = s.n ∧ s'.d = s.d ∧ (∀ d, dst = some d → d < s.n ∧ (s'.t.get d).getD undefV = valOf p) ∧ (∀ k, dst ≠ some k → s'.t.get k = s.t.get k) ∧ s'.h = (match p with | .f _ b _ => s.h.new b | _ => s.h) := by
  unfold St.take at h
  split at h
  · obtain ⟨h1, h2, h3, h4, h5⟩ := put_facts h; exact ⟨h2, h3, h4, h5, h1⟩
  · obtain ⟨h1, h2, h3, h4, h5⟩ := put_facts h; exact ⟨h2, h3, h4, h5, h1⟩
  · obtain ⟨h1, h2, h3, h4, h5⟩ := put_facts h; exact ⟨h2, h3, h4, h5, h1⟩
theorem nStep_facts {o : Oper} {s : St} {p : PR} (h : nStep E ops.toList o s = some p) : ∃ b, wantedV s.t ops.toList o.guard = some b ∧ ((b = false ∧ p = .skip) ∨ (b = true ∧ ((∃ v, lop E s.t s.h o.op = some v ∧ p = .l v) ∨ ∃ r k, fop E s.t o.op = some (r, k) ∧ p = .f r k s.h.n))) := by
  simp only [nStep, Option.bind_eq_some_iff] at h
  obtain ⟨b, hw, h⟩ := h
  refine ⟨b, hw, ?_⟩
  split at h
  · right
    refine ⟨rfl, ?_⟩
    unfold prOf at h
    split at h
    · rename_i v hv; cases h; exact .inl ⟨v, hv, rfl⟩
    · split at h
      · rename_i r k hf; cases h; exact .inr ⟨r, k, hf, rfl⟩
      · cases h
  · cases h; exact .inl ⟨rfl, rfl⟩
theorem eStep_facts {call : CallF} {o : Oper} {s s' : St} (h : eStep E call ops.toList o s = some s') : s'.n = s.n ∧ ∀ k, o.dst ≠ some k → s'.t.get k = s.t.get k := by
  simp only [eStep, Option.bind_eq_some_iff] at h
  obtain ⟨b, _, h⟩ := h
  split at h
  · unfold onNx at h
    split at h
    · have := put_facts h; exact ⟨this.2.1, this.2.2.2.2⟩
    · have := put_facts h; exact ⟨this.2.1, this.2.2.2.2⟩
    · rw [Option.bind_eq_some_iff] at h
      obtain ⟨p, _, h⟩ := h
      have := put_facts h; exact ⟨this.2.1, this.2.2.2.2⟩
    · have := put_facts h; exact ⟨this.2.1, this.2.2.2.2⟩
    · cases h
    · cases h
  · have := put_facts h; exact ⟨this.2.1, this.2.2.2.2⟩
/-- the state has changed in no slot that is looked at, and what is read is as it was -/
theorem Valid.keep {σ σ' : Mp} {s s' : St} {o : Oper} {p : PR} {i : Nat} (v : Valid E ops n0 σ s o p) (ht : ∀ d ∈ looks ops.toList o, s'.t.get d = s.t.get d) (hd : ∀ d, o.dst = some d → s'.t.get d = s.t.get d) (hn : s'.n = s.n)
    (hs : still E s' (i, o, p) = true ∨ s'.h = s.h) (hhn : s.h.n ≤ s'.h.n) (hσ : ∀ B, B < s.h.n → σ' B = σ B) : Valid E ops n0 σ' s' o p := by
  have e1 : wantedV s'.t ops.toList o.guard = wantedV s.t ops.toList o.guard := wantedV_congr fun d hd => by rw [ht d hd]
  have e2 := ev_congr (t := s'.t) (t' := s.t) (ops := ops.toList) (o := o) fun d hd => by rw [ht d hd]
  refine ⟨?_, fun r k id hp => ?_, fun d hdd => ⟨by rw [hn]; exact (v.slot d hdd).1, by rw [hd d hdd]; exact (v.slot d hdd).2⟩⟩
  · obtain ⟨b, h1, h2⟩ := v.run
    refine ⟨b, by rw [e1]; exact h1, h2.imp id fun ⟨hb, h3⟩ => ⟨hb, h3.imp (fun ⟨u, h4, h5⟩ => ⟨u, ?_, h5⟩) fun ⟨r, k, id, h4, h5⟩ => ⟨r, k, id, by rw [fop_congr e2]; exact h4, h5⟩⟩⟩
    rw [lop_congr e2]
    rcases hs with hs | hs
    · cases hr : readsM o.op with
      | false => rw [lop_heap hr (h' := s.h)]; exact h4
      | true =>
        subst h5
        simp only [still, hr, cond_true] at hs
        split at hs
        · rename_i u' hu
          rw [lop_congr e2] at hu
          rw [hu, sameV_eq hs]
        · cases hs
    · rw [hs]; exact h4
  · obtain ⟨h1, h2, h3, h4⟩ := v.blk r k id hp
    subst hp
    refine ⟨?_, by omega, by rw [hσ id h2]; exact h3, h4⟩
    rcases hs with hs | hs
    · simp only [still] at hs
      split at hs
      · rename_i c hc
        rw [hc, sameB_eq hs]
      · cases hs
    · rw [hs]; exact h1
variable {Q : Exit → Act → World → Prop} {ms : List Nat}
theorem mem_list {o : Oper} {i : Nat} : ops.toList[i]? = some o ↔ ops[i]? = some o := by simp
/-- all have come up, if nothing may come up -/
theorem all_listed (st : Stat ops.toList ms) {listed : Array Bool} (hsz : listed.size = ops.size) (hr : Region.ready .any ops listed = []) : ∀ i, i < ops.size → listed.getD i true = true := by
  intro i
  induction i using Nat.strongRecOn with
  | _ i ih =>
    intro hi
    cases hc : listed.getD i true with
    | true => rfl
    | false =>
      exfalso
      have ho : ops[i]? = some ops[i] := by simp [hi]
      have : i ∈ Region.ready .any ops listed := by
        rw [mem_ready]
        refine ⟨hc, _, ho, fun e he hb => ?_⟩
        have hd : deps ops[i] e.on := ⟨e, by simpa using he, hb, rfl⟩
        have hlt := st.lt i ops[i] (mem_list.2 ho) e.on hd
        have h2 := ih e.on hlt (by omega)
        rw [getD_list false (by omega)]
        rw [getD_list true (by omega)] at h2
        exact h2
      rw [hr] at this
      cases this
theorem ready_facts (st : Stat ops.toList ms) {listed : Array Bool} (hsz : listed.size = ops.size) {i : Nat} (h : i ∈ Region.ready .any ops listed) : listed.getD i true = false ∧ ∃ o, ops[i]? = some o ∧ ∀ j, deps o j → listed.getD j true = true := by
  obtain ⟨h1, o, h2, h3⟩ := mem_ready.1 h
  refine ⟨h1, o, h2, fun j hj => ?_⟩
  have hlt := st.lt i o (mem_list.2 h2) j hj
  have hi := unl_lt h1
  obtain ⟨e, he, hb, rfl⟩ := hj
  have := h3 e (by simpa using he) hb
  rw [getD_list true (by omega)]
  rw [getD_list false (by omega)] at this
  exact this
theorem RelS.weaken {σ : Mp} {s : St} {a : Act} {w : World} {S T : Nat → Prop} (R : RelS N σ s a w S) (h : ∀ d, S d → T d) : RelS N σ s a w T := ⟨⟨R.t.size, fun i hi => R.t.at_ i fun hs => hi (h i hs)⟩, R.h, R.d⟩
/-- the state of the machine's slots has changed where nothing is told -/
theorem RelS.slots {σ : Mp} {s s' : St} {a : Act} {w : World} {S T : Nat → Prop} (R : RelS N σ s a w S) (hn : s'.n = s.n) (hd : s'.d = s.d) (hh : Rel N σ s'.h w) (ht : ∀ k, ¬ T k → ¬ S k ∧ s'.t.get k = s.t.get k) : RelS N σ s' a w T :=
  ⟨⟨by rw [hn]; exact R.t.size, fun i hi => by rw [(ht i hi).2]; exact R.t.at_ i (ht i hi).1⟩, hh, by rw [hd]; exact R.d⟩
theorem plan_sound (hE : EnvOK P E) {call : CallF} (hcall : CallOK P call) (st : Stat ops.toList ms) {s' : St} : ∀ (k m : Nat) (rem : List PStep) (l : Nat) (pd : List (Nat × Oper × PR)) (s : St) (σ : Mp) (listed : Array Bool) (a : Act) (w : World), m + rem.length ≤ k → cnt listed ≤ m →
    PlanFrom ops.toList ms l rem → Inv E N ops n0 σ listed l pd s a w → planRun E call ops.toList rem pd s = some s' →
    (∀ σ' a' w', Mp.Ext n0 σ σ' → n0 ≤ s'.h.n → RelS N σ' s' a' w' (fun _ => False) → Below N w w' → Q .normal a' w') → wpAny P .any ops Q m listed a w := by
  intro k
  induction k with
  | zero =>
    intro m rem l pd s σ listed a w hk hc hp I hr hQ
    have hm : m = 0 := by omega
    subst hm
    have hall : ∀ i, i < ops.size → listed.getD i true = true := fun i hi => by
      cases hcc : listed.getD i true with
      | true => rfl
      | false => have := cnt_set hcc; omega
    have hrem : rem = [] := List.length_eq_zero_iff.1 (by omega)
    subst hrem
    refine ⟨?_, ?_⟩
    · cases hrd : Region.ready .any ops listed with
      | nil => rfl
      | cons i r =>
        have hi : i ∈ Region.ready .any ops listed := by rw [hrd]; simp
        have h1 := (ready_facts st I.size hi).1
        have h2 := hall i (by have := unl_lt h1; rw [I.size] at this; exact this)
        rw [h1] at h2; cases h2
    · simp only [planRun, Option.some.injEq] at hr
      subst hr
      exact hQ σ a w (Mp.Ext.refl _ _) I.base (I.rel.weaken fun d ⟨i, o, p, h1, h2, _⟩ => by
        have h3 := hall i (by have := unl_lt h2; rw [I.size] at this; exact this)
        rw [h2] at h3; cases h3) (Below.refl _ _)
  | succ k ih =>
    intro m rem l pd s σ listed a w hk hc hp I hr hQ
    -- the end
    have hend : (∀ i, i < ops.size → listed.getD i true = true) → Q .normal a w := fun hall => by
      cases hp with
      | nil _ h0 =>
        simp only [planRun, Option.some.injEq] at hr
        subst hr
        exact hQ σ a w (Mp.Ext.refl _ _) I.base (I.rel.weaken fun d ⟨i, o, p, h1, h2, _⟩ => by
          have h3 := hall i (by have := unl_lt h2; rw [I.size] at this; exact this)
          rw [h2] at h3; cases h3) (Below.refl _ _)
      | n _ i o r ho hl _ _ _ =>
        have hi : i < ops.size := (Array.getElem?_eq_some_iff.1 (mem_list.1 ho)).1
        have := I.sub i hi (hall i hi)
        rw [hl] at this; cases this
      | e _ i o r ho hl _ _ _ _ =>
        have hi : i < ops.size := (Array.getElem?_eq_some_iff.1 (mem_list.1 ho)).1
        have := I.sub i hi (hall i hi)
        rw [hl] at this; cases this
    -- what comes up in the world
    have hgo : (∀ i o r, rem = .n i o :: r → False) → wpAny P .any ops Q m listed a w := fun hnn => by
      cases m with
      | zero =>
        have hall : ∀ i, i < ops.size → listed.getD i true = true := fun i hi => by
          cases hcc : listed.getD i true with
          | true => rfl
          | false => have := cnt_set hcc; omega
        refine ⟨?_, hend hall⟩
        cases hrd : Region.ready .any ops listed with
        | nil => rfl
        | cons i r =>
          have hi : i ∈ Region.ready .any ops listed := by rw [hrd]; simp
          have h1 := (ready_facts st I.size hi).1
          have h2 := hall i (by have := unl_lt h1; rw [I.size] at this; exact this)
          rw [h1] at h2; cases h2
      | succ m =>
        refine ⟨fun h => hend (all_listed st I.size h), fun i hi => ?_⟩
        obtain ⟨hu, o, ho, hdeps⟩ := ready_facts st I.size hi
        have hil := unl_lt hu
        have hio : i < ops.size := by rw [← I.size]; exact hil
        have hreach : ∀ j, Reach ops.toList i j → listed.getD j true = true := fun j hj => hj.inD I.cll fun o' ho' q hq => by
          rw [mem_list, ho] at ho'; cases ho'; exact hdeps q hq
        have hcnt : cnt (listed.setIfInBounds i true) ≤ m := by have := cnt_set hu; omega
        -- no slot that is looked at lacks
        have hlook : ∀ d ∈ looks ops.toList o, ¬ ∃ j p q, (j, p, q) ∈ pd ∧ listed.getD j true = false ∧ p.dst = some d := fun d hd ⟨j, p, q, hm, hj, hpd⟩ => by
          obtain ⟨hp1, hp2, _⟩ := I.pend j p q hm
          by_cases hij : i = j
          · subst hij
            rw [ho] at hp1; cases hp1
            exact st.own i o d (mem_list.2 ho) hpd hp2 hd
          · rcases st.look i j o p d hij (mem_list.2 ho) (mem_list.2 hp1) hpd hd with h1 | ⟨h1, _⟩
            · have := hreach j (st.reach i j h1)
              rw [hj] at this; cases this
            · rw [hp2] at h1; cases h1
        have hsub' : ∀ l', (∀ j, Nat.testBit l j = true → Nat.testBit l' j = true) → Nat.testBit l' i = true → ∀ j, j < ops.size → (listed.setIfInBounds i true).getD j true = true → Nat.testBit l' j = true := fun l' h1 h2 j hj h3 => by
          rcases (set_get hil).1 h3 with rfl | h4
          · exact h2
          · exact h1 j (I.sub j hj h4)
        have hcll' : Closed ops.toList (fun j => (listed.setIfInBounds i true).getD j true = true) := fun j o' ho' hj q hq => by
          show (listed.setIfInBounds i true).getD q true = true
          rw [set_get hil]
          right
          rcases (set_get hil).1 hj with rfl | h4
          · rw [mem_list, ho] at ho'; cases ho'; exact hdeps q hq
          · exact I.cll j o' ho' h4 q hq
        cases hbit : Nat.testBit l i with
        | true =>
          -- one that the plan has had
          rcases I.cov i hio hbit with h1 | ⟨o', p, hm⟩
          · rw [hu] at h1; cases h1
          · obtain ⟨hp1, hp2, _⟩ := I.pend i o' p hm
            rw [ho] at hp1; cases hp1
            have V := I.val i o p hm hu
            obtain ⟨b, hw, hcase⟩ := V.run
            have hrel : ∀ (σ' : Mp) (x : Value) (w' : World), Mp.le σ σ' → Rep σ' (valOf p) x → Rel N σ' s.h w' → RelS N σ' s (a.put o.dst x) w' (fun d => ∃ j o p, (j, o, p) ∈ pd ∧ (listed.setIfInBounds i true).getD j true = false ∧ o.dst = some d) := fun σ' x w' hle hx hh => by
              refine ⟨⟨?_, fun d hd => ?_⟩, hh, ?_⟩
              · rw [← I.rel.t.size]; cases o.dst <;> simp [Act.put]
              · cases hdst : o.dst with
                | none =>
                  refine (I.rel.t.at_ d fun ⟨j, o2, p2, h1, h2, h3⟩ => hd ⟨j, o2, p2, h1, ?_, h3⟩).mono hle
                  cases hc2 : (listed.setIfInBounds i true).getD j true with
                  | false => rfl
                  | true =>
                    rcases (set_get hil).1 hc2 with rfl | h4
                    · have := (I.pend _ _ _ h1).1; rw [ho] at this; cases this; rw [hdst] at h3; cases h3
                    · rw [h2] at h4; cases h4
                | some e =>
                  obtain ⟨g1, g2⟩ := V.slot e hdst
                  by_cases hde : d = e
                  · subst hde
                    rw [g2]
                    have : d < a.tmps.size := by rw [I.rel.t.size]; exact g1
                    simp [Act.put, Array.getD, this, hx]
                  · have e2 : (a.put (some e) x).tmps.getD d undef = a.tmps.getD d undef := getD_set_ne hde
                    rw [e2]
                    refine (I.rel.t.at_ d fun ⟨j, o2, p2, h1, h2, h3⟩ => hd ⟨j, o2, p2, h1, ?_, h3⟩).mono hle
                    cases hc2 : (listed.setIfInBounds i true).getD j true with
                    | false => rfl
                    | true =>
                      rcases (set_get hil).1 hc2 with rfl | h4
                      · have := (I.pend _ _ _ h1).1; rw [ho] at this; cases this; rw [hdst] at h3; cases h3; exact absurd rfl hde
                      · rw [h2] at h4; cases h4
              · have : (a.put o.dst x).defers = a.defers := by cases o.dst <;> rfl
                rw [this]
                exact I.rel.d.mono hle
            have hinv : ∀ (σ' : Mp) (x : Value) (w' : World), (∀ B, B < s.h.n → (∀ r k, p ≠ .f r k B) → σ' B = σ B) → Mp.le σ σ' → Rep σ' (valOf p) x → Rel N σ' s.h w' → Inv E N ops n0 σ' (listed.setIfInBounds i true) l pd s (a.put o.dst x) w' := fun σ' x w' hsame hle hx hh => by
              refine ⟨by simp [I.size], hsub' l (fun _ h => h) hbit, fun j hj hb => ?_, I.pend, fun j o2 p2 hm2 hj => ?_, fun j j' o2 o3 r r' k k' id h1 h2 h3 h4 => I.ids j j' o2 o3 r r' k k' id h1 h2 (set_unl hil h3).2 (set_unl hil h4).2, hrel σ' x w' hle hx hh, I.cl, hcll', I.base⟩
              · rcases I.cov j hj hb with h1 | h1
                · exact .inl ((set_get hil).2 (.inr h1))
                · exact .inr h1
              · obtain ⟨hne, hj'⟩ := set_unl hil hj
                have V2 := I.val j o2 p2 hm2 hj'
                refine ⟨V2.run, fun r k id hp2 => ?_, V2.slot⟩
                obtain ⟨g1, g2, g3, g4⟩ := V2.blk r k id hp2
                refine ⟨g1, g2, ?_, g4⟩
                rw [hsame id g2 fun r' k' hp3 => hne (I.ids j i o2 o r r' k k' id (hp2 ▸ hm2) (hp3 ▸ hm) hj' hu)]
                exact g3
            refine n_sound (K := wpAny P .any ops Q m (listed.setIfInBounds i true)) hE I.rel ho hlook hw hcase ?_
            cases p with
            | skip =>
              exact ih m rem l pd s σ _ _ w (by omega) hcnt hp (hinv σ undef w (fun _ _ _ => rfl) (Mp.le.refl _) (Rep.undef _) I.rel.h) hr hQ
            | l v =>
              intro x hx
              exact ih m rem l pd s σ _ _ w (by omega) hcnt hp (hinv σ x w (fun _ _ _ => rfl) (Mp.le.refl _) hx I.rel.h) hr hQ
            | f r k id =>
              intro x w' hmade
              obtain ⟨b', n', q1, q2, q3, q4, q5⟩ := hmade
              obtain ⟨g1, g2, g3, g4⟩ := V.blk r k id rfl
              have hle := Mp.le_put (p := (b', n')) g3
              have hR := I.rel.h.come g2 g1 g3 q5 q1 q2 q4
              refine ih m rem l pd s (σ.put id (b', n')) _ _ w' (by omega) hcnt hp (hinv _ x w' (fun B _ hne => ?_) hle (q3 _ _ (Mp.put_same _ _ _)) hR) hr fun σ' a' w2 h1 h2 h3 h4 => hQ σ' a' w2 ((Mp.Ext.put g3 g4).trans h1 (Nat.le_refl _)) h2 h3 ((q5.mono I.rel.h.base).trans h4)
              unfold Mp.put
              rw [if_neg fun e => hne r k (by rw [e])]
        | false =>
          -- the next one that does something
          cases hp with
          | nil _ h0 => have := h0 i (by simpa using hio); rw [hbit] at this; cases this
          | n _ i' o' r' _ _ _ _ _ => exact (hnn _ _ _ rfl).elim
          | e _ i' o' r' ho' hl' hE' hd' hu' hp' =>
            have hii : i = i' := hu' i o (mem_list.2 ho) hbit fun j hj => by
              have hlt := st.lt i o (mem_list.2 ho) j hj
              exact I.sub j (by omega) (hdeps j hj)
            subst hii
            rw [mem_list, ho] at ho'; cases ho'
            simp only [planRun] at hr
            split at hr
            · rename_i s1 hs1
              cases hall : (pd.filter fun p => !Nat.testBit (ms.getD i 0) p.1).all (still E s1) with
              | false => rw [hall] at hr; cases hr
              | true =>
                rw [hall] at hr
                simp only [cond_true] at hr
                refine e_sound (K := wpAny P .any ops Q m (listed.setIfInBounds i true)) hE hcall I.rel hs1 ho hlook fun σ' a' w' hx hnn' hR hbel => ?_
                have hf : ∀ j o2 p2, (j, o2, p2) ∈ (pd.filter fun p => !Nat.testBit (ms.getD i 0) p.1) ↔ (j, o2, p2) ∈ pd ∧ Nat.testBit (ms.getD i 0) j = false := fun j o2 p2 => by
                  rw [List.mem_filter]; simp
                have hst := eStep_facts hs1
                have hkeep : ∀ j o2 p2, (j, o2, p2) ∈ pd → Nat.testBit (ms.getD i 0) j = false → listed.getD j true = false → Valid E ops n0 σ' s1 o2 p2 := fun j o2 p2 hm hmj hj => by
                  obtain ⟨g1, g2, g3⟩ := I.pend j o2 p2 hm
                  have hne : j ≠ i := fun e => by subst e; rw [hbit] at g3; cases g3
                  refine (I.val j o2 p2 hm hj).keep (i := j) (fun d hd => ?_) (fun d hd => ?_) hst.1 (.inl (List.all_eq_true.1 hall _ ((hf j o2 p2).2 ⟨hm, hmj⟩))) hnn' hx.same
                  · refine hst.2 d fun hdd => ?_
                    rcases st.look j i o2 o d hne (mem_list.2 g1) (mem_list.2 ho) hdd hd with h1 | ⟨_, h1⟩
                    · have := (st.reach j i h1).inD I.cl fun o3 ho3 q hq => I.cl j o3 ho3 g3 q hq
                      rw [hbit] at this; cases this
                    · rw [hmj] at h1; cases h1
                  · refine hst.2 d fun hdd => ?_
                    have := (st.slot j i o2 o d hne (mem_list.2 g1) (mem_list.2 ho) hdd hd).1
                    rw [g2] at this; cases this
                refine ih m r' (l ||| 2 ^ i) _ s1 σ' _ a' w' (by simp at hk; omega) hcnt hp' ⟨by simp [I.size], hsub' _ (fun j h => bit_set.2 (.inl h)) (bit_set.2 (.inr rfl)), fun j hj hb => ?_, fun j o2 p2 hm => ?_, fun j o2 p2 hm hj => ?_, fun j j' o2 o3 r1 r2 k1 k2 id h1 h2 h3 h4 => ?_, ?_, ?_, hcll', Nat.le_trans I.base hnn'⟩ hr fun σ2 a2 w2 h1 h2 h3 h4 => hQ σ2 a2 w2 ?_ h2 h3 (hbel.trans h4)
                · rcases bit_set.1 hb with h1 | rfl
                  · rcases I.cov j hj h1 with h2 | ⟨o2, p2, h2⟩
                    · exact .inl ((set_get hil).2 (.inr h2))
                    · cases hmj : Nat.testBit (ms.getD i 0) j with
                      | true => exact .inl ((set_get hil).2 (.inr (hreach j (st.reach i j hmj))))
                      | false => exact .inr ⟨o2, p2, (hf j o2 p2).2 ⟨h2, hmj⟩⟩
                  · exact .inl ((set_get hil).2 (.inl rfl))
                · obtain ⟨g1, g2, g3⟩ := I.pend j o2 p2 ((hf j o2 p2).1 hm).1
                  exact ⟨g1, g2, bit_set.2 (.inl g3)⟩
                · obtain ⟨h1, h2⟩ := (hf j o2 p2).1 hm
                  exact hkeep j o2 p2 h1 h2 (set_unl hil hj).2
                · exact I.ids j j' o2 o3 r1 r2 k1 k2 id ((hf _ _ _).1 h1).1 ((hf _ _ _).1 h2).1 (set_unl hil h3).2 (set_unl hil h4).2
                · refine hR.weaken fun d ⟨j, o2, p2, h1, h2, h3⟩ => ?_
                  obtain ⟨g1, g2, g3⟩ := I.pend j o2 p2 h1
                  have hne : j ≠ i := fun e => by subst e; rw [hbit] at g3; cases g3
                  refine ⟨j, o2, p2, (hf j o2 p2).2 ⟨h1, ?_⟩, ?_, h3⟩
                  · cases hmj : Nat.testBit (ms.getD i 0) j with
                    | false => rfl
                    | true => have := hreach j (st.reach i j hmj); rw [h2] at this; cases this
                  · cases hc2 : (listed.setIfInBounds i true).getD j true with
                    | false => rfl
                    | true =>
                      rcases (set_get hil).1 hc2 with h4 | h4
                      · exact absurd h4 hne
                      · rw [h2] at h4; cases h4
                · intro j o2 ho2 hj q hq
                  show Nat.testBit (l ||| 2 ^ i) q = true
                  replace hj : Nat.testBit (l ||| 2 ^ i) j = true := hj
                  rw [bit_set] at hj ⊢
                  rcases hj with hj | rfl
                  · exact .inl (I.cl j o2 ho2 hj q hq)
                  · rw [mem_list, ho] at ho2; cases ho2
                    exact .inl (hd' q hq)
                · exact ⟨hx.le.trans h1.le, fun B hB => (h1.same B hB).trans (hx.same B (by have := I.base; omega))⟩
            · cases hr
    -- the plan goes on alone
    cases rem with
    | nil => exact hgo (fun _ _ _ h => by cases h)
    | cons ps r =>
      cases ps with
      | e i o m' => exact hgo (fun _ _ _ h => by cases h)
      | n i o =>
        cases hp with
        | n _ _ _ _ ho' hl hE' hd' hp' =>
          have ho := mem_list.1 ho'
          have hio : i < ops.size := (Array.getElem?_eq_some_iff.1 ho).1
          have hui : listed.getD i true = false := by
            cases hc2 : listed.getD i true with
            | false => rfl
            | true => have := I.sub i hio hc2; rw [hl] at this; cases this
          simp only [planRun] at hr
          split at hr
          · rename_i p hn
            split at hr
            · rename_i s1 hs1
              cases hchk : stillAll E s1 pd p with
              | false => rw [hchk] at hr; cases hr
              | true =>
                rw [hchk] at hr
                simp only [cond_true] at hr
                obtain ⟨t1, t2, t3, t4, t5⟩ := take_facts hs1
                obtain ⟨b, hw, hcase⟩ := nStep_facts hn
                have hhn : s.h.n ≤ s1.h.n := by
                  rw [t5]
                  cases p with
                  | f r k id => exact Nat.le_succ _
                  | l v => exact Nat.le_refl _
                  | skip => exact Nat.le_refl _
                have hrelh : Rel N σ s1.h w := by
                  rw [t5]
                  cases p with
                  | f r k id => exact I.rel.h.more _
                  | l v => exact I.rel.h
                  | skip => exact I.rel.h
                have hself : Valid E ops n0 σ s1 o p := by
                  have e0 : ∀ d ∈ looks ops.toList o, s1.t.get d = s.t.get d := fun d hd => t4 d fun hdd => st.own i o d ho' hdd hE' hd
                  have e1 : wantedV s1.t ops.toList o.guard = wantedV s.t ops.toList o.guard := wantedV_congr fun d hd => by rw [e0 d hd]
                  have e2 := ev_congr (t := s1.t) (t' := s.t) (ops := ops.toList) (o := o) fun d hd => by rw [e0 d hd]
                  have c1 : (b = false ∧ p = .skip) ∨ (b = true ∧ ((∃ v, lop E s1.t s1.h o.op = some v ∧ p = .l v) ∨ ∃ r k id, fop E s1.t o.op = some (r, k) ∧ p = .f r k id)) := by
                    rcases hcase with h | ⟨hb, ⟨u, h4, h5⟩ | ⟨r', k', h4, h5⟩⟩
                    · exact .inl h
                    · subst h5
                      exact .inr ⟨hb, .inl ⟨u, by rw [lop_congr e2, t5]; exact h4, rfl⟩⟩
                    · exact .inr ⟨hb, .inr ⟨r', k', s.h.n, by rw [fop_congr e2]; exact h4, h5⟩⟩
                  have c2 : ∀ r k id, p = .f r k id → s1.h.t.get id = some k ∧ id < s1.h.n ∧ σ id = none ∧ n0 ≤ id := fun r' k' id hp => by
                    subst hp
                    rcases hcase with ⟨_, h⟩ | ⟨_, ⟨v, _, h⟩ | ⟨r'', k'', _, h⟩⟩
                    · cases h
                    · cases h
                    · cases h
                      rw [t5]
                      exact ⟨by rw [Hp.get_new, if_pos rfl], Nat.lt_succ_self _, I.rel.h.free, I.base⟩
                  exact ⟨⟨b, by rw [e1]; exact hw, c1⟩, c2, fun d hd => by rw [t1]; exact t3 d hd⟩
                have hkeep : ∀ j o2 p2, (j, o2, p2) ∈ pd → listed.getD j true = false → Valid E ops n0 σ s1 o2 p2 := fun j o2 p2 hm hj => by
                  obtain ⟨g1, g2, g3⟩ := I.pend j o2 p2 hm
                  have hne : j ≠ i := fun e => by subst e; rw [hl] at g3; cases g3
                  refine (I.val j o2 p2 hm hj).keep (i := j) (fun d hd => t4 d fun hdd => ?_) (fun d hd => t4 d fun hdd => ?_) t1 ?_ hhn (fun _ _ => rfl)
                  · rcases st.look j i o2 o d hne (mem_list.2 g1) ho' hdd hd with h1 | ⟨h1, _⟩
                    · have := (st.reach j i h1).inD I.cl fun o3 ho3 q hq => I.cl j o3 ho3 g3 q hq
                      rw [hl] at this; cases this
                    · rw [hE'] at h1; cases h1
                  · have := (st.slot j i o2 o d hne (mem_list.2 g1) ho' hdd hd).1
                    rw [g2] at this; cases this
                  · cases p with
                    | f r k id => exact .inl (List.all_eq_true.1 hchk _ hm)
                    | l v => exact .inr t5
                    | skip => exact .inr t5
                refine ih m r (l ||| 2 ^ i) ((i, o, p) :: pd) s1 σ listed a w (by simp at hk; omega) hc hp' ⟨I.size, fun j hj h => bit_set.2 (.inl (I.sub j hj h)), fun j hj hb => ?_, fun j o2 p2 hm => ?_, fun j o2 p2 hm hj => ?_, fun j j' o2 o3 r1 r2 k1 k2 id h1 h2 h3 h4 => ?_, ?_, ?_, I.cll, Nat.le_trans I.base hhn⟩ hr hQ
                · rcases bit_set.1 hb with h1 | rfl
                  · exact (I.cov j hj h1).imp id fun ⟨o2, p2, h2⟩ => ⟨o2, p2, by simp [h2]⟩
                  · exact .inr ⟨o, p, by simp⟩
                · rcases List.mem_cons.1 hm with h1 | h1
                  · cases h1; exact ⟨ho, hE', bit_set.2 (.inr rfl)⟩
                  · obtain ⟨g1, g2, g3⟩ := I.pend j o2 p2 h1
                    exact ⟨g1, g2, bit_set.2 (.inl g3)⟩
                · rcases List.mem_cons.1 hm with h1 | h1
                  · cases h1; exact hself
                  · exact hkeep j o2 p2 h1 hj
                · have hid : ∀ {j : Nat} {o2 : Oper} {r1 : Fr} {k1 : Blk}, p = .f r1 k1 id → id = s.h.n := fun {j o2 r1 k1} hp => by
                    subst hp
                    rcases hcase with ⟨_, h⟩ | ⟨_, ⟨v, _, h⟩ | ⟨r', k', _, h⟩⟩ <;> cases h
                    rfl
                  have hold : ∀ {j : Nat} {o2 : Oper} {r1 : Fr} {k1 : Blk}, (j, o2, PR.f r1 k1 id) ∈ pd → listed.getD j true = false → id < s.h.n := fun {j o2 r1 k1} hm hj => ((I.val j o2 _ hm hj).blk _ _ _ rfl).2.1
                  rcases List.mem_cons.1 h1 with e1 | e1 <;> rcases List.mem_cons.1 h2 with e2 | e2
                  · cases e1; cases e2; rfl
                  · cases e1
                    have q1 := hid (j := i) (o2 := o) rfl
                    have q2 := hold e2 h4
                    omega
                  · cases e2
                    have q1 := hid (j := i) (o2 := o) rfl
                    have q2 := hold e1 h3
                    omega
                  · exact I.ids j j' o2 o3 r1 r2 k1 k2 id e1 e2 h3 h4
                · refine I.rel.slots t1 t2 hrelh fun d hd => ⟨fun ⟨j, o2, p2, h1, h2, h3⟩ => hd ⟨j, o2, p2, by simp [h1], h2, h3⟩, t4 d fun hdd => hd ⟨i, o, p, by simp, hui, hdd⟩⟩
                · intro j o2 ho2 hj q hq
                  show Nat.testBit (l ||| 2 ^ i) q = true
                  replace hj : Nat.testBit (l ||| 2 ^ i) j = true := hj
                  rw [bit_set] at hj ⊢
                  rcases hj with hj | rfl
                  · exact .inl (I.cl j o2 ho2 hj q hq)
                  · rw [ho'] at ho2; cases ho2
                    exact .inl (hd' q hq)
            · cases hr
          · cases hr
end
end Go.Proofs.YtehbfpcfbpbllaaGreatDoor.VM
