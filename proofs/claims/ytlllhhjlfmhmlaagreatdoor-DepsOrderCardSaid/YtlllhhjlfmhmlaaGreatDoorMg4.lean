/- The machine of plain data: a region whose order is drawn goes as its plan. No program in sight. · The machine of plain data: code and calls are sound. No program in sight. · The machine of plain data: a run from nothing, made once, stands wherever the call stands: its blocks are numbered anew. No program in sight. · Calls whose runs from nothing are known, as hooks of the machine. No program in sight. · The machine of plain data on this program: its environment is sound; its hooks, and the deferred call that does nothing. · Globals that stand. No program in sight. · Hooks in a list; contracts as hooks; memos as hooks; strconv's errors as globals that stand for something. · The machine on given texts, strconv's errors standing for something. · What functions answer at the texts of cells by numbers: the kernel ran them. Written by dpmemo.py. -/
import Derived.Defers
import Derived.LoopN
import Derived.Test.YtlllhhjlfmhmlaaGreatDoorChecked
import Derived.KernelRfl
import Derived.RowKit
import Derived.Recover
import Derived.Laws.Externs
import Derived.Lib.Bytealg
import Derived.Test.YtlllhhjlfmhmlaaGreatDoorMg3
namespace Go.Proofs.YtlllhhjlfmhmlaaGreatDoor.VM
open Go Go.RowKit
set_option linter.unusedSectionVars false
variable [Sy]
def valOf : PR → V
  | .skip => undefV
  | .l v => v
  | .f r _ id => r.at id
section
variable {P : Program} {E : Env} {N n0 : Nat} {ops : Array Oper}
/-- what has come up in the plan, and not yet in the world -/
structure Valid (E : Env) (ops : Array Oper) (n0 : Nat) (σ : Mp) (s : St) (o : Oper) (p : PR) : Prop where
  run : ∃ b, wantedV s.t ops.toList o.guard = some b ∧ ((b = false ∧ p = .skip) ∨ (b = true ∧ ((∃ v, lop E s.t s.h o.op = some v ∧ p = .l v) ∨ ∃ r k id, fop E s.t o.op = some (r, k) ∧ p = .f r k id)))
  blk : ∀ r k id, p = .f r k id → s.h.t.get id = some k ∧ id < s.h.n ∧ σ id = none ∧ n0 ≤ id
  slot : ∀ d, o.dst = some d → d < s.n ∧ (s.t.get d).getD undefV = valOf p
structure Inv (E : Env) (N : Nat) (ops : Array Oper) (n0 : Nat) (σ : Mp) (listed : Array Bool) (l : Nat) (pd : List (Nat × Oper × PR)) (s : St) (a : Act) (w : World) : Prop where
  size : listed.size = ops.size
  sub : ∀ i, i < ops.size → listed.getD i true = true → Nat.testBit l i = true
  cov : ∀ i, i < ops.size → Nat.testBit l i = true → listed.getD i true = true ∨ ∃ o p, (i, o, p) ∈ pd
  pend : ∀ i o p, (i, o, p) ∈ pd → ops[i]? = some o ∧ isE o.op = false ∧ Nat.testBit l i = true
  val : ∀ i o p, (i, o, p) ∈ pd → listed.getD i true = false → Valid E ops n0 σ s o p
  ids : ∀ i j o o' r r' k k' id, (i, o, PR.f r k id) ∈ pd → (j, o', PR.f r' k' id) ∈ pd → listed.getD i true = false → listed.getD j true = false → i = j
  rel : RelS N σ s a w (fun d => ∃ i o p, (i, o, p) ∈ pd ∧ listed.getD i true = false ∧ o.dst = some d)
  cl : Closed ops.toList (fun i => Nat.testBit l i = true)
  cll : Closed ops.toList (fun i => listed.getD i true = true)
  base : n0 ≤ s.h.n
def cnt (listed : Array Bool) : Nat := listed.toList.count false
theorem getD_list {listed : Array Bool} {i : Nat} (d : Bool) (h : i < listed.size) : listed.getD i d = listed[i] := by simp [Array.getD, h]
theorem unl_lt {listed : Array Bool} {i : Nat} (h : listed.getD i true = false) : i < listed.size := by
  rcases Nat.lt_or_ge i listed.size with h1 | h1
  · exact h1
  · simp [Array.getD, Nat.not_lt.2 h1] at h
theorem cnt_set {listed : Array Bool} {i : Nat} (h : listed.getD i true = false) : cnt (listed.setIfInBounds i true) + 1 = cnt listed := by
  have hi := unl_lt h
  unfold cnt
  rw [Array.toList_setIfInBounds, List.count_set (by simpa using hi)]
  have e : listed.toList[i]'(by simpa using hi) = false := by rw [getD_list true hi] at h; simpa using h
  have hpos : 0 < listed.toList.count false := List.count_pos_iff.2 (by rw [← e]; exact List.getElem_mem _)
  rw [e]
  have h1 : (false == false) = true := rfl
  have h2 : (true == false) = false := rfl
  simp only [h1, h2, if_true, Bool.false_eq_true, if_false]
  omega
theorem set_get {listed : Array Bool} {i j : Nat} (hi : i < listed.size) : (listed.setIfInBounds i true).getD j true = true ↔ j = i ∨ listed.getD j true = true := by
  by_cases h : j = i
  · subst h; simp [Array.getD, hi]
  · have := Go.getD_set_ne (listed := listed) (i := i) (j := j) true (Ne.symm h)
    rw [this]
    simp [h]
theorem set_unl {listed : Array Bool} {i j : Nat} (hi : i < listed.size) (h : (listed.setIfInBounds i true).getD j true = false) : j ≠ i ∧ listed.getD j true = false := by
  constructor
  · intro e
    have := (set_get hi (j := j)).2 (.inl e)
    rw [h] at this; cases this
  · cases hc : listed.getD j true with
    | false => rfl
    | true =>
      have := (set_get hi (j := j)).2 (.inr hc)
      rw [h] at this; cases this
theorem bit_set {l i j : Nat} : Nat.testBit (l ||| 2 ^ i) j = true ↔ Nat.testBit l j = true ∨ j = i := by
  rw [Nat.testBit_or, Bool.or_eq_true, Nat.testBit_two_pow, decide_eq_true_iff]
  exact ⟨fun h => h.imp id Eq.symm, fun h => h.imp id Eq.symm⟩
theorem put_facts {s s' : St} {dst : Option Tmp} {v : V} {h' : Hp} (h : s.put dst v h' = some s') : s'.h = h' ∧ s'.n = s.n ∧ s'.d = s.d ∧ (∀ d, dst = some d → d < s.n ∧ (s'.t.get d).getD undefV = v) ∧ ∀ k, dst ≠ some k → s'.t.get k = s.t.get k := by
  rw [St.put_eq] at h
  cases dst with
  | none => cases h; exact ⟨rfl, rfl, rfl, fun d h => (by cases h), fun _ _ => rfl⟩
  | some d =>
    simp only at h
    cases hb : Nat.blt d s.n with
    | false => rw [hb] at h; cases h
    | true =>
      rw [hb] at h
      cases h
      rw [blt_d, decide_eq_true_iff] at hb
      refine ⟨rfl, rfl, rfl, fun q hq => ?_, fun k hk => ?_⟩
      · cases hq
        exact ⟨hb, by rw [T.get_put, if_pos rfl]; rfl⟩
      · rw [T.get_put, if_neg (fun e => hk (by rw [e]))]
theorem take_facts {s s' : St} {dst : Option Tmp} {p : PR} (h : s.take dst p = some s') : s'.n = s.n ∧ s'.d = s.d ∧ (∀ d, dst = some d → d < s.n ∧ (s'.t.get d).getD undefV = valOf p) ∧ (∀ k, dst ≠ some k → s'.t.get k = s.t.get k) ∧ s'.h = (match p with | .f _ b _ => s.h.new b | _ => s.h) := by
  unfold St.take at h
  split at h
  · obtain ⟨h1, h2, h3, h4, h5⟩ := put_facts h; exact ⟨h2, h3, h4, h5, h1⟩
  · obtain ⟨h1, h2, h3, h4, h5⟩ := put_facts h; exact ⟨h2, h3, h4, h5, h1⟩
  · obtain ⟨h1, h2, h3, h4, h5⟩ := put_facts h; exact ⟨h2, h3, h4, h5, h1⟩
theorem nStep_facts {o : Oper} {s : St} {p : PR} (h : nStep E ops.toList o s = some p) : ∃ b, wantedV s.t ops.toList o.guard = some b ∧ ((b = false ∧ p = .skip) ∨ (b = true ∧ ((∃ v, lop E s.t s.h o.op = some v ∧ p = .l v) ∨ ∃ r k, fop E s.t o.op = some (r, k) ∧ p = .f r k s.h.n))) := by
  simp only [nStep, Option.bind_eq_some_iff] at h
  obtain ⟨b, hw, h⟩ := h
  refine ⟨b, hw, ?_⟩
  split at h
  · right
    refine ⟨rfl, ?_⟩
    unfold prOf at h
    split at h
    · rename_i v hv; cases h; exact .inl ⟨v, hv, rfl⟩
    · split at h
      · rename_i r k hf; cases h; exact .inr ⟨r, k, hf, rfl⟩
      · cases h
  · cases h; exact .inl ⟨rfl, rfl⟩
theorem eStep_facts {call : CallF} {o : Oper} {s s' : St} (h : eStep E call ops.toList o s = some s') : s'.n = s.n ∧ ∀ k, o.dst ≠ some k → s'.t.get k = s.t.get k := by
  simp only [eStep, Option.bind_eq_some_iff] at h
  obtain ⟨b, _, h⟩ := h
  split at h
  · unfold onNx at h
    split at h
    · have := put_facts h; exact ⟨this.2.1, this.2.2.2.2⟩
    · have := put_facts h; exact ⟨this.2.1, this.2.2.2.2⟩
    · rw [Option.bind_eq_some_iff] at h
      obtain ⟨p, _, h⟩ := h
      have := put_facts h; exact ⟨this.2.1, this.2.2.2.2⟩
    · have := put_facts h; exact ⟨this.2.1, this.2.2.2.2⟩
    · cases h
    · cases h
  · have := put_facts h; exact ⟨this.2.1, this.2.2.2.2⟩
/-- the state has changed in no slot that is looked at, and what is read is as it was -/
theorem Valid.keep {σ σ' : Mp} {s s' : St} {o : Oper} {p : PR} {i : Nat} (v : Valid E ops n0 σ s o p) (ht : ∀ d ∈ looks ops.toList o, s'.t.get d = s.t.get d) (hd : ∀ d, o.dst = some d → s'.t.get d = s.t.get d) (hn : s'.n = s.n)
    (hs : still E s' (i, o, p) = true ∨ s'.h = s.h) (hhn : s.h.n ≤ s'.h.n) (hσ : ∀ B, B < s.h.n → σ' B = σ B) : Valid E ops n0 σ' s' o p := by
  have e1 : wantedV s'.t ops.toList o.guard = wantedV s.t ops.toList o.guard := wantedV_congr fun d hd => by rw [ht d hd]
  have e2 := ev_congr (t := s'.t) (t' := s.t) (ops := ops.toList) (o := o) fun d hd => by rw [ht d hd]
  refine ⟨?_, fun r k id hp => ?_, fun d hdd => ⟨by rw [hn]; exact (v.slot d hdd).1, by rw [hd d hdd]; exact (v.slot d hdd).2⟩⟩
  · obtain ⟨b, h1, h2⟩ := v.run
    refine ⟨b, by rw [e1]; exact h1, h2.imp id fun ⟨hb, h3⟩ => ⟨hb, h3.imp (fun ⟨u, h4, h5⟩ => ⟨u, ?_, h5⟩) fun ⟨r, k, id, h4, h5⟩ => ⟨r, k, id, by rw [fop_congr e2]; exact h4, h5⟩⟩⟩
    rw [lop_congr e2]
    rcases hs with hs | hs
    · cases hr : readsM o.op with
      | false => rw [lop_heap hr (h' := s.h)]; exact h4
      | true =>
        subst h5
        simp only [still, hr, cond_true] at hs
        split at hs
        · rename_i u' hu
          rw [lop_congr e2] at hu
          rw [hu, sameV_eq hs]
        · cases hs
    · rw [hs]; exact h4
  · obtain ⟨h1, h2, h3, h4⟩ := v.blk r k id hp
    subst hp
    refine ⟨?_, by omega, by rw [hσ id h2]; exact h3, h4⟩
    rcases hs with hs | hs
    · simp only [still] at hs
      split at hs
      · rename_i c hc
        rw [hc, sameB_eq hs]
      · cases hs
    · rw [hs]; exact h1
variable {Q : Exit → Act → World → Prop} {ms : List Nat}
theorem mem_list {o : Oper} {i : Nat} : ops.toList[i]? = some o ↔ ops[i]? = some o := by simp
/-- all have come up, if nothing may come up -/
theorem all_listed (st : Stat ops.toList ms) {listed : Array Bool} (hsz : listed.size = ops.size) (hr : Region.ready .any ops listed = []) : ∀ i, i < ops.size → listed.getD i true = true := by
  intro i
  induction i using Nat.strongRecOn with
  | _ i ih =>
    intro hi
    cases hc : listed.getD i true with
    | true => rfl
    | false =>
      exfalso
      have ho : ops[i]? = some ops[i] := by simp [hi]
      have : i ∈ Region.ready .any ops listed := by
        rw [mem_ready]
        refine ⟨hc, _, ho, fun e he hb => ?_⟩
        have hd : deps ops[i] e.on := ⟨e, by simpa using he, hb, rfl⟩
        have hlt := st.lt i ops[i] (mem_list.2 ho) e.on hd
        have h2 := ih e.on hlt (by omega)
        rw [getD_list false (by omega)]
        rw [getD_list true (by omega)] at h2
        exact h2
      rw [hr] at this
      cases this
theorem ready_facts (st : Stat ops.toList ms) {listed : Array Bool} (hsz : listed.size = ops.size) {i : Nat} (h : i ∈ Region.ready .any ops listed) : listed.getD i true = false ∧ ∃ o, ops[i]? = some o ∧ ∀ j, deps o j → listed.getD j true = true := by
  obtain ⟨h1, o, h2, h3⟩ := mem_ready.1 h
  refine ⟨h1, o, h2, fun j hj => ?_⟩
  have hlt := st.lt i o (mem_list.2 h2) j hj
  have hi := unl_lt h1
  obtain ⟨e, he, hb, rfl⟩ := hj
  have := h3 e (by simpa using he) hb
  rw [getD_list true (by omega)]
  rw [getD_list false (by omega)] at this
  exact this
theorem RelS.weaken {σ : Mp} {s : St} {a : Act} {w : World} {S T : Nat → Prop} (R : RelS N σ s a w S) (h : ∀ d, S d → T d) : RelS N σ s a w T := ⟨⟨R.t.size, fun i hi => R.t.at_ i fun hs => hi (h i hs)⟩, R.h, R.d⟩
/-- the state of the machine's slots has changed where nothing is told -/
theorem RelS.slots {σ : Mp} {s s' : St} {a : Act} {w : World} {S T : Nat → Prop} (R : RelS N σ s a w S) (hn : s'.n = s.n) (hd : s'.d = s.d) (hh : Rel N σ s'.h w) (ht : ∀ k, ¬ T k → ¬ S k ∧ s'.t.get k = s.t.get k) : RelS N σ s' a w T :=
  ⟨⟨by rw [hn]; exact R.t.size, fun i hi => by rw [(ht i hi).2]; exact R.t.at_ i (ht i hi).1⟩, hh, by rw [hd]; exact R.d⟩
theorem plan_sound (hE : EnvOK P E) {call : CallF} (hcall : CallOK P call) (st : Stat ops.toList ms) {s' : St} : ∀ (k m : Nat) (rem : List PStep) (l : Nat) (pd : List (Nat × Oper × PR)) (s : St) (σ : Mp) (listed : Array Bool) (a : Act) (w : World), m + rem.length ≤ k → cnt listed ≤ m →
    PlanFrom ops.toList ms l rem → Inv E N ops n0 σ listed l pd s a w → planRun E call ops.toList rem pd s = some s' →
    (∀ σ' a' w', Mp.Ext n0 σ σ' → n0 ≤ s'.h.n → RelS N σ' s' a' w' (fun _ => False) → Below N w w' → Q .normal a' w') → wpAny P .any ops Q m listed a w := by
  intro k
  induction k with
  | zero =>
    intro m rem l pd s σ listed a w hk hc hp I hr hQ
    have hm : m = 0 := by omega
    subst hm
    have hall : ∀ i, i < ops.size → listed.getD i true = true := fun i hi => by
      cases hcc : listed.getD i true with
      | true => rfl
      | false => have := cnt_set hcc; omega
    have hrem : rem = [] := List.length_eq_zero_iff.1 (by omega)
    subst hrem
    refine ⟨?_, ?_⟩
    · cases hrd : Region.ready .any ops listed with
      | nil => rfl
      | cons i r =>
        have hi : i ∈ Region.ready .any ops listed := by rw [hrd]; simp
        have h1 := (ready_facts st I.size hi).1
        have h2 := hall i (by have := unl_lt h1; rw [I.size] at this; exact this)
        rw [h1] at h2; cases h2
    · simp only [planRun, Option.some.injEq] at hr
      subst hr
      exact hQ σ a w (Mp.Ext.refl _ _) I.base (I.rel.weaken fun d ⟨i, o, p, h1, h2, _⟩ => by
        have h3 := hall i (by have := unl_lt h2; rw [I.size] at this; exact this)
        rw [h2] at h3; cases h3) (Below.refl _ _)
  | succ k ih =>
    intro m rem l pd s σ listed a w hk hc hp I hr hQ
    -- the end
    have hend : (∀ i, i < ops.size → listed.getD i true = true) → Q .normal a w := fun hall => by
      cases hp with
      | nil _ h0 =>
        simp only [planRun, Option.some.injEq] at hr
        subst hr
        exact hQ σ a w (Mp.Ext.refl _ _) I.base (I.rel.weaken fun d ⟨i, o, p, h1, h2, _⟩ => by
          have h3 := hall i (by have := unl_lt h2; rw [I.size] at this; exact this)
          rw [h2] at h3; cases h3) (Below.refl _ _)
      | n _ i o r ho hl _ _ _ =>
        have hi : i < ops.size := (Array.getElem?_eq_some_iff.1 (mem_list.1 ho)).1
        have := I.sub i hi (hall i hi)
        rw [hl] at this; cases this
      | e _ i o r ho hl _ _ _ _ =>
        have hi : i < ops.size := (Array.getElem?_eq_some_iff.1 (mem_list.1 ho)).1
        have := I.sub i hi (hall i hi)
        rw [hl] at this; cases this
    -- what comes up in the world
    have hgo : (∀ i o r, rem = .n i o :: r → False) → wpAny P .any ops Q m listed a w := fun hnn => by
      cases m with
      | zero =>
        have hall : ∀ i, i < ops.size → listed.getD i true = true := fun i hi => by
          cases hcc : listed.getD i true with
          | true => rfl
          | false => have := cnt_set hcc; omega
        refine ⟨?_, hend hall⟩
        cases hrd : Region.ready .any ops listed with
        | nil => rfl
        | cons i r =>
          have hi : i ∈ Region.ready .any ops listed := by rw [hrd]; simp
          have h1 := (ready_facts st I.size hi).1
          have h2 := hall i (by have := unl_lt h1; rw [I.size] at this; exact this)
          rw [h1] at h2; cases h2
      | succ m =>
        refine ⟨fun h => hend (all_listed st I.size h), fun i hi => ?_⟩
        obtain ⟨hu, o, ho, hdeps⟩ := ready_facts st I.size hi
        have hil := unl_lt hu
        have hio : i < ops.size := by rw [← I.size]; exact hil
        have hreach : ∀ j, Reach ops.toList i j → listed.getD j true = true := fun j hj => hj.inD I.cll fun o' ho' q hq => by
          rw [mem_list, ho] at ho'; cases ho'; exact hdeps q hq
        have hcnt : cnt (listed.setIfInBounds i true) ≤ m := by have := cnt_set hu; omega
        -- no slot that is looked at lacks
        have hlook : ∀ d ∈ looks ops.toList o, ¬ ∃ j p q, (j, p, q) ∈ pd ∧ listed.getD j true = false ∧ p.dst = some d := fun d hd ⟨j, p, q, hm, hj, hpd⟩ => by
          obtain ⟨hp1, hp2, _⟩ := I.pend j p q hm
          by_cases hij : i = j
          · subst hij
            rw [ho] at hp1; cases hp1
            exact st.own i o d (mem_list.2 ho) hpd hp2 hd
          · rcases st.look i j o p d hij (mem_list.2 ho) (mem_list.2 hp1) hpd hd with h1 | ⟨h1, _⟩
            · have := hreach j (st.reach i j h1)
              rw [hj] at this; cases this
            · rw [hp2] at h1; cases h1
        have hsub' : ∀ l', (∀ j, Nat.testBit l j = true → Nat.testBit l' j = true) → Nat.testBit l' i = true → ∀ j, j < ops.size → (listed.setIfInBounds i true).getD j true = true → Nat.testBit l' j = true := fun l' h1 h2 j hj h3 => by
          rcases (set_get hil).1 h3 with rfl | h4
          · exact h2
          · exact h1 j (I.sub j hj h4)
        have hcll' : Closed ops.toList (fun j => (listed.setIfInBounds i true).getD j true = true) := fun j o' ho' hj q hq => by
          show (listed.setIfInBounds i true).getD q true = true
          rw [set_get hil]
          right
          rcases (set_get hil).1 hj with rfl | h4
          · rw [mem_list, ho] at ho'; cases ho'; exact hdeps q hq
          · exact I.cll j o' ho' h4 q hq
        cases hbit : Nat.testBit l i with
        | true =>
          -- one that the plan has had
          rcases I.cov i hio hbit with h1 | ⟨o', p, hm⟩
          · rw [hu] at h1; cases h1
          · obtain ⟨hp1, hp2, _⟩ := I.pend i o' p hm
            rw [ho] at hp1; cases hp1
            have V := I.val i o p hm hu
            obtain ⟨b, hw, hcase⟩ := V.run
            have hrel : ∀ (σ' : Mp) (x : Value) (w' : World), Mp.le σ σ' → Rep σ' (valOf p) x → Rel N σ' s.h w' → RelS N σ' s (a.put o.dst x) w' (fun d => ∃ j o p, (j, o, p) ∈ pd ∧ (listed.setIfInBounds i true).getD j true = false ∧ o.dst = some d) := fun σ' x w' hle hx hh => by
              refine ⟨⟨?_, fun d hd => ?_⟩, hh, ?_⟩
              · rw [← I.rel.t.size]; cases o.dst <;> simp [Act.put]
              · cases hdst : o.dst with
                | none =>
                  refine (I.rel.t.at_ d fun ⟨j, o2, p2, h1, h2, h3⟩ => hd ⟨j, o2, p2, h1, ?_, h3⟩).mono hle
                  cases hc2 : (listed.setIfInBounds i true).getD j true with
                  | false => rfl
                  | true =>
                    rcases (set_get hil).1 hc2 with rfl | h4
                    · have := (I.pend _ _ _ h1).1; rw [ho] at this; cases this; rw [hdst] at h3; cases h3
                    · rw [h2] at h4; cases h4
                | some e =>
                  obtain ⟨g1, g2⟩ := V.slot e hdst
                  by_cases hde : d = e
                  · subst hde
                    rw [g2]
                    have : d < a.tmps.size := by rw [I.rel.t.size]; exact g1
                    simp [Act.put, Array.getD, this, hx]
                  · have e2 : (a.put (some e) x).tmps.getD d undef = a.tmps.getD d undef := getD_set_ne hde
                    rw [e2]
                    refine (I.rel.t.at_ d fun ⟨j, o2, p2, h1, h2, h3⟩ => hd ⟨j, o2, p2, h1, ?_, h3⟩).mono hle
                    cases hc2 : (listed.setIfInBounds i true).getD j true with
                    | false => rfl
                    | true =>
                      rcases (set_get hil).1 hc2 with rfl | h4
                      · have := (I.pend _ _ _ h1).1; rw [ho] at this; cases this; rw [hdst] at h3; cases h3; exact absurd rfl hde
                      · rw [h2] at h4; cases h4
              · have : (a.put o.dst x).defers = a.defers := by cases o.dst <;> rfl
                rw [this]
                exact I.rel.d.mono hle
            have hinv : ∀ (σ' : Mp) (x : Value) (w' : World), (∀ B, B < s.h.n → (∀ r k, p ≠ .f r k B) → σ' B = σ B) → Mp.le σ σ' → Rep σ' (valOf p) x → Rel N σ' s.h w' → Inv E N ops n0 σ' (listed.setIfInBounds i true) l pd s (a.put o.dst x) w' := fun σ' x w' hsame hle hx hh => by
              refine ⟨by simp [I.size], hsub' l (fun _ h => h) hbit, fun j hj hb => ?_, I.pend, fun j o2 p2 hm2 hj => ?_, fun j j' o2 o3 r r' k k' id h1 h2 h3 h4 => I.ids j j' o2 o3 r r' k k' id h1 h2 (set_unl hil h3).2 (set_unl hil h4).2, hrel σ' x w' hle hx hh, I.cl, hcll', I.base⟩
              · rcases I.cov j hj hb with h1 | h1
                · exact .inl ((set_get hil).2 (.inr h1))
                · exact .inr h1
              · obtain ⟨hne, hj'⟩ := set_unl hil hj
                have V2 := I.val j o2 p2 hm2 hj'
                refine ⟨V2.run, fun r k id hp2 => ?_, V2.slot⟩
                obtain ⟨g1, g2, g3, g4⟩ := V2.blk r k id hp2
                refine ⟨g1, g2, ?_, g4⟩
                rw [hsame id g2 fun r' k' hp3 => hne (I.ids j i o2 o r r' k k' id (hp2 ▸ hm2) (hp3 ▸ hm) hj' hu)]
                exact g3
            refine n_sound (K := wpAny P .any ops Q m (listed.setIfInBounds i true)) hE I.rel ho hlook hw hcase ?_
            cases p with
            | skip =>
              exact ih m rem l pd s σ _ _ w (by omega) hcnt hp (hinv σ undef w (fun _ _ _ => rfl) (Mp.le.refl _) (Rep.undef _) I.rel.h) hr hQ
            | l v =>
              intro x hx
              exact ih m rem l pd s σ _ _ w (by omega) hcnt hp (hinv σ x w (fun _ _ _ => rfl) (Mp.le.refl _) hx I.rel.h) hr hQ
            | f r k id =>
              intro x w' hmade
              obtain ⟨b', n', q1, q2, q3, q4, q5⟩ := hmade
              obtain ⟨g1, g2, g3, g4⟩ := V.blk r k id rfl
              have hle := Mp.le_put (p := (b', n')) g3
              have hR := I.rel.h.come g2 g1 g3 q5 q1 q2 q4
              refine ih m rem l pd s (σ.put id (b', n')) _ _ w' (by omega) hcnt hp (hinv _ x w' (fun B _ hne => ?_) hle (q3 _ _ (Mp.put_same _ _ _)) hR) hr fun σ' a' w2 h1 h2 h3 h4 => hQ σ' a' w2 ((Mp.Ext.put g3 g4).trans h1 (Nat.le_refl _)) h2 h3 ((q5.mono I.rel.h.base).trans h4)
              unfold Mp.put
              rw [if_neg fun e => hne r k (by rw [e])]
        | false =>
          -- the next one that does something
          cases hp with
          | nil _ h0 => have := h0 i (by simpa using hio); rw [hbit] at this; cases this
          | n _ i' o' r' _ _ _ _ _ => exact (hnn _ _ _ rfl).elim
          | e _ i' o' r' ho' hl' hE' hd' hu' hp' =>
            have hii : i = i' := hu' i o (mem_list.2 ho) hbit fun j hj => by
              have hlt := st.lt i o (mem_list.2 ho) j hj
              exact I.sub j (by omega) (hdeps j hj)
            subst hii
            rw [mem_list, ho] at ho'; cases ho'
            simp only [planRun] at hr
            split at hr
            · rename_i s1 hs1
              cases hall : (pd.filter fun p => !Nat.testBit (ms.getD i 0) p.1).all (still E s1) with
              | false => rw [hall] at hr; cases hr
              | true =>
                rw [hall] at hr
                simp only [cond_true] at hr
                refine e_sound (K := wpAny P .any ops Q m (listed.setIfInBounds i true)) hE hcall I.rel hs1 ho hlook fun σ' a' w' hx hnn' hR hbel => ?_
                have hf : ∀ j o2 p2, (j, o2, p2) ∈ (pd.filter fun p => !Nat.testBit (ms.getD i 0) p.1) ↔ (j, o2, p2) ∈ pd ∧ Nat.testBit (ms.getD i 0) j = false := fun j o2 p2 => by
                  rw [List.mem_filter]; simp
                have hst := eStep_facts hs1
                have hkeep : ∀ j o2 p2, (j, o2, p2) ∈ pd → Nat.testBit (ms.getD i 0) j = false → listed.getD j true = false → Valid E ops n0 σ' s1 o2 p2 := fun j o2 p2 hm hmj hj => by
                  obtain ⟨g1, g2, g3⟩ := I.pend j o2 p2 hm
                  have hne : j ≠ i := fun e => by subst e; rw [hbit] at g3; cases g3
                  refine (I.val j o2 p2 hm hj).keep (i := j) (fun d hd => ?_) (fun d hd => ?_) hst.1 (.inl (List.all_eq_true.1 hall _ ((hf j o2 p2).2 ⟨hm, hmj⟩))) hnn' hx.same
                  · refine hst.2 d fun hdd => ?_
                    rcases st.look j i o2 o d hne (mem_list.2 g1) (mem_list.2 ho) hdd hd with h1 | ⟨_, h1⟩
                    · have := (st.reach j i h1).inD I.cl fun o3 ho3 q hq => I.cl j o3 ho3 g3 q hq
                      rw [hbit] at this; cases this
                    · rw [hmj] at h1; cases h1
                  · refine hst.2 d fun hdd => ?_
                    have := (st.slot j i o2 o d hne (mem_list.2 g1) (mem_list.2 ho) hdd hd).1
                    rw [g2] at this; cases this
                refine ih m r' (l ||| 2 ^ i) _ s1 σ' _ a' w' (by simp at hk; omega) hcnt hp' ⟨by simp [I.size], hsub' _ (fun j h => bit_set.2 (.inl h)) (bit_set.2 (.inr rfl)), fun j hj hb => ?_, fun j o2 p2 hm => ?_, fun j o2 p2 hm hj => ?_, fun j j' o2 o3 r1 r2 k1 k2 id h1 h2 h3 h4 => ?_, ?_, ?_, hcll', Nat.le_trans I.base hnn'⟩ hr fun σ2 a2 w2 h1 h2 h3 h4 => hQ σ2 a2 w2 ?_ h2 h3 (hbel.trans h4)
                · rcases bit_set.1 hb with h1 | rfl
                  · rcases I.cov j hj h1 with h2 | ⟨o2, p2, h2⟩
                    · exact .inl ((set_get hil).2 (.inr h2))
                    · cases hmj : Nat.testBit (ms.getD i 0) j with
                      | true => exact .inl ((set_get hil).2 (.inr (hreach j (st.reach i j hmj))))
                      | false => exact .inr ⟨o2, p2, (hf j o2 p2).2 ⟨h2, hmj⟩⟩
                  · exact .inl ((set_get hil).2 (.inl rfl))
                · obtain ⟨g1, g2, g3⟩ := I.pend j o2 p2 ((hf j o2 p2).1 hm).1
                  exact ⟨g1, g2, bit_set.2 (.inl g3)⟩
                · obtain ⟨h1, h2⟩ := (hf j o2 p2).1 hm
                  exact hkeep j o2 p2 h1 h2 (set_unl hil hj).2
                · exact I.ids j j' o2 o3 r1 r2 k1 k2 id ((hf _ _ _).1 h1).1 ((hf _ _ _).1 h2).1 (set_unl hil h3).2 (set_unl hil h4).2
                · refine hR.weaken fun d ⟨j, o2, p2, h1, h2, h3⟩ => ?_
                  obtain ⟨g1, g2, g3⟩ := I.pend j o2 p2 h1
                  have hne : j ≠ i := fun e => by subst e; rw [hbit] at g3; cases g3
                  refine ⟨j, o2, p2, (hf j o2 p2).2 ⟨h1, ?_⟩, ?_, h3⟩
                  · cases hmj : Nat.testBit (ms.getD i 0) j with
                    | false => rfl
                    | true => have := hreach j (st.reach i j hmj); rw [h2] at this; cases this
                  · cases hc2 : (listed.setIfInBounds i true).getD j true with
                    | false => rfl
                    | true =>
                      rcases (set_get hil).1 hc2 with h4 | h4
                      · exact absurd h4 hne
                      · rw [h2] at h4; cases h4
                · intro j o2 ho2 hj q hq
                  show Nat.testBit (l ||| 2 ^ i) q = true
                  replace hj : Nat.testBit (l ||| 2 ^ i) j = true := hj
                  rw [bit_set] at hj ⊢
                  rcases hj with hj | rfl
                  · exact .inl (I.cl j o2 ho2 hj q hq)
                  · rw [mem_list, ho] at ho2; cases ho2
                    exact .inl (hd' q hq)
                · exact ⟨hx.le.trans h1.le, fun B hB => (h1.same B hB).trans (hx.same B (by have := I.base; omega))⟩
            · cases hr
    -- the plan goes on alone
    cases rem with
    | nil => exact hgo (fun _ _ _ h => by cases h)
    | cons ps r =>
      cases ps with
      | e i o m' => exact hgo (fun _ _ _ h => by cases h)
      | n i o =>
        cases hp with
        | n _ _ _ _ ho' hl hE' hd' hp' =>
          have ho := mem_list.1 ho'
          have hio : i < ops.size := (Array.getElem?_eq_some_iff.1 ho).1
          have hui : listed.getD i true = false := by
            cases hc2 : listed.getD i true with
            | false => rfl
            | true => have := I.sub i hio hc2; rw [hl] at this; cases this
          simp only [planRun] at hr
          split at hr
          · rename_i p hn
            split at hr
            · rename_i s1 hs1
              cases hchk : stillAll E s1 pd p with
              | false => rw [hchk] at hr; cases hr
              | true =>
                rw [hchk] at hr
                simp only [cond_true] at hr
                obtain ⟨t1, t2, t3, t4, t5⟩ := take_facts hs1
                obtain ⟨b, hw, hcase⟩ := nStep_facts hn
                have hhn : s.h.n ≤ s1.h.n := by
                  rw [t5]
                  cases p with
                  | f r k id => exact Nat.le_succ _
                  | l v => exact Nat.le_refl _
                  | skip => exact Nat.le_refl _
                have hrelh : Rel N σ s1.h w := by
                  rw [t5]
                  cases p with
                  | f r k id => exact I.rel.h.more _
                  | l v => exact I.rel.h
                  | skip => exact I.rel.h
                have hself : Valid E ops n0 σ s1 o p := by
                  have e0 : ∀ d ∈ looks ops.toList o, s1.t.get d = s.t.get d := fun d hd => t4 d fun hdd => st.own i o d ho' hdd hE' hd
                  have e1 : wantedV s1.t ops.toList o.guard = wantedV s.t ops.toList o.guard := wantedV_congr fun d hd => by rw [e0 d hd]
                  have e2 := ev_congr (t := s1.t) (t' := s.t) (ops := ops.toList) (o := o) fun d hd => by rw [e0 d hd]
                  have c1 : (b = false ∧ p = .skip) ∨ (b = true ∧ ((∃ v, lop E s1.t s1.h o.op = some v ∧ p = .l v) ∨ ∃ r k id, fop E s1.t o.op = some (r, k) ∧ p = .f r k id)) := by
                    rcases hcase with h | ⟨hb, ⟨u, h4, h5⟩ | ⟨r', k', h4, h5⟩⟩
                    · exact .inl h
                    · subst h5
                      exact .inr ⟨hb, .inl ⟨u, by rw [lop_congr e2, t5]; exact h4, rfl⟩⟩
                    · exact .inr ⟨hb, .inr ⟨r', k', s.h.n, by rw [fop_congr e2]; exact h4, h5⟩⟩
                  have c2 : ∀ r k id, p = .f r k id → s1.h.t.get id = some k ∧ id < s1.h.n ∧ σ id = none ∧ n0 ≤ id := fun r' k' id hp => by
                    subst hp
                    rcases hcase with ⟨_, h⟩ | ⟨_, ⟨v, _, h⟩ | ⟨r'', k'', _, h⟩⟩
                    · cases h
                    · cases h
                    · cases h
                      rw [t5]
                      exact ⟨by rw [Hp.get_new, if_pos rfl], Nat.lt_succ_self _, I.rel.h.free, I.base⟩
                  exact ⟨⟨b, by rw [e1]; exact hw, c1⟩, c2, fun d hd => by rw [t1]; exact t3 d hd⟩
                have hkeep : ∀ j o2 p2, (j, o2, p2) ∈ pd → listed.getD j true = false → Valid E ops n0 σ s1 o2 p2 := fun j o2 p2 hm hj => by
                  obtain ⟨g1, g2, g3⟩ := I.pend j o2 p2 hm
                  have hne : j ≠ i := fun e => by subst e; rw [hl] at g3; cases g3
                  refine (I.val j o2 p2 hm hj).keep (i := j) (fun d hd => t4 d fun hdd => ?_) (fun d hd => t4 d fun hdd => ?_) t1 ?_ hhn (fun _ _ => rfl)
                  · rcases st.look j i o2 o d hne (mem_list.2 g1) ho' hdd hd with h1 | ⟨h1, _⟩
                    · have := (st.reach j i h1).inD I.cl fun o3 ho3 q hq => I.cl j o3 ho3 g3 q hq
                      rw [hl] at this; cases this
                    · rw [hE'] at h1; cases h1
                  · have := (st.slot j i o2 o d hne (mem_list.2 g1) ho' hdd hd).1
                    rw [g2] at this; cases this
                  · cases p with
                    | f r k id => exact .inl (List.all_eq_true.1 hchk _ hm)
                    | l v => exact .inr t5
                    | skip => exact .inr t5
                refine ih m r (l ||| 2 ^ i) ((i, o, p) :: pd) s1 σ listed a w (by simp at hk; omega) hc hp' ⟨I.size, fun j hj h => bit_set.2 (.inl (I.sub j hj h)), fun j hj hb => ?_, fun j o2 p2 hm => ?_, fun j o2 p2 hm hj => ?_, fun j j' o2 o3 r1 r2 k1 k2 id h1 h2 h3 h4 => ?_, ?_, ?_, I.cll, Nat.le_trans I.base hhn⟩ hr hQ
                · rcases bit_set.1 hb with h1 | rfl
                  · exact (I.cov j hj h1).imp id fun ⟨o2, p2, h2⟩ => ⟨o2, p2, by simp [h2]⟩
                  · exact .inr ⟨o, p, by simp⟩
                · rcases List.mem_cons.1 hm with h1 | h1
                  · cases h1; exact ⟨ho, hE', bit_set.2 (.inr rfl)⟩
                  · obtain ⟨g1, g2, g3⟩ := I.pend j o2 p2 h1
                    exact ⟨g1, g2, bit_set.2 (.inl g3)⟩
                · rcases List.mem_cons.1 hm with h1 | h1
                  · cases h1; exact hself
                  · exact hkeep j o2 p2 h1 hj
                · have hid : ∀ {j : Nat} {o2 : Oper} {r1 : Fr} {k1 : Blk}, p = .f r1 k1 id → id = s.h.n := fun {j o2 r1 k1} hp => by
                    subst hp
                    rcases hcase with ⟨_, h⟩ | ⟨_, ⟨v, _, h⟩ | ⟨r', k', _, h⟩⟩ <;> cases h
                    rfl
                  have hold : ∀ {j : Nat} {o2 : Oper} {r1 : Fr} {k1 : Blk}, (j, o2, PR.f r1 k1 id) ∈ pd → listed.getD j true = false → id < s.h.n := fun {j o2 r1 k1} hm hj => ((I.val j o2 _ hm hj).blk _ _ _ rfl).2.1
                  rcases List.mem_cons.1 h1 with e1 | e1 <;> rcases List.mem_cons.1 h2 with e2 | e2
                  · cases e1; cases e2; rfl
                  · cases e1
                    have q1 := hid (j := i) (o2 := o) rfl
                    have q2 := hold e2 h4
                    omega
                  · cases e2
                    have q1 := hid (j := i) (o2 := o) rfl
                    have q2 := hold e1 h3
                    omega
                  · exact I.ids j j' o2 o3 r1 r2 k1 k2 id e1 e2 h3 h4
                · refine I.rel.slots t1 t2 hrelh fun d hd => ⟨fun ⟨j, o2, p2, h1, h2, h3⟩ => hd ⟨j, o2, p2, by simp [h1], h2, h3⟩, t4 d fun hdd => hd ⟨i, o, p, by simp, hui, hdd⟩⟩
                · intro j o2 ho2 hj q hq
                  show Nat.testBit (l ||| 2 ^ i) q = true
                  replace hj : Nat.testBit (l ||| 2 ^ i) j = true := hj
                  rw [bit_set] at hj ⊢
                  rcases hj with hj | rfl
                  · exact .inl (I.cl j o2 ho2 hj q hq)
                  · rw [ho'] at ho2; cases ho2
                    exact .inl (hd' q hq)
            · cases hr
          · cases hr
end
end Go.Proofs.YtlllhhjlfmhmlaaGreatDoor.VM
namespace Go.Proofs.YtlllhhjlfmhmlaaGreatDoor.VM
open Go Go.RowKit
set_option linter.unusedSectionVars false
variable [Sy]
section
variable {P : Program} {E : Env} {N : Nat} {ops : Array Oper} {Q : Exit → Act → World → Prop}
def none_ : Nat → Prop := fun _ => False
theorem step_sound (hE : EnvOK P E) {call : CallF} (hcall : CallOK P call) {s s' : St} {σ : Mp} {a : Act} {w : World} {o : Oper} {i : Nat} {K : Act → World → Prop} (hs : opStep E call ops.toList o s = some s') (hi : ops[i]? = some o) (R : RelS N σ s a w none_)
    (hk : ∀ σ' a' w', Mp.Ext s.h.n σ σ' → s.h.n ≤ s'.h.n → RelS N σ' s' a' w' none_ → Below N w w' → K a' w') : wpOp P ops Q i K a w := by
  unfold opStep at hs
  split at hs
  · exact e_sound hE hcall R hs hi (fun _ _ h => h) hk
  · rw [Option.bind_eq_some_iff] at hs
    obtain ⟨p, hn, hs⟩ := hs
    obtain ⟨b, hw, hcase⟩ := nStep_facts hn
    refine n_sound hE R hi (fun _ _ h => h) hw (hcase.imp id fun ⟨hb, h⟩ => ⟨hb, h.imp id fun ⟨r, k, h1, h2⟩ => ⟨r, k, s.h.n, h1, h2⟩⟩) ?_
    cases p with
    | skip =>
      have h1 := (put_facts hs).1
      exact hk σ _ w (Mp.Ext.refl _ _) (by rw [h1]; exact Nat.le_refl _) (put_sound R hs (Mp.le.refl _) (Rep.undef _) R.h) (Below.refl _ _)
    | l v =>
      intro x hx
      have h1 := (put_facts hs).1
      exact hk σ _ w (Mp.Ext.refl _ _) (by rw [h1]; exact Nat.le_refl _) (put_sound R hs (Mp.le.refl _) hx R.h) (Below.refl _ _)
    | f r k id =>
      intro x w' hm
      have h1 := (put_facts hs).1
      have hid : id = s.h.n := by
        rcases hcase with ⟨_, h⟩ | ⟨_, ⟨v, _, h⟩ | ⟨r', k', _, h⟩⟩ <;> cases h
        rfl
      subst hid
      obtain ⟨σ', g1, g2, g3, g4, g5⟩ := R.h.made hm
      exact hk σ' _ w' g1 (by rw [h1]; exact g2) (put_sound R hs g1.le g3 g4) g5
theorem ops_sound (hE : EnvOK P E) {call : CallF} (hcall : CallOK P call) {s' : St} : ∀ (rest : List Oper) (k : Nat) (s : St) (σ : Mp) (a : Act) (w : World), ops.toList.drop k = rest → opsRun E call ops.toList rest s = some s' → RelS N σ s a w none_ →
    (∀ σ' a' w', Mp.Ext s.h.n σ σ' → s.h.n ≤ s'.h.n → RelS N σ' s' a' w' none_ → Below N w w' → Q .normal a' w') → wpOps P ops Q (List.range' k rest.length) a w
  | [], k, s, σ, a, w, _, hr, R, hQ => by
    simp only [opsRun, Option.some.injEq] at hr
    subst hr
    exact hQ σ a w (Mp.Ext.refl _ _) (Nat.le_refl _) R (Below.refl _ _)
  | o :: r, k, s, σ, a, w, hd, hr, R, hQ => by
    rw [opsRun] at hr
    split at hr
    · rename_i s1 hs1
      have ho : ops[k]? = some o := by
        have := congrArg List.head? hd
        simpa using this
      have hd2 : ops.toList.drop (k + 1) = r := by have := congrArg List.tail hd; simpa using this
      rw [List.length_cons, List.range'_succ, wpOps_cons]
      refine step_sound hE hcall hs1 ho R fun σ1 a1 w1 h1 h2 h3 h4 => ?_
      exact ops_sound hE hcall r (k + 1) s1 σ1 a1 w1 hd2 hr h3 fun σ2 a2 w2 g1 g2 g3 g4 => hQ σ2 a2 w2 (h1.trans g1 h2) (Nat.le_trans h2 g2) g3 (h4.trans g4)
    · cases hr
theorem region_sound (hE : EnvOK P E) {call : CallF} (hcall : CallOK P call) {s s' : St} {σ : Mp} {a : Act} {w : World} {id : Nat} {draw : Bool} (hr : regRun E call ops.toList draw s = some s') (R : RelS N σ s a w none_)
    (hQ : ∀ σ' a' w', Mp.Ext s.h.n σ σ' → s.h.n ≤ s'.h.n → RelS N σ' s' a' w' none_ → Below N w w' → Q .normal a' w') : (Code.region id ops draw).wp P Q a w := by
  cases draw with
  | false =>
    refine wp_region ?_
    have := ops_sound hE hcall (Q := Q) ops.toList 0 s σ a w (by simp) hr R hQ
    rw [List.range_eq_range']
    simpa using this
  | true =>
    simp only [regRun] at hr
    split at hr
    · rename_i p hp
      obtain ⟨ms, st, hpl⟩ := planOf_spec hp
      refine wp_region_any hE.mixed ?_
      have hgd : ∀ i, i < ops.size → (Array.replicate ops.size false).getD i true = false := fun i hi => by simp [Array.getD, hi]
      have hgt : ∀ i, (Array.replicate ops.size false).getD i true = true → ops.size ≤ i := fun i h => by
        rcases Nat.lt_or_ge i ops.size with h1 | h1
        · rw [hgd i h1] at h; cases h
        · exact h1
      have hbel : Below w.heap.size w { w with drawn := w.drawn + 1 } := ⟨rfl, rfl, rfl, Nat.le_refl _, fun _ _ => rfl⟩
      refine plan_sound (n0 := s.h.n) hE hcall st (ops.size + p.length) ops.size p 0 [] s σ _ a _ (Nat.le_refl _) ?_ hpl ⟨by simp, fun i hi h => ?_, fun i _ h => by simp at h, fun i o p h => by simp at h, fun i o p h => by simp at h, fun i j o o' r r' k k' id h => by simp at h, ?_, fun i o _ h => by simp at h, fun i o ho h => ?_, Nat.le_refl _⟩ hr fun σ' a' w' h1 h2 h3 h4 => hQ σ' a' w' h1 h2 h3 ((hbel.mono R.h.base).trans h4)
      · unfold cnt; simp
      · have := hgt i h; omega
      · exact ⟨⟨R.t.size, fun i _ => R.t.at_ i (fun h => h)⟩, R.h.world hbel, R.d⟩
      · have := hgt i h
        have hi := (Array.getElem?_eq_some_iff.1 (mem_list.1 ho)).1
        omega
    · cases hr
def exOf : Ex → Exit
  | .normal => .normal
  | .exit id => .exit id
  | .ret => .ret
def ExecOK (P : Program) (ex : Code → St → Option (Ex × St)) : Prop :=
  ∀ c s e s', ex c s = some (e, s') → ∀ (N : Nat) (σ : Mp) (a : Act) (w : World) (Q : Exit → Act → World → Prop), RelS N σ s a w none_ →
    (∀ σ' a' w', Mp.Ext s.h.n σ σ' → s.h.n ≤ s'.h.n → RelS N σ' s' a' w' none_ → Below N w w' → Q (exOf e) a' w') → c.wp P Q a w
def LoopOK (P : Program) (ex : Code → St → Option (Ex × St)) (n : Nat) : Prop :=
  ∀ c s e s', ex (.loop c) s = some (e, s') → ∀ (N : Nat) (σ : Mp) (a : Act) (w : World) (Q : Exit → Act → World → Prop), RelS N σ s a w none_ →
    (∀ σ' a' w', Mp.Ext s.h.n σ σ' → s.h.n ≤ s'.h.n → RelS N σ' s' a' w' none_ → Below N w w' → Q (exOf e) a' w') → Code.rounds P c Q n a w
theorem loopF_ok {ih : Code → St → Option (Ex × St)} {n : Nat} (hi : ExecOK P ih) (hl : LoopOK P ih n) (hex : exec E n = ih) : LoopOK P (exec E (n + 1)) (n + 1) := by
  intro x s e s' h N σ a w Q R hQ
  rw [exec.eq_def] at h
  simp only [hex] at h
  rw [rounds_succ]
  unfold ndNormal at h
  split at h
  · rename_i s1 h1
    refine hi x s .normal s1 h1 N σ a w _ R fun σ1 a1 w1 g1 g2 g3 g4 => ?_
    exact hl x s1 e s' h N σ1 a1 w1 Q g3 fun σ2 a2 w2 k1 k2 k3 k4 => hQ σ2 a2 w2 (g1.trans k1 g2) (Nat.le_trans g2 k2) k3 (g4.trans k4)
  · rename_i hn
    refine hi x s e s' h N σ a w _ R fun σ1 a1 w1 g1 g2 g3 g4 => ?_
    have := hQ σ1 a1 w1 g1 g2 g3 g4
    cases e with
    | normal => exact (hn s' h).elim
    | exit id => exact this
    | ret => exact this
theorem execF_ok (hE : EnvOK P E) {ih : Code → St → Option (Ex × St)} (hi : ExecOK P ih) (hc : CallOK P (callOf E ih)) (n : Nat) (hl : LoopOK P (exec E (n + 1)) (n + 1)) (hex : exec E n = ih) : ExecOK P (exec E (n + 1)) := by
  intro c s e s' h N σ a w Q R hQ
  have h0 := h
  rw [exec.eq_def] at h
  simp only [hex] at h
  cases c <;> simp only at h <;> (try (cases h; done))
  case skip =>
    cases h
    exact wp_skip (hQ σ a w (Mp.Ext.refl _ _) (Nat.le_refl _) R (Below.refl _ _))
  case region id ops draw =>
    unfold ndRegion at h
    split at h
    · rename_i s1 hr
      cases h
      exact region_sound hE hc hr R hQ
    · cases h
  case seq x y =>
    unfold ndNormal at h
    refine wp_seq ?_
    split at h
    · rename_i s1 h1
      refine hi x s .normal s1 h1 N σ a w _ R fun σ1 a1 w1 g1 g2 g3 g4 => ?_
      show y.wp P Q a1 w1
      exact hi y s1 e s' h N σ1 a1 w1 Q g3 fun σ2 a2 w2 k1 k2 k3 k4 => hQ σ2 a2 w2 (g1.trans k1 g2) (Nat.le_trans g2 k2) k3 (g4.trans k4)
    · rename_i hn
      refine hi x s e s' h N σ a w _ R fun σ1 a1 w1 g1 g2 g3 g4 => ?_
      have := hQ σ1 a1 w1 g1 g2 g3 g4
      cases e with
      | normal => exact (hn s' h).elim
      | exit id => exact this
      | ret => exact this
  case cond c x y =>
    have hcr : ∀ v, ev s.t c = some v → Rep σ v (a.eval c) := fun v hv => by
      cases c with
      | tmp i => simp only [ev, Option.some.injEq] at hv; subst hv; exact R.t.at_ i (fun h => h)
      | const q => exact ofVal_rep hv
      | global g => simp only [ev, Option.some.injEq] at hv; subst hv; exact .gptr _ _
      | func f => simp only [ev, Option.some.injEq] at hv; subst hv; exact .fn _ _ _ [] [] .nil .nil
    unfold ndCond at h
    split at h
    · rename_i hv
      have := hcr _ hv
      generalize hq : a.eval c = q at this
      cases this
      exact wp_cond hq (hi x s e s' h N σ a w Q R hQ)
    · rename_i hv
      have := hcr _ hv
      generalize hq : a.eval c = q at this
      cases this
      exact wp_cond hq (hi y s e s' h N σ a w Q R hQ)
    · cases h
  case block id x =>
    refine wp_block ?_
    unfold ndBlock at h
    split at h
    · rename_i j s1 h1
      refine hi x s (.exit j) s1 h1 N σ a w _ R fun σ1 a1 w1 g1 g2 g3 g4 => ?_
      show (if j = id then Q .normal a1 w1 else Q (.exit j) a1 w1)
      rw [beq_d] at h
      by_cases hj : j = id
      · simp only [hj, decide_true, cond_true, Option.some.injEq, Prod.mk.injEq] at h
        obtain ⟨rfl, rfl⟩ := h
        rw [if_pos hj]
        exact hQ σ1 a1 w1 g1 g2 g3 g4
      · simp only [hj, decide_false, cond_false, Option.some.injEq, Prod.mk.injEq] at h
        obtain ⟨rfl, rfl⟩ := h
        rw [if_neg hj]
        exact hQ σ1 a1 w1 g1 g2 g3 g4
    · rename_i hn
      refine hi x s e s' h N σ a w _ R fun σ1 a1 w1 g1 g2 g3 g4 => ?_
      have := hQ σ1 a1 w1 g1 g2 g3 g4
      cases e with
      | normal => exact this
      | exit id' => exact (hn id' s' h).elim
      | ret => exact this
  case loop x => exact wp_loop_rounds (n + 1) (hl x s e s' h0 N σ a w Q R hQ)
  case exit id =>
    cases h
    exact wp_exit (hQ σ a w (Mp.Ext.refl _ _) (Nat.le_refl _) R (Below.refl _ _))
  case ret =>
    cases h
    exact wp_ret (hQ σ a w (Mp.Ext.refl _ _) (Nat.le_refl _) R (Below.refl _ _))
/-! ### calls -/
def NameOK (P : Program) : Prop := ∀ (f : Nat) (fn : Func), P.funcs[f]? = some fn → (fn.name == "runtime.NumGoroutine") = false
/-- calls that stand for themselves -/
def HooksOK (P : Program) (E : Env) : Prop :=
  ∀ f g, E.hook f = some g → ∀ (N : Nat) al9 h v h', g al9 h = some (v, h') → ∀ (σ : Mp) (w : World) (xs : List Value), Rel N σ h w → RepL σ al9 xs →
    match (callFunc f xs.toArray).run P w with
    | .ok (.value x) w' => Does N σ h w v h' x w'
    | .ok (.enter g ys) w' => Calls P g ys w' fun e w'' => ∃ x, e = .returned x ∧ Does N σ h w v h' x w''
    | _ => False
/-- deferred calls that do nothing -/
def IdleOK (P : Program) (E : Env) : Prop :=
  ∀ f al9, E.idle f al9 = true → ∀ (N : Nat) (σ : Mp) (h : Hp) (w : World) (xs : List Value), Rel N σ h w → RepL σ al9 xs →
    (callFunc f xs.toArray).run P w = .ok (.enter f xs.toArray) w ∧ CallsD P f xs.toArray .returning w fun e u' w' => (∃ v, e = .returned v) ∧ u' = .returning ∧ Below w.heap.size w w'
theorem resV_sound (hE : EnvOK P E) {s : St} {σ : Mp} {tmps : Array Value} {w : World} (T : RepX σ s.t s.n tmps none_) (R : Rel N σ s.h w) : ∀ {rs : List ResultVar} {l : List V}, resV E s rs = some l →
    ∃ xs, RepL σ l xs ∧ (rs.mapM (fun | .tmp t => pure (tmps.getD t undef) | .cell a t => do loadVar t (← asAddr (tmps.getD a undef)) : ResultVar → Sem Value)).run P w = .ok xs w
  | [], l, h => by simp only [resV, Option.some.injEq] at h; subst h; exact ⟨[], .nil, rfl⟩
  | .tmp t :: r, l, h => by
    simp only [resV, Option.bind_eq_some_iff, Option.some.injEq] at h
    obtain ⟨l', h1, rfl⟩ := h
    obtain ⟨xs, h2, h3⟩ := resV_sound hE T R h1
    refine ⟨_ :: xs, .cons _ _ _ _ (T.at_ t (fun h => h)) h2, ?_⟩
    simp only [List.mapM_cons, Sem.run_bind, Sem.run_pure, Result.andThen_ok, h3]
  | .cell a ty :: r, l, h => by
    simp only [resV, Option.bind_eq_some_iff, Option.some.injEq] at h
    obtain ⟨v, hv, l', h1, rfl⟩ := h
    obtain ⟨xs, h2, h3⟩ := resV_sound hE T R h1
    have ha := T.at_ a (fun h => h)
    generalize hax : tmps.getD a undef = ax at ha
    generalize (s.t.get a).getD undefV = av at ha hv
    unfold vload at hv
    split at hv
    · cases ha
      rw [Option.bind_eq_some_iff] at hv
      obtain ⟨vs, h4, h5⟩ := hv
      obtain ⟨x, h6, h7⟩ := loadVar_sound hE (R.at_ ‹_› h4) h5
      refine ⟨x :: xs, .cons _ _ _ _ h7 h2, ?_⟩
      have e1 : (do loadVar ty (← asAddr (tmps.getD a undef)) : Sem Value).run P w = .ok x w := by
        rw [hax, Sem.run_bind]; exact h6
      rw [List.mapM_cons, Sem.run_bind, e1, Result.andThen_ok, Sem.run_bind, h3, Result.andThen_ok]
      rfl
    · cases ha
      obtain ⟨x, h6, h7⟩ := hE.glob _ _ _ _ hv w (fun p hp => (R.tab p hp).2)
      refine ⟨x :: xs, .cons _ _ _ _ (h7 σ) h2, ?_⟩
      have e1 : (do loadVar ty (← asAddr (tmps.getD a undef)) : Sem Value).run P w = .ok x w := by
        rw [hax, Sem.run_bind]; exact h6
      rw [List.mapM_cons, Sem.run_bind, e1, Result.andThen_ok, Sem.run_bind, h3, Result.andThen_ok]
      rfl
    · cases ha
      obtain ⟨x, h6, h7⟩ := hE.arg _ _ _ _ hv w (fun p hp => (R.tab p hp).2)
      refine ⟨x :: xs, .cons _ _ _ _ (h7 σ) h2, ?_⟩
      have e1 : (do loadVar ty (← asAddr (tmps.getD a undef)) : Sem Value).run P w = .ok x w := by
        rw [hax, Sem.run_bind]; exact h6
      rw [List.mapM_cons, Sem.run_bind, e1, Result.andThen_ok, Sem.run_bind, h3, Result.andThen_ok]
      rfl
    · cases hv
theorem end_sound (hE : EnvOK P E) {fn : Func} {s : St} {σ : Mp} {v : V} {h' : Hp} {tmps : Array Value} {w : World} (T : RepX σ s.t s.n tmps none_) (R : Rel N σ s.h w) (he : endOf E fn s = some (v, h')) : h' = s.h ∧ ∃ x, (results fn tmps).run P w = .ok x w ∧ Rep σ v x := by
  unfold endOf at he
  rw [Option.bind_eq_some_iff] at he
  obtain ⟨l, hl, he⟩ := he
  obtain ⟨xs, h1, h2⟩ := resV_sound hE T R hl
  have h3 : (fn.results.mapM (fun | .tmp t => pure (tmps.getD t undef) | .cell a t => do loadVar t (← asAddr (tmps.getD a undef)) : ResultVar → Sem Value)).run P w = .ok xs.toArray w := by
    rw [Array.mapM_eq_mapM_toList, Sem.run_map]
    simp only [h2, Result.andThen_ok]
  have h4 : (results fn tmps).run P w = .ok (if h : xs.toArray.size = 1 then xs.toArray[0] else .tuple xs.toArray) w := by
    unfold results
    rw [Sem.run_bind]
    exact congrArg (fun r : Result (Array Value) => r.andThen fun a w' => (pure (if h : a.size = 1 then a[0] else Value.tuple a) : Sem Value).run P w') h3
  split at he
  · cases he
    cases h1 with
    | cons _ x _ ys hr hy =>
      cases hy
      exact ⟨rfl, x, by rw [h4]; simp, hr⟩
  · rename_i hn
    cases he
    refine ⟨rfl, .tuple xs.toArray, ?_, .tup _ _ h1⟩
    rw [h4]
    have : ¬ xs.toArray.size = 1 := fun e => by
      have hlen := h1.length
      simp at e
      rw [e] at hlen
      match l, hlen with
      | [u], _ => exact hn u rfl
    simp only [this, dif_neg, not_false_iff]
theorem leaves_sound (hE : EnvOK P E) (hI : IdleOK P E) {fn : Func} {s : St} {σ : Mp} {v : V} {h' : Hp} {tmps : Array Value} {R : Ending → World → Prop} (T : RepX σ s.t s.n tmps none_) (he : endOf E fn s = some (v, h')) {ds : List (Nat × List V)} {defers : List Deferred} (hd : RepD σ ds defers) : ∀ {w : World}, idleAll E ds = true → Rel N σ s.h w →
    (∀ x w', Rep σ v x → Rel N σ h' w' → Below N w w' → R (.returned x) w') → Leaves P fn tmps R defers .returning w := by
  induction hd with
  | nil =>
    intro w _ hR hk
    obtain ⟨rfl, x, h1, h2⟩ := end_sound hE T hR he
    exact ⟨x, h1, hk x w h2 hR (Below.refl _ _)⟩
  | cons f al9 d cap l m h1 h2 hl ih =>
    intro w hid hR hk
    rw [idleAll] at hid
    cases hi : E.idle f al9 with
    | false => rw [hi] at hid; cases hid
    | true =>
      rw [hi] at hid
      simp only [cond_true] at hid
      obtain ⟨k1, k2⟩ := hI f al9 hi N σ s.h w _ hR h2
      rw [Array.toArray_toList] at k1 k2
      refine ⟨by simp, .func f, cap, f, d.args ++ cap, h1, by rw [h1]; exact k1, k2.mono fun e u' w' ⟨⟨x, hx⟩, hu, hb⟩ => ?_⟩
      subst hx
      subst hu
      show Leaves P fn tmps R m (settle .returning) w'
      exact ih hid (hR.world hb) fun x w2 g1 g2 g3 => hk x w2 g1 g2 ((hb.mono hR.base).trans g3)
theorem callFn_sound (hE : EnvOK P E) (hI : IdleOK P E) {ex : Code → St → Option (Ex × St)} (hx : ExecOK P ex) {f : Nat} {fn : Func} {al9 : List V} {h h' : Hp} {v : V} (hf : P.funcs[f]? = some fn) (hc : callFn E ex al9 h fn = some (v, h')) {σ : Mp} {w : World} {xs : List Value} (R : Rel N σ h w) (hr : RepL σ al9 xs) :
    Calls P f xs.toArray w fun e w' => ∃ x, e = .returned x ∧ Does N σ h w v h' x w' := by
  unfold callFn at hc
  split at hc
  · cases hc
  · rename_i c hb
    cases hle : Nat.ble al9.length fn.ntmps with
    | false => rw [hle] at hc; cases hc
    | true =>
      rw [hle] at hc
      simp only [cond_true] at hc
      have hlen := Nat.le_of_ble_eq_true hle
      have hxl := hr.length
      have hT : RepX σ (T.ofL (al9.map some) 0 .leaf) fn.ntmps (xs.toArray ++ Array.replicate (fn.ntmps - xs.toArray.size) undef) none_ := by
        refine ⟨by simp; omega, fun i _ => ?_⟩
        rw [T.get_ofL]
        by_cases hi : i < al9.length
        · rw [if_pos ⟨Nat.zero_le _, by simpa using hi⟩]
          obtain ⟨x, h1, h2⟩ := hr.get (i := i) (v := al9[i]) (by simp)
          have e : (xs.toArray ++ Array.replicate (fn.ntmps - xs.toArray.size) undef).getD i undef = x := by
            have hi2 : i < xs.length := by omega
            simp only [Array.getD]
            have : i < (xs.toArray ++ Array.replicate (fn.ntmps - xs.toArray.size) undef).size := by simp; omega
            simp only [this, dif_pos]
            obtain ⟨_, h3⟩ := List.getElem?_eq_some_iff.1 h1
            simp [hi2, h3]
          rw [e]
          simpa [hi] using h2
        · rw [if_neg (by simp; omega), T.get_leaf]
          have e : (xs.toArray ++ Array.replicate (fn.ntmps - xs.toArray.size) undef).getD i undef = undef := by
            simp only [Array.getD]
            split
            · have hi2 : ¬ i < xs.length := by omega
              simp [Array.getElem_append, hi2]
            · rfl
          rw [e]
          exact Rep.undef σ
      refine calls_of_wp_defers hf hb ?_
      cases hex : ex c ⟨T.ofL (al9.map some) 0 .leaf, h, [], fn.ntmps⟩ with
      | none => rw [hex] at hc; cases hc
      | some p =>
        obtain ⟨e, s'⟩ := p
        rw [hex] at hc
        have hfin : (e = .normal ∨ e = .ret) ∧ idleAll E s'.d = true ∧ endOf E fn s' = some (v, h') := by
          unfold finOf at hc
          split at hc
          · rename_i s1 h1
            cases h1
            cases hi : idleAll E s'.d with
            | false => rw [hi] at hc; cases hc
            | true => rw [hi] at hc; exact ⟨.inl rfl, rfl, hc⟩
          · rename_i s1 h1
            cases h1
            cases hi : idleAll E s'.d with
            | false => rw [hi] at hc; cases hc
            | true => rw [hi] at hc; exact ⟨.inr rfl, rfl, hc⟩
          · cases hc
        obtain ⟨he, hidle, hend⟩ := hfin
        refine hx c _ e s' hex N σ _ w _ ⟨hT, R, .nil⟩ fun σ1 a1 w1 g1 g2 g3 g4 => ?_
        have hh : h'.n = s'.h.n := by
          unfold endOf at hend
          rw [Option.bind_eq_some_iff] at hend
          obtain ⟨l, _, hend⟩ := hend
          split at hend <;> cases hend <;> rfl
        have hL : Leaves P fn a1.tmps (fun e w' => ∃ x, e = .returned x ∧ Does N σ h w v h' x w') a1.defers .returning w1 :=
          leaves_sound hE hI g3.t hend g3.d hidle g3.h fun x w' k1 k2 k3 => ⟨x, rfl, σ1, g1, by rw [hh]; exact g2, k1, k2, g4.trans k3⟩
        rcases he with rfl | rfl
        · exact hL
        · exact hL
theorem call_ok (hE : EnvOK P E) (hI : IdleOK P E) (hH : HooksOK P E) (hname : NameOK P) {ex : Code → St → Option (Ex × St)} (hx : ExecOK P ex) : CallOK P (callOf E ex) := by
  intro N f al9 h v h' hc σ w xs R hr
  unfold callOf at hc
  split at hc
  · rename_i g hg
    exact hH f g hg N al9 h v h' hc σ w xs R hr
  · split at hc
    · rename_i fn hf
      have hfn := hE.fn f fn hf
      have hbody : fn.body.isNone = false := by
        unfold callFn at hc
        split at hc
        · cases hc
        · rename_i c hb; rw [hb]; rfl
      have e : (callFunc f xs.toArray).run P w = .ok (.enter f xs.toArray) w := by
        unfold callFunc
        simp only [Sem.run_bind, run_program, Result.andThen_ok, hfn, hname f fn hfn, Bool.false_eq_true, if_false, hbody, Sem.run_pure]
      rw [e]
      exact callFn_sound hE hI hx hfn hc R hr
    · cases hc
theorem exec_ok (hE : EnvOK P E) (hI : IdleOK P E) (hH : HooksOK P E) (hname : NameOK P) : ∀ n, ExecOK P (exec E n) ∧ LoopOK P (exec E n) n
  | 0 => ⟨fun c s e s' h => (by rw [exec.eq_def] at h; cases h), fun c s e s' h => (by rw [exec.eq_def] at h; cases h)⟩
  | n + 1 => by
    obtain ⟨h1, h2⟩ := exec_ok hE hI hH hname n
    have h3 := loopF_ok (E := E) h1 h2 rfl
    exact ⟨execF_ok hE h1 (call_ok hE hI hH hname h1) n h3 rfl, h3⟩
end
theorem run_ok {P : Program} {E : Env} (hE : EnvOK P E) (hI : IdleOK P E) (hH : HooksOK P E) (hname : NameOK P) (n : Nat) : CallOK P (callOf E (exec E n)) := call_ok hE hI hH hname (exec_ok hE hI hH hname n).1
/-- a call that enters -/
theorem runs {P : Program} {E : Env} (hE : EnvOK P E) (hI : IdleOK P E) (hH : HooksOK P E) (hname : NameOK P) {f : Nat} {fn : Func} (hf : P.funcs[f]? = some fn) (hb : fn.body.isNone = false) {al : List V} {h h' : Hp} {v : V} {n : Nat} (hc : callOf E (exec E n) f al h = some (v, h')) {N : Nat} {σ : Mp} {w : World} {xs : List Value} (R : Rel N σ h w) (hr : RepL σ al xs) :
    Calls P f xs.toArray w fun e w'' => ∃ x, e = .returned x ∧ Does N σ h w v h' x w'' := by
  have h1 := run_ok hE hI hH hname n N f al h v h' hc σ w xs R hr
  have e : (callFunc f xs.toArray).run P w = .ok (.enter f xs.toArray) w := by
    unfold callFunc
    simp only [Sem.run_bind, run_program, Result.andThen_ok, hf, hname f fn hf, Bool.false_eq_true, if_false, hb, Sem.run_pure]
  rw [e] at h1
  exact h1
theorem Rel.none (w : World) (ht : ∀ p ∈ Sy.tab, p.1 < w.heap.size ∧ w.heap[p.1]? = some p.2) : Rel w.heap.size (fun _ => none) ⟨.leaf, 0⟩ w := ⟨fun _ _ _ h => (by cases h), fun _ _ _ _ _ h => (by cases h), fun _ _ _ h => (by cases h), Nat.le_refl _, ht⟩
end Go.Proofs.YtlllhhjlfmhmlaaGreatDoor.VM
namespace Go.Proofs.YtlllhhjlfmhmlaaGreatDoor.VM
open Go Go.RowKit
set_option linter.unusedSectionVars false
variable [Sy]
noncomputable section
mutual
def V.ren (r : Nat → Nat) : V → V
  | .bool b => .bool b
  | .int k n => .int k n
  | .str s => .str s
  | .nilp => .nilp
  | .ptr b o => .ptr (r b) o
  | .nils => .nils
  | .sl b o l c => .sl (r b) o l c
  | .slo b o l lo sz => .slo (r b) o l lo sz
  | .emp => .emp
  | .nilm => .nilm
  | .mp b => .mp (r b)
  | .fn f a c => .fn f (V.renL r a) (V.renL r c)
  | .nilf => .nilf
  | .iface t v => .iface t (V.ren r v)
  | .nili => .nili
  | .agg l => .agg (V.renL r l)
  | .tup l => .tup (V.renL r l)
  | .any => .any
  | .symI k j => .symI k j
  | .symS j => .symS j
  | .gptr g o => .gptr g o
  | .aptr g o => .aptr g o
  | .asl g o c => .asl g o c
def V.renL (r : Nat → Nat) : List V → List V
  | [] => []
  | v :: l => V.ren r v :: V.renL r l
end
mutual
theorem Rep.ren {σ τ : Mp} {r q : Nat → Nat} (h : ∀ i, τ (q i) = σ (r i)) : ∀ (v : V) {x : Value}, Rep σ (v.ren r) x → Rep τ (v.ren q) x
  | .bool b, _, k => by rw [V.ren] at k ⊢; cases k; exact .bool b
  | .int a b, _, k => by rw [V.ren] at k ⊢; cases k; exact .int a b
  | .str s, _, k => by rw [V.ren] at k ⊢; cases k with | str _ hs => exact .str _ hs
  | .nilp, _, k => by rw [V.ren] at k ⊢; cases k; exact .nilp
  | .ptr b o, _, k => by rw [V.ren] at k ⊢; cases k with | ptr _ _ _ _ e => exact .ptr _ _ _ _ (by rw [h]; exact e)
  | .nils, _, k => by rw [V.ren] at k ⊢; cases k; exact .nils
  | .sl b o l c, _, k => by rw [V.ren] at k ⊢; cases k with | sl _ _ _ _ _ _ e => exact .sl _ _ _ _ _ _ (by rw [h]; exact e)
  | .slo b o l lo sz, _, k => by rw [V.ren] at k ⊢; cases k with | slo _ _ _ _ _ _ _ _ e h1 h2 h3 => exact .slo _ _ _ _ _ _ _ _ (by rw [h]; exact e) h1 h2 h3
  | .emp, _, k => by rw [V.ren] at k ⊢; cases k; exact .emp _ _
  | .nilm, _, k => by rw [V.ren] at k ⊢; cases k; exact .nilm
  | .mp b, _, k => by rw [V.ren] at k ⊢; cases k with | mp _ _ _ e => exact .mp _ _ _ (by rw [h]; exact e)
  | .fn f a c, _, k => by rw [V.ren] at k ⊢; cases k with | fn _ _ _ _ _ k1 k2 => exact .fn _ _ _ _ _ (RepL.ren h a k1) (RepL.ren h c k2)
  | .nilf, _, k => by rw [V.ren] at k ⊢; cases k; exact .nilf
  | .iface t v, _, k => by rw [V.ren] at k ⊢; cases k with | iface _ _ _ k1 => exact .iface _ _ _ (Rep.ren h v k1)
  | .nili, _, k => by rw [V.ren] at k ⊢; cases k; exact .nili
  | .agg l, _, k => by rw [V.ren] at k ⊢; cases k with | agg _ _ k1 => exact .agg _ _ (RepL.ren h l k1)
  | .tup l, _, k => by rw [V.ren] at k ⊢; cases k with | tup _ _ k1 => exact .tup _ _ (RepL.ren h l k1)
  | .any, _, k => by rw [V.ren] at k ⊢; cases k; exact .any _ ‹_›
  | .symI k j, _, h => by rw [V.ren] at h ⊢; cases h; exact .symI k j
  | .symS j, _, h => by rw [V.ren] at h ⊢; cases h with | symS _ hs => exact .symS j hs
  | .gptr g o, _, h => by rw [V.ren] at h ⊢; cases h; exact .gptr g o
  | .aptr g o, _, h => by rw [V.ren] at h ⊢; cases h; exact .aptr g o
  | .asl g o c, _, h => by rw [V.ren] at h ⊢; cases h; exact .asl g o c
theorem RepL.ren {σ τ : Mp} {r q : Nat → Nat} (h : ∀ i, τ (q i) = σ (r i)) : ∀ (l : List V) {y : List Value}, RepL σ (V.renL r l) y → RepL τ (V.renL q l) y
  | [], _, k => by rw [V.renL] at k ⊢; cases k; exact .nil
  | v :: l, _, k => by rw [V.renL] at k ⊢; cases k with | cons _ _ _ _ k1 k2 => exact .cons _ _ _ _ (Rep.ren h v k1) (RepL.ren h l k2)
end
def renE (r : Nat → Nat) : List (V × V × Nat) → List (V × V × Nat)
  | [] => []
  | (k, v, n) :: l => (k.ren r, v.ren r, n) :: renE r l
theorem RepE.ren {σ τ : Mp} {r q : Nat → Nat} (h : ∀ i, τ (q i) = σ (r i)) : ∀ (l : List (V × V × Nat)) {y : List MapEntry}, RepE σ (renE r l) y → RepE τ (renE q l) y
  | [], _, k => by cases k; exact .nil
  | (a, v, n) :: l, _, k => by cases k with | cons _ _ _ _ _ _ _ k1 k2 k3 => exact .cons _ _ _ _ _ _ _ (Rep.ren h a k1) (Rep.ren h v k2) (RepE.ren h l k3)
def Blk.ren (r : Nat → Nat) : Blk → Blk
  | .cells vs e ro => .cells (V.renL r vs) e ro
  | .map es c => .map (renE r es) c
  | .siter s p => .siter s p
  | .dead => .dead
theorem RepB.ren {σ τ : Mp} {r q : Nat → Nat} (h : ∀ i, τ (q i) = σ (r i)) {n : Nat} {b : Blk} {o : Obj} (k : RepB σ n (b.ren r) o) : RepB τ n (b.ren q) o := by
  cases b with
  | cells vs e ro => obtain ⟨xs, ys, fz, h1, h2, h3⟩ := CellsAre.out k; exact ⟨xs, ys, fz, h1, RepL.ren h vs h2, h3⟩
  | map es c => obtain ⟨ms, h1, h2⟩ := k; exact ⟨ms, h1, RepE.ren h es h2⟩
  | siter s p => exact k
  | dead => trivial
def Blk.noRo : Blk → Bool
  | .cells _ _ ro => !ro
  | _ => true
def Hp.app (h : Hp) (l : List Blk) : Hp := ⟨T.ofL (l.map some) h.n h.t, h.n + l.length⟩
theorem Hp.get_app_old (h : Hp) (l : List Blk) {j : Nat} (hj : j < h.n) : (h.app l).t.get j = h.t.get j := by
  unfold Hp.app
  rw [T.get_ofL, if_neg (by omega)]
theorem Hp.get_app_new (h : Hp) (l : List Blk) (i : Nat) {b : Blk} (hi : l[i]? = some b) : (h.app l).t.get (h.n + i) = some b := by
  unfold Hp.app
  have hl := (List.getElem?_eq_some_iff.1 hi).1
  rw [T.get_ofL, if_pos (by simp; omega), Nat.add_sub_cancel_left, List.getElem?_map, hi]
  rfl
def rn (ρ : List Nat) (K i : Nat) : Nat := ρ.getD i K
/-- what came of a call from nothing, beside what stood -/
theorem relocate {N : Nat} {h h' : Hp} {σ σ' : Mp} {w w' : World} {x : Value} {v0 : V} {bs : List Blk} {ρ : List Nat} {K : Nat}
    (R : Rel N σ h w) (R' : Rel w.heap.size σ' h' w') (hb : Below w.heap.size w w') (hK : h'.n ≤ K) (hr : Rep σ' (v0.ren (rn ρ K)) x)
    (hg : ∀ (i B : Nat), ρ[i]? = some B → ∃ b : Blk, bs[i]? = some b ∧ h'.t.get B = some (b.ren (rn ρ K)))
    (hro : ∀ b ∈ bs, b.noRo = true) (hnd : ρ.Nodup) :
    Does N σ h w (v0.ren fun i => h.n + i) (h.app (bs.map (Blk.ren fun i => h.n + i))) x w' := by
  have Rw := R.world hb
  obtain ⟨τ, hτ⟩ : ∃ τ : Mp, τ = fun B => if B < h.n then σ B else σ' (rn ρ K (B - h.n)) := ⟨_, rfl⟩
  have told : ∀ B, B < h.n → τ B = σ B := fun B hB => by rw [hτ]; exact if_pos hB
  have tnew : ∀ i, τ (h.n + i) = σ' (rn ρ K i) := fun i => by rw [hτ]; show (if h.n + i < h.n then _ else _) = _; rw [if_neg (by omega), Nat.add_sub_cancel_left]
  have hle : Mp.le σ τ := fun B p e => by rw [told B (R.has B p.1 p.2 e).1]; exact e
  have hnew : ∀ (i b n : Nat), τ (h.n + i) = some (b, n) → ∃ (C : Nat) (b0 : Blk), ρ[i]? = some C ∧ σ' C = some (b, n) ∧ bs[i]? = some b0 ∧ h'.t.get C = some (b0.ren (rn ρ K)) ∧ (h.app (bs.map (Blk.ren fun i => h.n + i))).t.get (h.n + i) = some (b0.ren fun i => h.n + i) := by
    intro i b n e
    rw [tnew] at e
    cases hc : ρ[i]? with
    | none =>
      have e2 : rn ρ K i = K := by unfold rn; rw [List.getD_eq_getElem?_getD, hc]; rfl
      rw [e2] at e
      have := (R'.has _ _ _ e).1
      omega
    | some C =>
      have e2 : rn ρ K i = C := by unfold rn; rw [List.getD_eq_getElem?_getD, hc]; rfl
      rw [e2] at e
      obtain ⟨b0, h1, h2⟩ := hg i C hc
      exact ⟨C, b0, rfl, e, h1, h2, Hp.get_app_new _ _ _ (by rw [List.getElem?_map, h1]; rfl)⟩
  have hdead : ∀ i b n, τ (h.n + i) = some (b, n) → b < w.heap.size → (h.app (bs.map (Blk.ren fun i => h.n + i))).t.get (h.n + i) = some .dead := by
    intro i b n e hlt
    obtain ⟨C, b0, h1, h2, h3, h4, h5⟩ := hnew i b n e
    have hn := hro b0 (List.mem_of_getElem? h3)
    rcases R'.old C b n h2 hlt with ⟨vs, el, h6⟩ | h6
    · rw [h4] at h6
      cases b0 with
      | cells us e2 ro =>
        simp only [Blk.ren, Option.some.injEq, Blk.cells.injEq] at h6
        rw [h6.2.2] at hn
        cases hn
      | map _ _ => cases h6
      | siter _ _ => cases h6
      | dead => cases h6
    · rw [h4] at h6
      rw [h5]
      cases b0 with
      | dead => rfl
      | cells _ _ _ => cases h6
      | map _ _ => cases h6
      | siter _ _ => cases h6
  have hsplit : ∀ B, B < h.n ∨ ∃ i, B = h.n + i := fun B => by
    by_cases hB : B < h.n
    · exact .inl hB
    · exact .inr ⟨B - h.n, by omega⟩
  refine ⟨τ, ⟨hle, fun B hB => told B hB⟩, Nat.le_add_right _ _, Rep.ren tnew v0 hr, ⟨?_, ?_, ?_, Nat.le_trans R.base hb.size, Rw.tab⟩, hb.mono R.base⟩
  · intro B b n e
    rcases hsplit B with hB | ⟨i, rfl⟩
    · rw [told B hB] at e
      obtain ⟨h1, h2, k, h3, h4⟩ := Rw.has B b n e
      exact ⟨Nat.lt_of_lt_of_le hB (Nat.le_add_right _ _), h2, k, by rw [Hp.get_app_old _ _ hB]; exact h3, fun o ho => (h4 o ho).mono hle⟩
    · obtain ⟨C, b0, h1, h2, h3, h4, h5⟩ := hnew i b n e
      obtain ⟨k1, k2, k, k3, k4⟩ := R'.has C b n h2
      rw [h4] at k3
      cases k3
      refine ⟨?_, k2, _, h5, fun o ho => RepB.ren tnew (k4 o ho)⟩
      have := (List.getElem?_eq_some_iff.1 h3).1
      show h.n + i < h.n + (bs.map _).length
      rw [List.length_map]; omega
  · intro B C b n m eB eC
    rcases hsplit B with hB | ⟨i, rfl⟩
    · rcases hsplit C with hC | ⟨j, rfl⟩
      · rw [told B hB] at eB
        rw [told C hC] at eC
        rw [Hp.get_app_old _ _ hB, Hp.get_app_old _ _ hC]
        exact R.inj B C b n m eB eC
      · rw [told B hB] at eB
        exact .inr (.inr (hdead j b m eC (R.has B b n eB).2.1))
    · rcases hsplit C with hC | ⟨j, rfl⟩
      · rw [told C hC] at eC
        exact .inr (.inl (hdead i b n eB (R.has C b m eC).2.1))
      · obtain ⟨B', b0, g1, g2, g3, g4, g5⟩ := hnew i b n eB
        obtain ⟨C', c0, k1, k2, k3, k4, k5⟩ := hnew j b m eC
        have dd : ∀ {z : Blk}, z.ren (rn ρ K) = .dead → z.ren (fun i => h.n + i) = .dead := fun {z} hz => by cases z <;> first | rfl | cases hz
        rcases R'.inj B' C' b n m g2 k2 with e | e | e
        · subst e
          left
          rw [(List.getElem?_inj (List.getElem?_eq_some_iff.1 g1).1 hnd).1 (g1.trans k1.symm)]
        · rw [g4] at e
          exact .inr (.inl (by rw [g5, dd (Option.some.inj e)]))
        · rw [k4] at e
          exact .inr (.inr (by rw [k5, dd (Option.some.inj e)]))
  · intro B b n e hlt
    rcases hsplit B with hB | ⟨i, rfl⟩
    · rw [told B hB] at e
      rw [Hp.get_app_old _ _ hB]
      exact R.old B b n e hlt
    · exact .inr (hdead i b n e (Nat.lt_of_lt_of_le hlt R.base))
def allStr : List V → Bool
  | [] => true
  | .str _ :: l => allStr l
  | .symS _ :: l => allStr l
  | .symI _ _ :: l => allStr l
  | .int _ _ :: l => allStr l
  | .bool _ :: l => allStr l
  | _ => false
theorem RepL.closed {σ τ : Mp} : ∀ {l : List V} {y : List Value}, allStr l = true → RepL σ l y → RepL τ l y
  | [], _, _, .nil => .nil
  | .str s :: l, _, h, .cons _ _ _ _ (.str _ hs) k => .cons _ _ _ _ (.str _ hs) (RepL.closed (l := l) h k)
  | .symS s :: l, _, h, .cons _ _ _ _ (.symS _ hs) k => .cons _ _ _ _ (.symS _ hs) (RepL.closed (l := l) h k)
  | .symI _ _ :: l, _, h, .cons _ _ _ _ (.symI _ _) k => .cons _ _ _ _ (.symI _ _) (RepL.closed (l := l) h k)
  | .int _ _ :: l, _, h, .cons _ _ _ _ (.int _ _) k => .cons _ _ _ _ (.int _ _) (RepL.closed (l := l) h k)
  | .bool _ :: l, _, h, .cons _ _ _ _ (.bool _) k => .cons _ _ _ _ (.bool _) (RepL.closed (l := l) h k)
/-- a run from nothing: its value, and the blocks that it needs -/
def look (ρ : List Nat) (K : Nat) : Option (V × Hp) → Option (V × List Blk)
  | some (v, h) => bif Nat.ble h.n K then (ρ.mapM fun B => h.t.get B).bind fun l => some (v, l) else none
  | none => none
theorem mapM_at {α β : Type} {f : α → Option β} : ∀ {l : List α} {m : List β}, l.mapM f = some m → l.length = m.length ∧ ∀ (i : Nat) (a : α), l[i]? = some a → ∃ b : β, m[i]? = some b ∧ f a = some b
  | [], m, h => by simp at h; subst h; exact ⟨rfl, fun i a ha => by simp at ha⟩
  | a :: l, m, h => by
    simp only [List.mapM_cons, Option.bind_eq_bind, Option.bind_eq_some_iff, Option.pure_def, Option.some.injEq] at h
    obtain ⟨b, hb, m', hm, rfl⟩ := h
    obtain ⟨h1, h2⟩ := mapM_at hm
    refine ⟨by simp [h1], fun i c hc => ?_⟩
    cases i with
    | zero => simp at hc; subst hc; exact ⟨b, by simp, hb⟩
    | succ i => simp at hc; obtain ⟨d, h3, h4⟩ := h2 i c hc; exact ⟨d, by simpa using h3, h4⟩
/-- a call whose run from nothing is known -/
theorem memo_ok {P : Program} {E : Env} (hE : EnvOK P E) (hI : IdleOK P E) (hH : HooksOK P E) (hname : NameOK P) {f n K : Nat} {ρ : List Nat} {al : List V} {v0 : V} {bs : List Blk}
    (hrun : look ρ K (callOf E (exec E n) f al ⟨.leaf, 0⟩) = some (v0.ren (rn ρ K), bs.map (Blk.ren (rn ρ K)))) (hal : allStr al = true) (hro : bs.all Blk.noRo = true) (hnd : ρ.Nodup)
    {N : Nat} {σ : Mp} {h : Hp} {w : World} {xs : List Value} (R : Rel N σ h w) (hr : RepL σ al xs) :
    match (callFunc f xs.toArray).run P w with
    | .ok (.value x) w' => Does N σ h w (v0.ren fun i => h.n + i) (h.app (bs.map (Blk.ren fun i => h.n + i))) x w'
    | .ok (.enter g ys) w' => Calls P g ys w' fun e w'' => ∃ x, e = .returned x ∧ Does N σ h w (v0.ren fun i => h.n + i) (h.app (bs.map (Blk.ren fun i => h.n + i))) x w''
    | _ => False := by
  unfold look at hrun
  split at hrun
  · rename_i v h' hc
    cases hk : Nat.ble h'.n K with
    | false => rw [hk] at hrun; cases hrun
    | true =>
      rw [hk] at hrun
      simp only [cond_true, Option.bind_eq_some_iff, Option.some.injEq, Prod.mk.injEq] at hrun
      obtain ⟨l, hm, e1, e2⟩ := hrun
      have m2 := (mapM_at hm).2
      have key : ∀ x w', Does w.heap.size (fun _ => none) ⟨.leaf, 0⟩ w v h' x w' → Does N σ h w (v0.ren fun i => h.n + i) (h.app (bs.map (Blk.ren fun i => h.n + i))) x w' := by
        rintro x w' ⟨σ', _, _, g1, g2, g3⟩
        subst e1
        refine relocate R g2 g3 (Nat.le_of_ble_eq_true hk) g1 (fun i B hi => ?_) (List.all_eq_true.1 hro) hnd
        obtain ⟨b, h3, h4⟩ := m2 i B hi
        rw [e2, List.getElem?_map, Option.map_eq_some_iff] at h3
        obtain ⟨b0, h5, rfl⟩ := h3
        exact ⟨b0, h5, h4⟩
      have h1 := run_ok hE hI hH hname n w.heap.size f al _ _ _ hc (fun _ => none) w xs (Rel.none w fun p hp => ⟨Nat.lt_of_lt_of_le (R.tab p hp).1 R.base, (R.tab p hp).2⟩) (RepL.closed hal hr)
      generalize (callFunc f xs.toArray).run P w = r at h1 ⊢
      match r, h1 with
      | .ok (.value x) w', h1 => exact key x w' h1
      | .ok (.enter g ys) w', h1 => exact Calls.mono h1 fun e w'' ⟨x, hx, hd⟩ => ⟨x, hx, key x w'' hd⟩
  · cases hrun
end
end Go.Proofs.YtlllhhjlfmhmlaaGreatDoor.VM
namespace Go.Proofs.YtlllhhjlfmhmlaaGreatDoor.VM
open Go Go.RowKit
set_option linter.unusedSectionVars false
variable [Sy]
noncomputable section
structure Memo where
  al : List V
  v : V
  bs : List Blk
def MemoOK (P : Program) (f : Nat) (m : Memo) : Prop :=
  ∀ (N : Nat) (σ : Mp) (h : Hp) (w : World) (xs : List Value), Rel N σ h w → RepL σ m.al xs →
    match (callFunc f xs.toArray).run P w with
    | .ok (.value x) w' => Does N σ h w (m.v.ren fun i => h.n + i) (h.app (m.bs.map (Blk.ren fun i => h.n + i))) x w'
    | .ok (.enter g ys) w' => Calls P g ys w' fun e w'' => ∃ x, e = .returned x ∧ Does N σ h w (m.v.ren fun i => h.n + i) (h.app (m.bs.map (Blk.ren fun i => h.n + i))) x w''
    | _ => False
theorem memoOK_of {P : Program} {E : Env} (hE : EnvOK P E) (hI : IdleOK P E) (hH : HooksOK P E) (hname : NameOK P) {f n K : Nat} {ρ : List Nat} {m : Memo}
    (hrun : look ρ K (callOf E (exec E n) f m.al ⟨.leaf, 0⟩) = some (m.v.ren (rn ρ K), m.bs.map (Blk.ren (rn ρ K)))) (hal : allStr m.al = true) (hro : m.bs.all Blk.noRo = true) (hnd : ρ.Nodup) : MemoOK P f m :=
  fun _ _ _ _ _ R hr => memo_ok hE hI hH hname hrun hal hro hnd R hr
def eqN : List Nat → List Nat → Bool
  | [], [] => true
  | a :: l, b :: m => bif Nat.beq a b then eqN l m else false
  | _, _ => false
theorem eqN_eq : ∀ {l m : List Nat}, eqN l m = true → l = m
  | [], [], _ => rfl
  | a :: l, b :: m, h => by
    rw [eqN] at h
    cases hb : Nat.beq a b with
    | false => rw [hb] at h; cases h
    | true => rw [hb] at h; rw [Nat.eq_of_beq_eq_true hb, eqN_eq (l := l) (m := m) h]
  | [], _ :: _, h => by cases h
  | _ :: _, [], h => by cases h
def eqS : List V → List V → Bool
  | [], [] => true
  | .str s :: l, .str t :: m => bif eqN s t then eqS l m else false
  | .symS s :: l, .symS t :: m => bif Nat.beq s t then eqS l m else false
  | .symI k s :: l, .symI j t :: m => bif keq k j && Nat.beq s t then eqS l m else false
  | .int k s :: l, .int j t :: m => bif keq k j && ieq s t then eqS l m else false
  | .bool s :: l, .bool t :: m => bif s == t then eqS l m else false
  | _, _ => false
theorem eqS_eq : ∀ {l m : List V}, eqS l m = true → l = m := by
  intro l m h
  fun_induction eqS l m with
  | case1 => rfl
  | case2 s l t m hb ih => rw [eqN_eq hb, ih h]
  | case3 => cases h
  | case4 s l t m hb ih => rw [Nat.eq_of_beq_eq_true hb, ih h]
  | case5 => cases h
  | case6 k s l j t m hb ih =>
    rw [Bool.and_eq_true] at hb
    rw [keq_eq hb.1, Nat.eq_of_beq_eq_true hb.2, ih h]
  | case7 => cases h
  | case8 k s l j t m hb ih =>
    rw [Bool.and_eq_true] at hb
    rw [keq_eq hb.1, (ieq_iff _ _).1 hb.2, ih h]
  | case9 => cases h
  | case10 s l t m hb ih => rw [beq_iff_eq.1 hb, ih h]
  | case11 => cases h
  | case12 => cases h
def memoH : List Memo → List V → Hp → Option (V × Hp)
  | [], _, _ => none
  | m :: r, al, h => bif eqS m.al al then some (m.v.ren fun i => h.n + i, h.app (m.bs.map (Blk.ren fun i => h.n + i))) else memoH r al h
theorem memoH_sound {P : Program} {f : Nat} : ∀ {ms : List Memo}, (∀ m ∈ ms, MemoOK P f m) → ∀ (N : Nat) (al : List V) (h : Hp) (v : V) (h' : Hp), memoH ms al h = some (v, h') → ∀ (σ : Mp) (w : World) (xs : List Value), Rel N σ h w → RepL σ al xs →
    match (callFunc f xs.toArray).run P w with
    | .ok (.value x) w' => Does N σ h w v h' x w'
    | .ok (.enter g ys) w' => Calls P g ys w' fun e w'' => ∃ x, e = .returned x ∧ Does N σ h w v h' x w''
    | _ => False
  | [], _, _, _, _, _, _, hc, _, _, _, _, _ => by cases hc
  | m :: r, hm, N, al, h, v, h', hc, σ, w, xs, R, hr => by
    rw [memoH] at hc
    cases hb : eqS m.al al with
    | false => rw [hb] at hc; exact memoH_sound (fun m' hm' => hm m' (List.mem_cons_of_mem _ hm')) N al h v h' hc σ w xs R hr
    | true =>
      rw [hb] at hc
      cases hc
      rw [← eqS_eq hb] at hr
      exact hm m List.mem_cons_self N σ h w xs R hr
end
end Go.Proofs.YtlllhhjlfmhmlaaGreatDoor.VM
namespace Go.Proofs.YtlllhhjlfmhmlaaGreatDoor.VM
open Go
open Go.RowKit
set_option linter.unusedSectionVars false
variable [Sy]
def idxB : List Nat → Nat → Nat → Int
  | [], _, _ => -1
  | b :: r, c, i => bif Nat.beq b c then (.ofNat i : Int) else idxB r c (i+1)
def idxH (xs : List V) (h : Hp) : Option (V × Hp) := match xs with | [.str s, .int .u8 (.ofNat c)] => bif Nat.blt c 256 then some (mkInt .i64 (idxB s c 0), h) else none | _ => none
def hooks : Nat → Option (List V → Hp → Option (V × Hp)) := fun f => bif Nat.beq f 227 then some idxH else none
def twoP : List V → Bool
  | [.ptr _ _, .ptr _ _] => true
  | _ => false
def idles (f : Nat) (al : List V) : Bool := bif Nat.beq f 70 then twoP al else false
def isV : Option (V × Hp) → Option V
  | some (v, _) => some v
  | none => none
noncomputable def E : Env := Env.of Tryz.prog hooks idles
theorem ofL_range {α : Type} (g : Nat → Option α) (n i : Nat) (x : α) (h : (T.ofL ((List.range n).map g) 0 .leaf).get i = some x) : g i = some x := by
  rw [T.get_ofL, T.get_leaf] at h
  split at h
  · rename_i hi
    simp at hi
    simpa [hi] using h
  · cases h
theorem ofL_all {α : Type} (l : Array α) (i : Nat) (x : α) (h : (T.ofL (l.toList.map some) 0 .leaf).get i = some x) : l[i]? = some x := by
  rw [T.get_ofL, T.get_leaf] at h
  split at h
  · rename_i hi
    simp at hi
    simpa [hi] using h
  · cases h
theorem envOK_of (P : Program) (hook : Nat → Option (List V → Hp → Option (V × Hp))) (idle : Nat → List V → Bool) (hm : P.follows .mixedOrders = true) : EnvOK P (Env.of P hook idle) :=
  ⟨fun t i h => ofL_range (tiOf P) _ t i h, fun f fn h => ofL_all P.funcs f fn h, hm, ⟨fun _ _ _ _ h => (by cases h), fun _ _ _ h => (by cases h), fun _ _ _ _ h => (by cases h), fun _ _ h => (by cases h), fun _ _ _ _ h => (by cases h), fun _ _ h => (by cases h), fun _ _ h => (by cases h), fun _ _ _ h => (by cases h), fun _ _ _ h => (by cases h)⟩, fun _ _ _ _ h => (by cases h), fun _ _ _ _ h => (by cases h)⟩
theorem envOK : EnvOK Tryz.prog E := envOK_of _ _ _ (by kernel_rfl)
theorem names_tell : (Tryz.prog.funcs.toList.all fun fn => !(fn.name == "runtime.NumGoroutine")) = true := by kernel_rfl
theorem nameOK : NameOK Tryz.prog := by
  intro f fn hf
  have h := List.all_eq_true.1 names_tell fn (by rw [Array.mem_toList_iff]; exact Array.mem_of_getElem? hf)
  simpa using h
theorem idxB_eq : ∀ (s : List Nat) (c i : Nat), (∀ b ∈ s, b < 256) → c < 256 → idxB s c i = if Lib.indexByte (s.map Nat.toUInt8) c.toUInt8 = -1 then -1 else Lib.indexByte (s.map Nat.toUInt8) c.toUInt8 + i
  | [], c, i, _, _ => by simp [idxB, Lib.indexByte]
  | b :: r, c, i, hs, hc => by
    have ih := idxB_eq r c (i + 1) (fun x hx => hs x (by simp [hx])) hc
    have hb := hs b (by simp)
    have hge := Lib.indexByte_ge (r.map Nat.toUInt8) c.toUInt8
    have e : (b.toUInt8 == c.toUInt8) = Nat.beq b c := by
      rw [Bool.eq_iff_iff, beq_iff_eq, Nat.beq_eq]
      constructor
      · intro h
        have := congrArg UInt8.toNat h
        simp at this
        omega
      · rintro rfl; rfl
    rw [idxB, ih, List.map_cons, Lib.indexByte, e]
    cases Nat.beq b c with
    | true => simp
    | false =>
      simp only [cond_false, Bool.false_eq_true, if_false]
      generalize Lib.indexByte (r.map Nat.toUInt8) c.toUInt8 = q at *
      by_cases hq : q = -1
      · subst hq; simp
      · have h2 : ¬ q + 1 = -1 := by omega
        simp [hq, h2]
        omega
theorem hooksOK : HooksOK Tryz.prog E := by
  intro f g hg N al h v h' hc σ w xs R hr
  have hg' : (bif Nat.beq f 227 then some idxH else none) = some g := hg
  cases hf : Nat.beq f 227 with
  | false => rw [hf] at hg'; cases hg'
  | true =>
    have := Nat.eq_of_beq_eq_true hf
    subst this
    rw [hf] at hg'
    cases hg'
    unfold idxH at hc
    split at hc
    · rename_i s c
      cases hb : Nat.blt c 256 with
      | false => rw [hb] at hc; cases hc
      | true =>
        rw [hb] at hc
        cases hc
        have hc2 : c < 256 := by simpa [Nat.blt_eq] using hb
        cases hr with
        | cons _ x _ y r1 r2 =>
          cases r2 with
          | cons _ x2 _ y2 r3 r4 =>
            cases r4
            cases r1 with
            | str _ hs =>
              cases r3
              rw [run_callFunc_extern Tryz.func227 (by kernel_rfl) (by kernel_rfl) (by kernel_rfl) (e := Extern.BytealgIndexByte.indexByte) (by kernel_rfl), Lib.run_indexByteString]
              refine Does.stay ?_ R (Below.refl _ _) (Nat.le_refl _)
              rw [mkInt_eq]
              have e : idxB s c 0 = Lib.indexByte (bytesOf s).data.toList (Int.ofNat c).toNat.toUInt8 := by
                rw [idxB_eq s c 0 hs hc2]
                show _ = Lib.indexByte (s.map Nat.toUInt8) c.toUInt8
                split
                · rename_i h; rw [h]
                · simp
              rw [e]
              exact Rep.int _ _
    · cases hc
theorem catch_idle (p q : Addr) (w : World) :
    CallsD Tryz.prog 70 #[.pointer (some p), .pointer (some q)] .returning w fun e u' w' => e = .returned (.tuple #[]) ∧ u' = .returning ∧ w' = w := by
  refine callsD_of_wpS Tryz.func70 rfl fun c₀ cs hu => ?_
  apply wpS_seq
  apply wpS_region
  simp [wpOpsS, go_sem, recoverD, hu, Tryz.ntmps70, Exit.thenS]
  apply wpS_seq
  apply wpS_region
  simp [wpOpsS, go_sem, Exit.thenS]
  refine wpS_cond (t := false) (by simp [Act.eval, Array.replicate]) ?_
  simp only [Bool.false_eq_true, if_false]
  refine wpS_of_wp (wp_skip ?_)
  cases c₀
  simp_all [bodyPostS, results, Tryz.results70]
theorem idleOK : IdleOK Tryz.prog E := by
  intro f al hi N σ h w xs R hr
  have hi' : (bif Nat.beq f 70 then twoP al else false) = true := hi
  cases hf : Nat.beq f 70 with
  | false => rw [hf] at hi'; cases hi'
  | true =>
    have := Nat.eq_of_beq_eq_true hf
    subst this
    rw [hf] at hi'
    simp only [cond_true] at hi'
    unfold twoP at hi'
    split at hi'
    · cases hr with
      | cons _ x _ y r1 r2 =>
        cases r2 with
        | cons _ x2 _ y2 r3 r4 =>
          cases r4
          cases r1
          cases r3
          refine ⟨?_, (catch_idle _ _ _).mono fun e u' w' ⟨h1, h2, h3⟩ => ⟨⟨_, h1⟩, h2, by rw [h3]; exact Below.refl _ _⟩⟩
          unfold callFunc
          simp only [Sem.run_bind, run_program, Result.andThen_ok, Tryz.func70, nameOK _ _ Tryz.func70, Bool.false_eq_true, if_false]
          rfl
    · cases hi'
/-- what the machine says of a function of this program, the code keeps -/
theorem calls_of_run {f : Nat} {fn : Func} (hf : Tryz.prog.funcs[f]? = some fn) (hb : fn.body.isNone = false) {al : List V} {h h' : Hp} {v : V} {n : Nat} (hc : callOf E (exec E n) f al h = some (v, h')) {N : Nat} {σ : Mp} {w : World} {xs : List Value} (R : Rel N σ h w) (hr : RepL σ al xs) :
    Calls Tryz.prog f xs.toArray w fun e w'' => ∃ x, e = .returned x ∧ Does N σ h w v h' x w'' :=
  @runs _ Tryz.prog E envOK (@idleOK _) (@hooksOK _) nameOK f fn hf hb al h h' v n hc N σ w xs R hr
end Go.Proofs.YtlllhhjlfmhmlaaGreatDoor.VM
namespace Go.Proofs.YtlllhhjlfmhmlaaGreatDoor.VM
open Go Go.RowKit
def memG : List (Nat × TypeId) → Nat → TypeId → Bool
  | [], _, _ => false
  | p :: r, g, t => Nat.beq p.1 g && Nat.beq p.2 t || memG r g t
theorem memG_in : ∀ {gl : List (Nat × TypeId)} {g : Nat} {t : TypeId}, memG gl g t = true → (g, t) ∈ gl
  | [], _, _, h => by cases h
  | p :: r, g, t, h => by
    simp only [memG, Bool.or_eq_true, Bool.and_eq_true, Nat.beq_eq] at h
    rcases h with ⟨h1, h2⟩ | h
    · obtain ⟨a, b⟩ := p
      subst h1; subst h2
      exact List.mem_cons_self ..
    · exact List.mem_cons_of_mem _ (memG_in h)
/-- globals that stand -/
def GlobOK (P : Program) (tab : List (Nat × Obj)) (gl : List (Nat × TypeId)) : Prop :=
  ∀ p ∈ gl, ∀ w : World, (∀ q ∈ tab, w.heap[q.1]? = some q.2) → ∃ x, (loadVar p.2 ⟨p.1, 0, none⟩).run P w = .ok x w ∧ x.oneCell' = true
end Go.Proofs.YtlllhhjlfmhmlaaGreatDoor.VM
namespace Go.Proofs.YtlllhhjlfmhmlaaGreatDoor
namespace VM
open Go Go.RowKit
set_option linter.unusedVariables false
set_option linter.unusedSectionVars false
set_option maxRecDepth 20000
noncomputable section
abbrev Hook := List V → Hp → Option (V × Hp)
def hooksOf : List (Nat × Hook) → Nat → Option Hook
  | [], _ => none
  | p :: r, f => bif Nat.beq f p.1 then some p.2 else hooksOf r f
section
variable [Sy]
def HookOK (f : Nat) (g : Hook) : Prop :=
  ∀ (N : Nat) (al : List V) (h : Hp) (v : V) (h' : Hp), g al h = some (v, h') → ∀ (σ : Mp) (w : World) (xs : List Value), Rel N σ h w → RepL σ al xs →
    match (callFunc f xs.toArray).run Tryz.prog w with
    | .ok (.value x) w' => Does N σ h w v h' x w'
    | .ok (.enter g ys) w' => Calls Tryz.prog g ys w' fun e w'' => ∃ x, e = .returned x ∧ Does N σ h w v h' x w''
    | _ => False
theorem hooksOf_ok : ∀ {l : List (Nat × Hook)}, (∀ p ∈ l, HookOK p.1 p.2) → ∀ {f : Nat} {g : Hook}, hooksOf l f = some g → HookOK f g
  | [], _, _, _, h => by cases h
  | p :: r, hl, f, g, h => by
    rw [hooksOf] at h
    cases hb : Nat.beq f p.1 with
    | true =>
      rw [hb] at h
      cases h
      rw [Nat.eq_of_beq_eq_true hb]
      exact hl p (List.mem_cons_self ..)
    | false =>
      rw [hb] at h
      exact hooksOf_ok (fun q hq => hl q (List.mem_cons_of_mem _ hq)) h
theorem enter_of {f : Nat} {fn : Func} (hf : Tryz.prog.funcs[f]? = some fn) (hb : fn.body.isNone = false) (args : Array Value) (w : World) : (callFunc f args).run Tryz.prog w = .ok (.enter f args) w := by
  unfold callFunc
  simp only [Sem.run_bind, run_program, Result.andThen_ok, hf, nameOK f fn hf, Bool.false_eq_true, if_false, hb, Sem.run_pure]
theorem envOK_so (P : Program) (hook : Nat → Option (List V → Hp → Option (V × Hp))) (idle : Nat → List V → Bool) (so : SOp → List V → Option V) (hm : P.follows .mixedOrders = true) (hs : SopOK (Env.of P hook idle so)) (ha : ∀ j off t v, so (.arg j off t) [] = some v → ∀ w : World, (∀ p ∈ Sy.tab, w.heap[p.1]? = some p.2) → ∃ x, (loadVar t ⟨(Sy.pl j).1, (Sy.pl j).2 + off, none⟩).run P w = .ok x w ∧ ∀ σ, Rep σ v x) (hg : ∀ g off t v, so (.glob g off t) [] = some v → ∀ w : World, (∀ p ∈ Sy.tab, w.heap[p.1]? = some p.2) → ∃ x, (loadVar t ⟨g, off, none⟩).run P w = .ok x w ∧ ∀ σ, Rep σ v x) : EnvOK P (Env.of P hook idle so) :=
  ⟨fun t i h => ofL_range (tiOf P) _ t i h, fun f fn h => ofL_all P.funcs f fn h, hm, hs, ha, hg⟩
/-- what a contract says, a hook may say -/
theorem hook_of {f : Nat} {fn : Func} (hf : Tryz.prog.funcs[f]? = some fn) (hb : fn.body.isNone = false) {N : Nat} {σ : Mp} {h : Hp} {w : World} {xs : List Value} {v : V} {X : Value} (R : Rel N σ h w) (hr : Rep σ v X)
    (hc : Calls Tryz.prog f xs.toArray w fun e w' => e = .returned X ∧ Below w.heap.size w w') :
    match (callFunc f xs.toArray).run Tryz.prog w with
    | .ok (.value x) w' => Does N σ h w v h x w'
    | .ok (.enter g ys) w' => Calls Tryz.prog g ys w' fun e w'' => ∃ x, e = .returned x ∧ Does N σ h w v h x w''
    | _ => False := by
  rw [enter_of hf hb]
  refine hc.mono ?_
  rintro e w' ⟨rfl, hb⟩
  exact ⟨X, rfl, Does.stay hr (R.world hb) (hb.mono R.base) (Nat.le_refl _)⟩
theorem memos_ok {f : Nat} {ms : List Memo} (h : ∀ m ∈ ms, MemoOK Tryz.prog f m) : HookOK f (memoH ms) := fun N al h' v h2 hc σ w xs R hr => memoH_sound h N al h' v h2 hc σ w xs R hr
theorem idxH_ok : HookOK 227 idxH := fun N al h v h' hc => @hooksOK _ 227 idxH rfl N al h v h' hc
end
def cntB : List Nat → Nat → Nat
  | [], _ => 0
  | b :: r, c => bif Nat.beq b c then Nat.succ (cntB r c) else cntB r c
def cntH (xs : List V) (h : Hp) : Option (V × Hp) := match xs with | [.str s, .int .u8 (.ofNat c)] => bif Nat.blt c 256 then some (mkInt .i64 (.ofNat (cntB s c)), h) else none | _ => none
theorem cntB_eq : ∀ (s : List Nat) (c : Nat), (∀ b ∈ s, b < 256) → c < 256 → cntB s c = Lib.countByte (s.map Nat.toUInt8) c.toUInt8
  | [], c, _, _ => rfl
  | b :: r, c, hs, hc => by
    have ih := cntB_eq r c (fun x hx => hs x (by simp [hx])) hc
    have hb := hs b (by simp)
    unfold Lib.countByte at ih ⊢
    have e : (b.toUInt8 == c.toUInt8) = Nat.beq b c := by
      rw [Bool.eq_iff_iff, beq_iff_eq, Nat.beq_eq]
      constructor
      · intro h
        have := congrArg UInt8.toNat h
        simp at this
        omega
      · rintro rfl; rfl
    rw [cntB, ih, List.map_cons, List.count_cons, e]
    cases Nat.beq b c <;> simp
section
variable [Sy]
theorem cntH_ok : HookOK 211 cntH := by
  intro N al h v h' hc σ w xs R hr
  unfold cntH at hc
  split at hc
  · rename_i s c
    cases hb : Nat.blt c 256 with
    | false => rw [hb] at hc; cases hc
    | true =>
      rw [hb] at hc
      cases hc
      have hc2 : c < 256 := by simpa [Nat.blt_eq] using hb
      cases hr with | cons _ x _ y r1 r2 =>
      cases r2 with | cons _ x2 _ y2 r3 r4 =>
      cases r4
      cases r1 with | str _ hs =>
      cases r3
      rw [run_callFunc_extern Tryz.func211 (by kernel_rfl) (by kernel_rfl) (by kernel_rfl) (e := Extern.BytealgCount.count) (by kernel_rfl), Lib.run_countString]
      refine Does.stay ?_ R (Below.refl _ _) (Nat.le_refl _)
      rw [mkInt_eq]
      have e : cntB s c = Lib.countByte (bytesOf s).data.toList (Int.ofNat c).toNat.toUInt8 := by
        rw [cntB_eq s c hs hc2]
        show _ = Lib.countByte (s.map Nat.toUInt8) c.toUInt8
        rfl
      rw [e]
      exact Rep.int _ _
  · cases hc
end
/-- strconv's errors -/
def globs : List (Nat × TypeId) := [(0, 133)]
theorem isV_some {r : Option (V × Hp)} {v : V} (h : isV r = some v) : ∃ h', r = some (v, h') := by
  cases r with
  | none => cases h
  | some p => obtain ⟨a, b⟩ := p; cases h; exact ⟨b, rfl⟩
def soG (gl : List (Nat × TypeId)) (o : SOp) (al : List V) : Option V :=
  match o with
  | .glob g off t => bif Nat.beq off 0 && memG gl g t then some .any else none
  | _ => none
end
end VM
end Go.Proofs.YtlllhhjlfmhmlaaGreatDoor
namespace Go.Proofs.YtlllhhjlfmhmlaaGreatDoor
namespace VM
open Go Go.RowKit
set_option linter.unusedVariables false
set_option linter.unusedSectionVars false
set_option maxRecDepth 20000
noncomputable section
/-- places of a byte, how many there are -/
def hkB : List (Nat × Hook) := [(227, idxH), (211, cntH)]
def Ed : Env := Env.of Tryz.prog (hooksOf hkB) idles (soG globs)
section
variable [Sy]
theorem idleD : IdleOK Tryz.prog Ed := @idleOK _
theorem hkB_ok : ∀ p ∈ hkB, HookOK p.1 p.2 := fun p hp => by
  simp only [hkB, List.mem_cons, List.not_mem_nil, or_false] at hp
  rcases hp with rfl | rfl
  · exact idxH_ok
  · exact cntH_ok
theorem hooksD : HooksOK Tryz.prog Ed := by
  intro f g hg
  exact hooksOf_ok (l := hkB) hkB_ok hg
theorem soG_ok (hg : GlobOK Tryz.prog Sy.tab globs) (hook : Nat → Option (List V → Hp → Option (V × Hp))) (idle : Nat → List V → Bool) : EnvOK Tryz.prog (Env.of Tryz.prog hook idle (soG globs)) := by
  refine envOK_so _ _ _ _ (by kernel_rfl) ⟨fun _ _ _ _ h => (by cases h), fun _ _ _ h => (by cases h), fun _ _ _ _ h => (by cases h), fun _ _ h => (by cases h), fun _ _ _ _ h => (by cases h), fun _ _ h => (by cases h), fun _ _ h => (by cases h), fun _ _ _ h => (by cases h), fun _ _ _ h => (by cases h)⟩ (fun _ _ _ _ h => (by cases h)) ?_
  intro g off t v h w hw
  simp only [soG] at h
  cases hq : (Nat.beq off 0 && memG globs g t) with
  | false => rw [hq] at h; cases h
  | true =>
    rw [hq] at h
    cases h
    simp only [Bool.and_eq_true, Nat.beq_eq] at hq
    obtain ⟨rfl, h2⟩ := hq
    obtain ⟨x, h3, h4⟩ := hg _ (memG_in h2) w hw
    exact ⟨x, h3, fun σ => .any x h4⟩
theorem envD (hg : GlobOK Tryz.prog Sy.tab globs) : EnvOK Tryz.prog Ed := soG_ok hg _ _
end
end
end VM
end Go.Proofs.YtlllhhjlfmhmlaaGreatDoor
namespace Go.Proofs.YtlllhhjlfmhmlaaGreatDoor
namespace VM
open Go Go.RowKit
set_option linter.unusedVariables false
set_option linter.unusedSectionVars false
set_option maxRecDepth 20000
noncomputable section
def dpM0 : Memo := ⟨[.str []], .bool true, []⟩
theorem dpM0_run : look [] 0 (callOf (Ed) (exec (Ed) 3000) 46 dpM0.al ⟨.leaf, 0⟩) = some (dpM0.v.ren (rn [] 0), dpM0.bs.map (Blk.ren (rn [] 0))) := by kernel_rfl
theorem dpM0_ok [Sy] (hg : GlobOK Tryz.prog Sy.tab globs) : MemoOK Tryz.prog 46 dpM0 :=
  @memoOK_of _ Tryz.prog (Ed) (envD hg) (@idleD _) (@hooksD _) nameOK 46 3000 0 [] dpM0 dpM0_run rfl rfl (by decide)
def dpM1 : Memo := ⟨[.str [48]], .bool true, []⟩
theorem dpM1_run : look [] 1 (callOf (Ed) (exec (Ed) 3000) 46 dpM1.al ⟨.leaf, 0⟩) = some (dpM1.v.ren (rn [] 1), dpM1.bs.map (Blk.ren (rn [] 1))) := by kernel_rfl
theorem dpM1_ok [Sy] (hg : GlobOK Tryz.prog Sy.tab globs) : MemoOK Tryz.prog 46 dpM1 :=
  @memoOK_of _ Tryz.prog (Ed) (envD hg) (@idleD _) (@hooksD _) nameOK 46 3000 1 [] dpM1 dpM1_run rfl rfl (by decide)
def dpM2 : Memo := ⟨[.str [39, 97]], .bool true, []⟩
theorem dpM2_run : look [] 0 (callOf (Ed) (exec (Ed) 3000) 46 dpM2.al ⟨.leaf, 0⟩) = some (dpM2.v.ren (rn [] 0), dpM2.bs.map (Blk.ren (rn [] 0))) := by kernel_rfl
theorem dpM2_ok [Sy] (hg : GlobOK Tryz.prog Sy.tab globs) : MemoOK Tryz.prog 46 dpM2 :=
  @memoOK_of _ Tryz.prog (Ed) (envD hg) (@idleD _) (@hooksD _) nameOK 46 3000 0 [] dpM2 dpM2_run rfl rfl (by decide)
def dpM3 : Memo := ⟨[.str [61, 65, 49]], .bool true, []⟩
theorem dpM3_run : look [] 60 (callOf (Ed) (exec (Ed) 3000) 46 dpM3.al ⟨.leaf, 0⟩) = some (dpM3.v.ren (rn [] 60), dpM3.bs.map (Blk.ren (rn [] 60))) := by kernel_rfl
theorem dpM3_ok [Sy] (hg : GlobOK Tryz.prog Sy.tab globs) : MemoOK Tryz.prog 46 dpM3 :=
  @memoOK_of _ Tryz.prog (Ed) (envD hg) (@idleD _) (@hooksD _) nameOK 46 3000 60 [] dpM3 dpM3_run rfl rfl (by decide)
def dpM4 : Memo := ⟨[.str [61, 66, 49, 43, 49]], .bool true, []⟩
theorem dpM4_run : look [] 104 (callOf (Ed) (exec (Ed) 3000) 46 dpM4.al ⟨.leaf, 0⟩) = some (dpM4.v.ren (rn [] 104), dpM4.bs.map (Blk.ren (rn [] 104))) := by kernel_rfl
theorem dpM4_ok [Sy] (hg : GlobOK Tryz.prog Sy.tab globs) : MemoOK Tryz.prog 46 dpM4 :=
  @memoOK_of _ Tryz.prog (Ed) (envD hg) (@idleD _) (@hooksD _) nameOK 46 3000 104 [] dpM4 dpM4_run rfl rfl (by decide)
def dpM5 : Memo := ⟨[.str [61, 83, 85, 77, 40, 65, 49, 58, 66, 49, 41]], .bool true, []⟩
theorem dpM5_run : look [] 157 (callOf (Ed) (exec (Ed) 3000) 46 dpM5.al ⟨.leaf, 0⟩) = some (dpM5.v.ren (rn [] 157), dpM5.bs.map (Blk.ren (rn [] 157))) := by kernel_rfl
theorem dpM5_ok [Sy] (hg : GlobOK Tryz.prog Sy.tab globs) : MemoOK Tryz.prog 46 dpM5 :=
  @memoOK_of _ Tryz.prog (Ed) (envD hg) (@idleD _) (@hooksD _) nameOK 46 3000 157 [] dpM5 dpM5_run rfl rfl (by decide)
def dpM6 : Memo := ⟨[.str [61, 66, 33, 65, 50, 42, 50]], .bool true, []⟩
theorem dpM6_run : look [] 99 (callOf (Ed) (exec (Ed) 3000) 46 dpM6.al ⟨.leaf, 0⟩) = some (dpM6.v.ren (rn [] 99), dpM6.bs.map (Blk.ren (rn [] 99))) := by kernel_rfl
theorem dpM6_ok [Sy] (hg : GlobOK Tryz.prog Sy.tab globs) : MemoOK Tryz.prog 46 dpM6 :=
  @memoOK_of _ Tryz.prog (Ed) (envD hg) (@idleD _) (@hooksD _) nameOK 46 3000 99 [] dpM6 dpM6_run rfl rfl (by decide)
def dpM7 : Memo := ⟨[.str [61, 73, 70, 40, 36, 65, 36, 49, 62, 50, 44, 67, 49, 44, 34, 120, 34, 41]], .bool true, []⟩
theorem dpM7_run : look [] 299 (callOf (Ed) (exec (Ed) 3000) 46 dpM7.al ⟨.leaf, 0⟩) = some (dpM7.v.ren (rn [] 299), dpM7.bs.map (Blk.ren (rn [] 299))) := by kernel_rfl
theorem dpM7_ok [Sy] (hg : GlobOK Tryz.prog Sy.tab globs) : MemoOK Tryz.prog 46 dpM7 :=
  @memoOK_of _ Tryz.prog (Ed) (envD hg) (@idleD _) (@hooksD _) nameOK 46 3000 299 [] dpM7 dpM7_run rfl rfl (by decide)
def dpM8 : Memo := ⟨[.str [61, 67, 33, 65, 49, 38, 34, 121, 34]], .bool true, []⟩
theorem dpM8_run : look [] 110 (callOf (Ed) (exec (Ed) 3000) 46 dpM8.al ⟨.leaf, 0⟩) = some (dpM8.v.ren (rn [] 110), dpM8.bs.map (Blk.ren (rn [] 110))) := by kernel_rfl
theorem dpM8_ok [Sy] (hg : GlobOK Tryz.prog Sy.tab globs) : MemoOK Tryz.prog 46 dpM8 :=
  @memoOK_of _ Tryz.prog (Ed) (envD hg) (@idleD _) (@hooksD _) nameOK 46 3000 110 [] dpM8 dpM8_run rfl rfl (by decide)
def dpM9 : Memo := ⟨[.str [61, 49, 47, 48]], .bool true, []⟩
theorem dpM9_run : look [] 87 (callOf (Ed) (exec (Ed) 3000) 46 dpM9.al ⟨.leaf, 0⟩) = some (dpM9.v.ren (rn [] 87), dpM9.bs.map (Blk.ren (rn [] 87))) := by kernel_rfl
theorem dpM9_ok [Sy] (hg : GlobOK Tryz.prog Sy.tab globs) : MemoOK Tryz.prog 46 dpM9 :=
  @memoOK_of _ Tryz.prog (Ed) (envD hg) (@idleD _) (@hooksD _) nameOK 46 3000 87 [] dpM9 dpM9_run rfl rfl (by decide)
def dpM10 : Memo := ⟨[.str [49]], .bool true, []⟩
theorem dpM10_run : look [] 1 (callOf (Ed) (exec (Ed) 3000) 46 dpM10.al ⟨.leaf, 0⟩) = some (dpM10.v.ren (rn [] 1), dpM10.bs.map (Blk.ren (rn [] 1))) := by kernel_rfl
theorem dpM10_ok [Sy] (hg : GlobOK Tryz.prog Sy.tab globs) : MemoOK Tryz.prog 46 dpM10 :=
  @memoOK_of _ Tryz.prog (Ed) (envD hg) (@idleD _) (@hooksD _) nameOK 46 3000 1 [] dpM10 dpM10_run rfl rfl (by decide)
def dpM11 : Memo := ⟨[.str [39, 98]], .bool true, []⟩
theorem dpM11_run : look [] 0 (callOf (Ed) (exec (Ed) 3000) 46 dpM11.al ⟨.leaf, 0⟩) = some (dpM11.v.ren (rn [] 0), dpM11.bs.map (Blk.ren (rn [] 0))) := by kernel_rfl
theorem dpM11_ok [Sy] (hg : GlobOK Tryz.prog Sy.tab globs) : MemoOK Tryz.prog 46 dpM11 :=
  @memoOK_of _ Tryz.prog (Ed) (envD hg) (@idleD _) (@hooksD _) nameOK 46 3000 0 [] dpM11 dpM11_run rfl rfl (by decide)
def dpM12 : Memo := ⟨[.str [61, 65, 50]], .bool true, []⟩
theorem dpM12_run : look [] 60 (callOf (Ed) (exec (Ed) 3000) 46 dpM12.al ⟨.leaf, 0⟩) = some (dpM12.v.ren (rn [] 60), dpM12.bs.map (Blk.ren (rn [] 60))) := by kernel_rfl
theorem dpM12_ok [Sy] (hg : GlobOK Tryz.prog Sy.tab globs) : MemoOK Tryz.prog 46 dpM12 :=
  @memoOK_of _ Tryz.prog (Ed) (envD hg) (@idleD _) (@hooksD _) nameOK 46 3000 60 [] dpM12 dpM12_run rfl rfl (by decide)
def dpM13 : Memo := ⟨[.str [61, 66, 50, 43, 49]], .bool true, []⟩
theorem dpM13_run : look [] 104 (callOf (Ed) (exec (Ed) 3000) 46 dpM13.al ⟨.leaf, 0⟩) = some (dpM13.v.ren (rn [] 104), dpM13.bs.map (Blk.ren (rn [] 104))) := by kernel_rfl
theorem dpM13_ok [Sy] (hg : GlobOK Tryz.prog Sy.tab globs) : MemoOK Tryz.prog 46 dpM13 :=
  @memoOK_of _ Tryz.prog (Ed) (envD hg) (@idleD _) (@hooksD _) nameOK 46 3000 104 [] dpM13 dpM13_run rfl rfl (by decide)
def dpM14 : Memo := ⟨[.str [61, 83, 85, 77, 40, 65, 49, 58, 66, 50, 41]], .bool true, []⟩
theorem dpM14_run : look [] 157 (callOf (Ed) (exec (Ed) 3000) 46 dpM14.al ⟨.leaf, 0⟩) = some (dpM14.v.ren (rn [] 157), dpM14.bs.map (Blk.ren (rn [] 157))) := by kernel_rfl
theorem dpM14_ok [Sy] (hg : GlobOK Tryz.prog Sy.tab globs) : MemoOK Tryz.prog 46 dpM14 :=
  @memoOK_of _ Tryz.prog (Ed) (envD hg) (@idleD _) (@hooksD _) nameOK 46 3000 157 [] dpM14 dpM14_run rfl rfl (by decide)
def dpM15 : Memo := ⟨[.str [61, 66, 33, 66, 50, 42, 50]], .bool true, []⟩
theorem dpM15_run : look [] 99 (callOf (Ed) (exec (Ed) 3000) 46 dpM15.al ⟨.leaf, 0⟩) = some (dpM15.v.ren (rn [] 99), dpM15.bs.map (Blk.ren (rn [] 99))) := by kernel_rfl
theorem dpM15_ok [Sy] (hg : GlobOK Tryz.prog Sy.tab globs) : MemoOK Tryz.prog 46 dpM15 :=
  @memoOK_of _ Tryz.prog (Ed) (envD hg) (@idleD _) (@hooksD _) nameOK 46 3000 99 [] dpM15 dpM15_run rfl rfl (by decide)
def dpM16 : Memo := ⟨[.str [61, 73, 70, 40, 36, 65, 36, 49, 62, 50, 44, 67, 50, 44, 34, 120, 34, 41]], .bool true, []⟩
theorem dpM16_run : look [] 299 (callOf (Ed) (exec (Ed) 3000) 46 dpM16.al ⟨.leaf, 0⟩) = some (dpM16.v.ren (rn [] 299), dpM16.bs.map (Blk.ren (rn [] 299))) := by kernel_rfl
theorem dpM16_ok [Sy] (hg : GlobOK Tryz.prog Sy.tab globs) : MemoOK Tryz.prog 46 dpM16 :=
  @memoOK_of _ Tryz.prog (Ed) (envD hg) (@idleD _) (@hooksD _) nameOK 46 3000 299 [] dpM16 dpM16_run rfl rfl (by decide)
def dpM17 : Memo := ⟨[.str [61, 49, 47, 49]], .bool true, []⟩
theorem dpM17_run : look [] 87 (callOf (Ed) (exec (Ed) 3000) 46 dpM17.al ⟨.leaf, 0⟩) = some (dpM17.v.ren (rn [] 87), dpM17.bs.map (Blk.ren (rn [] 87))) := by kernel_rfl
theorem dpM17_ok [Sy] (hg : GlobOK Tryz.prog Sy.tab globs) : MemoOK Tryz.prog 46 dpM17 :=
  @memoOK_of _ Tryz.prog (Ed) (envD hg) (@idleD _) (@hooksD _) nameOK 46 3000 87 [] dpM17 dpM17_run rfl rfl (by decide)
def dpM18 : Memo := ⟨[.str [50]], .bool true, []⟩
theorem dpM18_run : look [] 1 (callOf (Ed) (exec (Ed) 3000) 46 dpM18.al ⟨.leaf, 0⟩) = some (dpM18.v.ren (rn [] 1), dpM18.bs.map (Blk.ren (rn [] 1))) := by kernel_rfl
theorem dpM18_ok [Sy] (hg : GlobOK Tryz.prog Sy.tab globs) : MemoOK Tryz.prog 46 dpM18 :=
  @memoOK_of _ Tryz.prog (Ed) (envD hg) (@idleD _) (@hooksD _) nameOK 46 3000 1 [] dpM18 dpM18_run rfl rfl (by decide)
def dpM19 : Memo := ⟨[.str [39, 99]], .bool true, []⟩
theorem dpM19_run : look [] 0 (callOf (Ed) (exec (Ed) 3000) 46 dpM19.al ⟨.leaf, 0⟩) = some (dpM19.v.ren (rn [] 0), dpM19.bs.map (Blk.ren (rn [] 0))) := by kernel_rfl
theorem dpM19_ok [Sy] (hg : GlobOK Tryz.prog Sy.tab globs) : MemoOK Tryz.prog 46 dpM19 :=
  @memoOK_of _ Tryz.prog (Ed) (envD hg) (@idleD _) (@hooksD _) nameOK 46 3000 0 [] dpM19 dpM19_run rfl rfl (by decide)
def dpM20 : Memo := ⟨[.str [61, 65, 51]], .bool true, []⟩
theorem dpM20_run : look [] 60 (callOf (Ed) (exec (Ed) 3000) 46 dpM20.al ⟨.leaf, 0⟩) = some (dpM20.v.ren (rn [] 60), dpM20.bs.map (Blk.ren (rn [] 60))) := by kernel_rfl
theorem dpM20_ok [Sy] (hg : GlobOK Tryz.prog Sy.tab globs) : MemoOK Tryz.prog 46 dpM20 :=
  @memoOK_of _ Tryz.prog (Ed) (envD hg) (@idleD _) (@hooksD _) nameOK 46 3000 60 [] dpM20 dpM20_run rfl rfl (by decide)
def dpM21 : Memo := ⟨[.str [61, 66, 51, 43, 49]], .bool true, []⟩
theorem dpM21_run : look [] 104 (callOf (Ed) (exec (Ed) 3000) 46 dpM21.al ⟨.leaf, 0⟩) = some (dpM21.v.ren (rn [] 104), dpM21.bs.map (Blk.ren (rn [] 104))) := by kernel_rfl
theorem dpM21_ok [Sy] (hg : GlobOK Tryz.prog Sy.tab globs) : MemoOK Tryz.prog 46 dpM21 :=
  @memoOK_of _ Tryz.prog (Ed) (envD hg) (@idleD _) (@hooksD _) nameOK 46 3000 104 [] dpM21 dpM21_run rfl rfl (by decide)
def dpM22 : Memo := ⟨[.str [61, 83, 85, 77, 40, 65, 49, 58, 66, 51, 41]], .bool true, []⟩
theorem dpM22_run : look [] 157 (callOf (Ed) (exec (Ed) 3000) 46 dpM22.al ⟨.leaf, 0⟩) = some (dpM22.v.ren (rn [] 157), dpM22.bs.map (Blk.ren (rn [] 157))) := by kernel_rfl
theorem dpM22_ok [Sy] (hg : GlobOK Tryz.prog Sy.tab globs) : MemoOK Tryz.prog 46 dpM22 :=
  @memoOK_of _ Tryz.prog (Ed) (envD hg) (@idleD _) (@hooksD _) nameOK 46 3000 157 [] dpM22 dpM22_run rfl rfl (by decide)
def dpM23 : Memo := ⟨[.str [61, 66, 33, 67, 50, 42, 50]], .bool true, []⟩
theorem dpM23_run : look [] 99 (callOf (Ed) (exec (Ed) 3000) 46 dpM23.al ⟨.leaf, 0⟩) = some (dpM23.v.ren (rn [] 99), dpM23.bs.map (Blk.ren (rn [] 99))) := by kernel_rfl
theorem dpM23_ok [Sy] (hg : GlobOK Tryz.prog Sy.tab globs) : MemoOK Tryz.prog 46 dpM23 :=
  @memoOK_of _ Tryz.prog (Ed) (envD hg) (@idleD _) (@hooksD _) nameOK 46 3000 99 [] dpM23 dpM23_run rfl rfl (by decide)
def dpM24 : Memo := ⟨[.str [61, 73, 70, 40, 36, 65, 36, 49, 62, 50, 44, 67, 51, 44, 34, 120, 34, 41]], .bool true, []⟩
theorem dpM24_run : look [] 299 (callOf (Ed) (exec (Ed) 3000) 46 dpM24.al ⟨.leaf, 0⟩) = some (dpM24.v.ren (rn [] 299), dpM24.bs.map (Blk.ren (rn [] 299))) := by kernel_rfl
theorem dpM24_ok [Sy] (hg : GlobOK Tryz.prog Sy.tab globs) : MemoOK Tryz.prog 46 dpM24 :=
  @memoOK_of _ Tryz.prog (Ed) (envD hg) (@idleD _) (@hooksD _) nameOK 46 3000 299 [] dpM24 dpM24_run rfl rfl (by decide)
def dpM25 : Memo := ⟨[.str [51]], .bool true, []⟩
theorem dpM25_run : look [] 1 (callOf (Ed) (exec (Ed) 3000) 46 dpM25.al ⟨.leaf, 0⟩) = some (dpM25.v.ren (rn [] 1), dpM25.bs.map (Blk.ren (rn [] 1))) := by kernel_rfl
theorem dpM25_ok [Sy] (hg : GlobOK Tryz.prog Sy.tab globs) : MemoOK Tryz.prog 46 dpM25 :=
  @memoOK_of _ Tryz.prog (Ed) (envD hg) (@idleD _) (@hooksD _) nameOK 46 3000 1 [] dpM25 dpM25_run rfl rfl (by decide)
def dpM26 : Memo := ⟨[.str [39, 100]], .bool true, []⟩
theorem dpM26_run : look [] 0 (callOf (Ed) (exec (Ed) 3000) 46 dpM26.al ⟨.leaf, 0⟩) = some (dpM26.v.ren (rn [] 0), dpM26.bs.map (Blk.ren (rn [] 0))) := by kernel_rfl
theorem dpM26_ok [Sy] (hg : GlobOK Tryz.prog Sy.tab globs) : MemoOK Tryz.prog 46 dpM26 :=
  @memoOK_of _ Tryz.prog (Ed) (envD hg) (@idleD _) (@hooksD _) nameOK 46 3000 0 [] dpM26 dpM26_run rfl rfl (by decide)
def dpM27 : Memo := ⟨[.str [61, 65, 52]], .bool true, []⟩
theorem dpM27_run : look [] 60 (callOf (Ed) (exec (Ed) 3000) 46 dpM27.al ⟨.leaf, 0⟩) = some (dpM27.v.ren (rn [] 60), dpM27.bs.map (Blk.ren (rn [] 60))) := by kernel_rfl
theorem dpM27_ok [Sy] (hg : GlobOK Tryz.prog Sy.tab globs) : MemoOK Tryz.prog 46 dpM27 :=
  @memoOK_of _ Tryz.prog (Ed) (envD hg) (@idleD _) (@hooksD _) nameOK 46 3000 60 [] dpM27 dpM27_run rfl rfl (by decide)
def dpM28 : Memo := ⟨[.str [61, 66, 52, 43, 49]], .bool true, []⟩
theorem dpM28_run : look [] 104 (callOf (Ed) (exec (Ed) 3000) 46 dpM28.al ⟨.leaf, 0⟩) = some (dpM28.v.ren (rn [] 104), dpM28.bs.map (Blk.ren (rn [] 104))) := by kernel_rfl
theorem dpM28_ok [Sy] (hg : GlobOK Tryz.prog Sy.tab globs) : MemoOK Tryz.prog 46 dpM28 :=
  @memoOK_of _ Tryz.prog (Ed) (envD hg) (@idleD _) (@hooksD _) nameOK 46 3000 104 [] dpM28 dpM28_run rfl rfl (by decide)
def dpM29 : Memo := ⟨[.str [61, 83, 85, 77, 40, 65, 49, 58, 66, 52, 41]], .bool true, []⟩
theorem dpM29_run : look [] 157 (callOf (Ed) (exec (Ed) 3000) 46 dpM29.al ⟨.leaf, 0⟩) = some (dpM29.v.ren (rn [] 157), dpM29.bs.map (Blk.ren (rn [] 157))) := by kernel_rfl
theorem dpM29_ok [Sy] (hg : GlobOK Tryz.prog Sy.tab globs) : MemoOK Tryz.prog 46 dpM29 :=
  @memoOK_of _ Tryz.prog (Ed) (envD hg) (@idleD _) (@hooksD _) nameOK 46 3000 157 [] dpM29 dpM29_run rfl rfl (by decide)
def dpM30 : Memo := ⟨[.str [61, 66, 33, 68, 50, 42, 50]], .bool true, []⟩
theorem dpM30_run : look [] 99 (callOf (Ed) (exec (Ed) 3000) 46 dpM30.al ⟨.leaf, 0⟩) = some (dpM30.v.ren (rn [] 99), dpM30.bs.map (Blk.ren (rn [] 99))) := by kernel_rfl
theorem dpM30_ok [Sy] (hg : GlobOK Tryz.prog Sy.tab globs) : MemoOK Tryz.prog 46 dpM30 :=
  @memoOK_of _ Tryz.prog (Ed) (envD hg) (@idleD _) (@hooksD _) nameOK 46 3000 99 [] dpM30 dpM30_run rfl rfl (by decide)
def dpM31 : Memo := ⟨[.str [61, 73, 70, 40, 36, 65, 36, 49, 62, 50, 44, 67, 52, 44, 34, 120, 34, 41]], .bool true, []⟩
theorem dpM31_run : look [] 299 (callOf (Ed) (exec (Ed) 3000) 46 dpM31.al ⟨.leaf, 0⟩) = some (dpM31.v.ren (rn [] 299), dpM31.bs.map (Blk.ren (rn [] 299))) := by kernel_rfl
theorem dpM31_ok [Sy] (hg : GlobOK Tryz.prog Sy.tab globs) : MemoOK Tryz.prog 46 dpM31 :=
  @memoOK_of _ Tryz.prog (Ed) (envD hg) (@idleD _) (@hooksD _) nameOK 46 3000 299 [] dpM31 dpM31_run rfl rfl (by decide)
def dpM32 : Memo := ⟨[.str [52]], .bool true, []⟩
theorem dpM32_run : look [] 1 (callOf (Ed) (exec (Ed) 3000) 46 dpM32.al ⟨.leaf, 0⟩) = some (dpM32.v.ren (rn [] 1), dpM32.bs.map (Blk.ren (rn [] 1))) := by kernel_rfl
theorem dpM32_ok [Sy] (hg : GlobOK Tryz.prog Sy.tab globs) : MemoOK Tryz.prog 46 dpM32 :=
  @memoOK_of _ Tryz.prog (Ed) (envD hg) (@idleD _) (@hooksD _) nameOK 46 3000 1 [] dpM32 dpM32_run rfl rfl (by decide)
def dpM33 : Memo := ⟨[.str [39, 101]], .bool true, []⟩
theorem dpM33_run : look [] 0 (callOf (Ed) (exec (Ed) 3000) 46 dpM33.al ⟨.leaf, 0⟩) = some (dpM33.v.ren (rn [] 0), dpM33.bs.map (Blk.ren (rn [] 0))) := by kernel_rfl
theorem dpM33_ok [Sy] (hg : GlobOK Tryz.prog Sy.tab globs) : MemoOK Tryz.prog 46 dpM33 :=
  @memoOK_of _ Tryz.prog (Ed) (envD hg) (@idleD _) (@hooksD _) nameOK 46 3000 0 [] dpM33 dpM33_run rfl rfl (by decide)
def dpM34 : Memo := ⟨[.str [61, 65, 53]], .bool true, []⟩
theorem dpM34_run : look [] 60 (callOf (Ed) (exec (Ed) 3000) 46 dpM34.al ⟨.leaf, 0⟩) = some (dpM34.v.ren (rn [] 60), dpM34.bs.map (Blk.ren (rn [] 60))) := by kernel_rfl
theorem dpM34_ok [Sy] (hg : GlobOK Tryz.prog Sy.tab globs) : MemoOK Tryz.prog 46 dpM34 :=
  @memoOK_of _ Tryz.prog (Ed) (envD hg) (@idleD _) (@hooksD _) nameOK 46 3000 60 [] dpM34 dpM34_run rfl rfl (by decide)
def dpM35 : Memo := ⟨[.str [61, 83, 85, 77, 40, 65, 49, 58, 66, 53, 41]], .bool true, []⟩
theorem dpM35_run : look [] 157 (callOf (Ed) (exec (Ed) 3000) 46 dpM35.al ⟨.leaf, 0⟩) = some (dpM35.v.ren (rn [] 157), dpM35.bs.map (Blk.ren (rn [] 157))) := by kernel_rfl
theorem dpM35_ok [Sy] (hg : GlobOK Tryz.prog Sy.tab globs) : MemoOK Tryz.prog 46 dpM35 :=
  @memoOK_of _ Tryz.prog (Ed) (envD hg) (@idleD _) (@hooksD _) nameOK 46 3000 157 [] dpM35 dpM35_run rfl rfl (by decide)
def dpM36 : Memo := ⟨[.str [53]], .bool true, []⟩
theorem dpM36_run : look [] 1 (callOf (Ed) (exec (Ed) 3000) 46 dpM36.al ⟨.leaf, 0⟩) = some (dpM36.v.ren (rn [] 1), dpM36.bs.map (Blk.ren (rn [] 1))) := by kernel_rfl
theorem dpM36_ok [Sy] (hg : GlobOK Tryz.prog Sy.tab globs) : MemoOK Tryz.prog 46 dpM36 :=
  @memoOK_of _ Tryz.prog (Ed) (envD hg) (@idleD _) (@hooksD _) nameOK 46 3000 1 [] dpM36 dpM36_run rfl rfl (by decide)
def dpM37 : Memo := ⟨[.str [54]], .bool true, []⟩
theorem dpM37_run : look [] 1 (callOf (Ed) (exec (Ed) 3000) 46 dpM37.al ⟨.leaf, 0⟩) = some (dpM37.v.ren (rn [] 1), dpM37.bs.map (Blk.ren (rn [] 1))) := by kernel_rfl
theorem dpM37_ok [Sy] (hg : GlobOK Tryz.prog Sy.tab globs) : MemoOK Tryz.prog 46 dpM37 :=
  @memoOK_of _ Tryz.prog (Ed) (envD hg) (@idleD _) (@hooksD _) nameOK 46 3000 1 [] dpM37 dpM37_run rfl rfl (by decide)
def dpM38 : Memo := ⟨[.str [55]], .bool true, []⟩
theorem dpM38_run : look [] 1 (callOf (Ed) (exec (Ed) 3000) 46 dpM38.al ⟨.leaf, 0⟩) = some (dpM38.v.ren (rn [] 1), dpM38.bs.map (Blk.ren (rn [] 1))) := by kernel_rfl
theorem dpM38_ok [Sy] (hg : GlobOK Tryz.prog Sy.tab globs) : MemoOK Tryz.prog 46 dpM38 :=
  @memoOK_of _ Tryz.prog (Ed) (envD hg) (@idleD _) (@hooksD _) nameOK 46 3000 1 [] dpM38 dpM38_run rfl rfl (by decide)
def dpM39 : Memo := ⟨[.str [56]], .bool true, []⟩
theorem dpM39_run : look [] 1 (callOf (Ed) (exec (Ed) 3000) 46 dpM39.al ⟨.leaf, 0⟩) = some (dpM39.v.ren (rn [] 1), dpM39.bs.map (Blk.ren (rn [] 1))) := by kernel_rfl
theorem dpM39_ok [Sy] (hg : GlobOK Tryz.prog Sy.tab globs) : MemoOK Tryz.prog 46 dpM39 :=
  @memoOK_of _ Tryz.prog (Ed) (envD hg) (@idleD _) (@hooksD _) nameOK 46 3000 1 [] dpM39 dpM39_run rfl rfl (by decide)
def dpM : List Memo := [dpM0, dpM1, dpM2, dpM3, dpM4, dpM5, dpM6, dpM7, dpM8, dpM9, dpM10, dpM11, dpM12, dpM13, dpM14, dpM15, dpM16, dpM17, dpM18, dpM19, dpM20, dpM21, dpM22, dpM23, dpM24, dpM25, dpM26, dpM27, dpM28, dpM29, dpM30, dpM31, dpM32, dpM33, dpM34, dpM35, dpM36, dpM37, dpM38, dpM39]
theorem dpM_ok [Sy] (hg : GlobOK Tryz.prog Sy.tab globs) : ∀ m ∈ dpM, MemoOK Tryz.prog 46 m := by
  intro m hm
  simp only [dpM, List.mem_cons, List.not_mem_nil, or_false] at hm
  rcases hm with rfl | rfl | rfl | rfl | rfl | rfl | rfl | rfl | rfl | rfl | rfl | rfl | rfl | rfl | rfl | rfl | rfl | rfl | rfl | rfl | rfl | rfl | rfl | rfl | rfl | rfl | rfl | rfl | rfl | rfl | rfl | rfl | rfl | rfl | rfl | rfl | rfl | rfl | rfl | rfl
  · exact dpM0_ok hg
  · exact dpM1_ok hg
  · exact dpM2_ok hg
  · exact dpM3_ok hg
  · exact dpM4_ok hg
  · exact dpM5_ok hg
  · exact dpM6_ok hg
  · exact dpM7_ok hg
  · exact dpM8_ok hg
  · exact dpM9_ok hg
  · exact dpM10_ok hg
  · exact dpM11_ok hg
  · exact dpM12_ok hg
  · exact dpM13_ok hg
  · exact dpM14_ok hg
  · exact dpM15_ok hg
  · exact dpM16_ok hg
  · exact dpM17_ok hg
  · exact dpM18_ok hg
  · exact dpM19_ok hg
  · exact dpM20_ok hg
  · exact dpM21_ok hg
  · exact dpM22_ok hg
  · exact dpM23_ok hg
  · exact dpM24_ok hg
  · exact dpM25_ok hg
  · exact dpM26_ok hg
  · exact dpM27_ok hg
  · exact dpM28_ok hg
  · exact dpM29_ok hg
  · exact dpM30_ok hg
  · exact dpM31_ok hg
  · exact dpM32_ok hg
  · exact dpM33_ok hg
  · exact dpM34_ok hg
  · exact dpM35_ok hg
  · exact dpM36_ok hg
  · exact dpM37_ok hg
  · exact dpM38_ok hg
  · exact dpM39_ok hg
end
end VM
end Go.Proofs.YtlllhhjlfmhmlaaGreatDoor
