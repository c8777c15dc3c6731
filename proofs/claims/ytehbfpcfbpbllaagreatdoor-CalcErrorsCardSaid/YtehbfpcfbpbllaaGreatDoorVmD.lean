/- The machine of plain data: plans of regions whose order is drawn: what is static. No program in sight. -/
import Derived.Test.YtehbfpcfbpbllaaGreatDoorVmC
namespace Go.Proofs.YtehbfpcfbpbllaaGreatDoor.VM
open Go Go.RowKit
set_option linter.unusedSectionVars false
variable [Sy]
section
variable {E : Env} {t t' : Tm} {h h' : Hp}
theorem evs_congr : ∀ {l : List Operand}, (∀ x ∈ l, ev t x = ev t' x) → evs t l = evs t' l
  | [], _ => rfl
  | x :: r, he => by rw [evs, evs, he x (by simp), evs_congr (fun y hy => he y (by simp [hy]))]
theorem parts_congr : ∀ {l : List (Nat × Operand)}, (∀ p ∈ l, ev t p.2 = ev t' p.2) → parts t l = parts t' l
  | [], _ => rfl
  | (i, x) :: r, he => by rw [parts, parts, he (i, x) (by simp), parts_congr (fun y hy => he y (by simp [hy]))]
theorem evo_congr {o : Option Operand} (he : ∀ x ∈ o.toArray, ev t x = ev t' x) : evo t o = evo t' o := by
  cases o with
  | none => rfl
  | some x => rw [evo, evo, he x (by simp)]
theorem lop_congr {op : Op} (he : ∀ x ∈ op.operands, ev t x = ev t' x) : lop E t h op = lop E t' h op := by
  cases op <;> simp only [Op.operands] at he <;> simp only [lop]
  case move x => exact he x (by simp)
  case pick c a b => rw [lPick, lPick, he c (by simp), he a (by simp), he b (by simp)]
  case build ty ps => rw [lBuild, lBuild, parts_congr (fun p hp => he p.2 (by simp only [List.mem_toArray, List.mem_map]; exact ⟨p, hp, rfl⟩))]
  case load ty a => rw [lLoad, lLoad, he a (by simp)]
  case nilCheck x => rw [lNilCheck, lNilCheck, he x (by simp)]
  case binOp op ty x y yt => rw [lBin, lBin, he x (by simp), he y (by simp)]
  case unOp op ty x => rw [lUn, lUn, he x (by simp)]
  case convert s d x => rw [lConv, lConv, he x (by simp)]
  case makeInterface ty x => rw [lIface, lIface, he x (by simp)]
  case makeFunc f a c => rw [lFunc, lFunc, evs_congr (fun x hx => he x (by simp at hx ⊢; exact .inl hx)), evs_congr (fun x hx => he x (by simp at hx ⊢; exact .inr hx))]
  case slice ty x lo hi mx => rw [lSlice, lSlice, he x (by simp), evo_congr (fun y hy => he y (by simp at hy ⊢; simp [hy])), evo_congr (fun y hy => he y (by simp at hy ⊢; simp [hy])), evo_congr (fun y hy => he y (by simp at hy ⊢; simp [hy]))]
  case fieldAddr ty x f => rw [lFieldAddr, lFieldAddr, he x (by simp)]
  case field ty x f => rw [lField, lField, he x (by simp)]
  case indexAddr ty x i => rw [lIndexAddr, lIndexAddr, he x (by simp), he i (by simp)]
  case index ty x i => rw [lIndex, lIndex, he x (by simp), he i (by simp)]
  case lookup ty x k ok => rw [lLookup, lLookup, he x (by simp), he k (by simp)]
  case typeAssert x xt a ok => rw [lAssert, lAssert, he x (by simp)]
  case extract x i => rw [lExtract, lExtract, he x (by simp)]
  case call c =>
    obtain ⟨callee, args, ats⟩ := c
    rw [lCall, lCall]
    cases callee with
    | value f => rfl
    | invoke r n => rfl
    | builtin b =>
      simp only
      rw [evs_congr (fun x hx => he x (by simp only [Call.operands]; simpa using hx))]
theorem fop_congr {op : Op} (he : ∀ x ∈ op.operands, ev t x = ev t' x) : fop E t op = fop E t' op := by
  cases op <;> simp only [Op.operands] at he <;> simp only [fop]
  case box e x => rw [fBox, fBox, he x (by simp)]
  case buildSlice ty n ps => rw [fBuildSlice, fBuildSlice, parts_congr (fun p hp => he p.2 (by simp only [List.mem_toArray, List.mem_map]; exact ⟨p, hp, rfl⟩))]
  case convert s d x => rw [fConv, fConv, he x (by simp)]
  case makeSlice ty l c => rw [fMake, fMake, he l (by simp), he c (by simp)]
theorem lop_heap {op : Op} (hr : readsM op = false) : lop E t h op = lop E t h' op := by
  cases op <;> first | rfl | cases hr
theorem wantedV_congr {ops : List Oper} {o : Oper} (he : ∀ d ∈ looks ops o, (t.get d).getD undefV = (t'.get d).getD undefV) : wantedV t ops o.guard = wantedV t' ops o.guard := by
  cases hg : o.guard with
  | none => rfl
  | some p =>
    obtain ⟨j, q⟩ := p
    rw [wantedV, wantedV]
    cases h1 : ops[j]? with
    | none => rfl
    | some g =>
      cases h2 : g.dst with
      | none => simp [h2]
      | some d =>
        have : d ∈ looks ops o := by
          unfold looks
          rw [hg]
          simp only [h1, Option.bind_some, h2, Option.toList_some, List.mem_append, List.mem_singleton]
          exact .inr trivial
        simp only [Option.bind_some, h2, he d this]
theorem ev_congr {ops : List Oper} {o : Oper} (he : ∀ d ∈ looks ops o, (t.get d).getD undefV = (t'.get d).getD undefV) : ∀ x ∈ o.op.operands, ev t x = ev t' x := by
  intro x hx
  cases x with
  | tmp i =>
    have : i ∈ looks ops o := by
      unfold looks
      rw [List.mem_append]
      left
      exact List.mem_filterMap.2 ⟨.tmp i, by simpa using hx, rfl⟩
    simp only [ev, he i this]
  | const c => rfl
  | global g => rfl
  | func f => rfl
end
theorem same1_eq {a b : V} (h : same1 a b = true) : a = b := by
  unfold same1 at h
  split at h <;> (try (cases h; done)) <;> (try rfl)
  all_goals simp only [Bool.and_eq_true, beq_d, decide_eq_true_iff, seq_eq, beq_iff_eq, ieq_iff] at h
  · rw [h]
  · rw [keq_eq h.1, h.2]
  · rw [h]
  · rw [h.1, h.2]
  · obtain ⟨⟨⟨rfl, rfl⟩, rfl⟩, rfl⟩ := h; rfl
  · obtain ⟨⟨⟨⟨rfl, rfl⟩, rfl⟩, rfl⟩, rfl⟩ := h; rfl
  · rw [h]
  · rw [keq_eq h.1, h.2]
  · rw [h]
  · rw [h.1, h.2]
  · rw [h]
theorem sameL_eq : ∀ {a b : List V}, sameL a b = true → a = b
  | [], [], _ => rfl
  | a :: x, b :: y, h => by
    rw [sameL] at h
    cases h1 : same1 a b with
    | false => rw [h1] at h; cases h
    | true =>
      rw [h1] at h
      rw [same1_eq h1, sameL_eq h]
  | [], _ :: _, h => by cases h
  | _ :: _, [], h => by cases h
theorem sameV_eq {a b : V} (h : sameV a b = true) : a = b := by
  unfold sameV at h
  split at h
  · rw [sameL_eq h]
  · rw [sameL_eq h]
  · exact same1_eq h
theorem sameB_eq {a b : Blk} (h : sameB a b = true) : a = b := by
  unfold sameB at h
  split at h
  · simp only [Bool.and_eq_true, beq_d, decide_eq_true_iff, beq_iff_eq] at h
    obtain ⟨⟨h1, rfl⟩, rfl⟩ := h
    rw [sameL_eq h1]
  · simp only [beq_d, decide_eq_true_iff] at h
    rw [h]
  · cases h
/-! ### what comes ahead -/
def deps (o : Oper) (j : Nat) : Prop := ∃ e ∈ o.after.toList, Region.binds .any e = true ∧ e.on = j
inductive Reach (ops : List Oper) : Nat → Nat → Prop
  | one (i j : Nat) (o : Oper) : ops[i]? = some o → deps o j → Reach ops i j
  | more (i j k : Nat) (o : Oper) : ops[i]? = some o → deps o j → Reach ops j k → Reach ops i k
theorem afterAll_iff {l : Nat} : ∀ {es : List Edge}, afterAll l es = true ↔ ∀ e ∈ es, Region.binds .any e = true → Nat.testBit l e.on = true
  | [] => by simp [afterAll]
  | e :: r => by
    rw [afterAll]
    split
    · rename_i hb
      cases ht : Nat.testBit l e.on with
      | true => simp [hb, ht, afterAll_iff (es := r)]
      | false => simp [hb, ht]
    · rename_i hb
      simp [hb, afterAll_iff (es := r)]
theorem afterAll_deps {l : Nat} {o : Oper} : afterAll l o.after.toList = true ↔ ∀ j, deps o j → Nat.testBit l j = true := by
  rw [afterAll_iff]
  exact ⟨fun h j ⟨e, he, hb, hj⟩ => hj ▸ h e he hb, fun h e he hb => h _ ⟨e, he, hb, rfl⟩⟩
/-- a set that has with each what comes ahead of it -/
def Closed (ops : List Oper) (D : Nat → Prop) : Prop := ∀ i o, ops[i]? = some o → D i → ∀ j, deps o j → D j
theorem Reach.inD {ops : List Oper} {D : Nat → Prop} (hD : Closed ops D) {i j : Nat} (h : Reach ops i j) : (∀ o, ops[i]? = some o → ∀ k, deps o k → D k) → D j := by
  induction h with
  | one i j o ho hd => exact fun h => h o ho j hd
  | more i j k o ho hd hr ih => exact fun h => ih fun o' ho' q hq => hD j o' ho' (h o ho j hd) q hq
theorem maskOf_bit {ops : List Oper} {ms : List Nat} {k : Nat} (hms : ∀ i j, Nat.testBit (ms.getD i 0) j = true → Reach ops i j) {o : Oper} (ho : ops[k]? = some o) : ∀ (es : List Edge) (m : Nat), (∀ e ∈ es, e ∈ o.after.toList) → (∀ j, Nat.testBit m j = true → Reach ops k j) →
    ∀ j, Nat.testBit (maskOf ms es m) j = true → Reach ops k j
  | [], m, _, hm, j, h => hm j h
  | e :: r, m, hes, hm, j, h => by
    rw [maskOf] at h
    split at h
    · rename_i hb
      have hd : deps o e.on := ⟨e, hes e (by simp), hb, rfl⟩
      refine maskOf_bit hms ho r _ (fun x hx => hes x (by simp [hx])) (fun j hj => ?_) j h
      simp only [Nat.testBit_or, Bool.or_eq_true, Nat.testBit_two_pow, decide_eq_true_iff] at hj
      rcases hj with (hj | hj) | hj
      · exact hm j hj
      · subst hj; exact .one _ _ o ho hd
      · exact .more _ _ _ o ho hd (hms _ _ hj)
    · exact maskOf_bit hms ho r m (fun x hx => hes x (by simp [hx])) hm j h
theorem masks_bit {ops : List Oper} : ∀ (rest : List Oper) (ms : List Nat), ops.drop ms.length = rest → (∀ i j, Nat.testBit (ms.getD i 0) j = true → Reach ops i j) → ∀ i j, Nat.testBit ((masks rest ms).getD i 0) j = true → Reach ops i j
  | [], ms, _, h => h
  | o :: r, ms, hd, h => by
    rw [masks]
    have ho : ops[ms.length]? = some o := by have := congrArg List.head? hd; simpa using this
    have hr : ops.drop (ms.length + 1) = r := by have := congrArg List.tail hd; simpa using this
    refine masks_bit r _ (by simpa using hr) fun i j hj => ?_
    rw [List.getD_eq_getElem?_getD, List.getElem?_append] at hj
    split at hj
    · exact h i j (by rw [List.getD_eq_getElem?_getD]; exact hj)
    · rename_i hlt
      by_cases hi : i = ms.length
      · subst hi
        simp at hj
        exact maskOf_bit h ho _ 0 (fun e he => he) (fun j hj => by simp at hj) j (by simpa using hj)
      · have : i - ms.length ≠ 0 := by omega
        rw [List.getElem?_singleton, if_neg this] at hj
        simp at hj
theorem zipI_mem : ∀ (l : List Oper) (k i : Nat) (o : Oper), l[i]? = some o → (k + i, o) ∈ zipI l k
  | [], _, _, _, h => by simp at h
  | x :: r, k, 0, o, h => by simp at h; subst h; simp [zipI]
  | x :: r, k, i + 1, o, h => by
    simp only [List.getElem?_cons_succ] at h
    have := zipI_mem r (k + 1) i o h
    rw [zipI, List.mem_cons]
    right
    rw [show k + (i + 1) = k + 1 + i by omega]
    exact this
theorem edges_lt : ∀ (l : List Oper) (k i : Nat) (o : Oper), edgesOk l k = true → l[i]? = some o → ∀ j, deps o j → j < k + i
  | [], _, _, _, _, h => by simp at h
  | x :: r, k, 0, o, he, h => by
    simp at h; subst h
    rw [edgesOk, Bool.and_eq_true, List.all_eq_true] at he
    intro j ⟨e, h1, h2, h3⟩
    have := he.1 e h1
    rw [h2] at this
    simp only [Bool.not_true, Bool.false_or, blt_d, decide_eq_true_iff] at this
    omega
  | x :: r, k, i + 1, o, he, h => by
    rw [edgesOk, Bool.and_eq_true] at he
    simp only [List.getElem?_cons_succ] at h
    intro j hj
    have := edges_lt r (k + 1) i o he.2 h j hj
    omega
/-- what is looked over once and for all -/
structure Stat (ops : List Oper) (ms : List Nat) : Prop where
  lt : ∀ (i : Nat) (o : Oper), ops[i]? = some o → ∀ j, deps o j → j < i
  reach : ∀ i j, Nat.testBit (ms.getD i 0) j = true → Reach ops i j
  own : ∀ (i : Nat) (o : Oper) (d : Nat), ops[i]? = some o → o.dst = some d → isE o.op = false → d ∉ looks ops o
  look : ∀ (i j : Nat) (o p : Oper) (d : Nat), i ≠ j → ops[i]? = some o → ops[j]? = some p → p.dst = some d → d ∈ looks ops o → Nat.testBit (ms.getD i 0) j = true ∨ (isE p.op = true ∧ Nat.testBit (ms.getD j 0) i = true)
  slot : ∀ (i j : Nat) (o p : Oper) (d : Nat), i ≠ j → ops[i]? = some o → ops[j]? = some p → p.dst = some d → o.dst = some d → isE o.op = true ∧ isE p.op = true
/-- a plan, from what has come up -/
inductive PlanFrom (ops : List Oper) (ms : List Nat) : Nat → List PStep → Prop
  | nil (l : Nat) : (∀ i, i < ops.length → Nat.testBit l i = true) → PlanFrom ops ms l []
  | n (l i : Nat) (o : Oper) (r : List PStep) : ops[i]? = some o → Nat.testBit l i = false → isE o.op = false → (∀ j, deps o j → Nat.testBit l j = true) → PlanFrom ops ms (l ||| 2 ^ i) r → PlanFrom ops ms l (.n i o :: r)
  | e (l i : Nat) (o : Oper) (r : List PStep) : ops[i]? = some o → Nat.testBit l i = false → isE o.op = true → (∀ j, deps o j → Nat.testBit l j = true) → (∀ k p, ops[k]? = some p → Nat.testBit l k = false → (∀ j, deps p j → Nat.testBit l j = true) → k = i) →
      PlanFrom ops ms (l ||| 2 ^ i) r → PlanFrom ops ms l (.e i o (ms.getD i 0) :: r)
theorem allBits_all : ∀ {n l : Nat}, allBits n l = true → ∀ i, i < n → Nat.testBit l i = true
  | 0, _, _, _, h => by omega
  | n + 1, l, h, i, hi => by
    rw [allBits, Bool.and_eq_true] at h
    by_cases e : i = n
    · subst e; exact h.1
    · exact allBits_all h.2 i (by omega)
theorem only_spec : ∀ (r : List Oper) (k l i q : Nat) (p : Oper), only r k l i = true → r[q]? = some p → Nat.testBit l (k + q) = false → (∀ j, deps p j → Nat.testBit l j = true) → k + q = i
  | [], _, _, _, _, _, _, h, _, _ => by simp at h
  | x :: r, k, l, i, 0, p, ho, h, hl, hd => by
    simp at h; subst h
    rw [only, Bool.and_eq_true] at ho
    have h2 := afterAll_deps.2 hd
    simp only [Nat.add_zero] at hl ⊢
    rw [hl, h2] at ho
    simpa [beq_d] using ho.1
  | x :: r, k, l, i, q + 1, p, ho, h, hl, hd => by
    rw [only, Bool.and_eq_true] at ho
    simp only [List.getElem?_cons_succ] at h
    have := only_spec r (k + 1) l i q p ho.2 h (by rw [show k + 1 + q = k + (q + 1) by omega]; exact hl) hd
    omega
theorem build_plan {ops : List Oper} {ms : List Nat} : ∀ {idx : List Nat} {l : Nat} {p : List PStep}, build ops ms l idx = some p → PlanFrom ops ms l p
  | [], l, p, h => by
    rw [build] at h
    cases hb : allBits ops.length l with
    | false => rw [hb] at h; cases h
    | true => rw [hb] at h; cases h; exact .nil l (allBits_all hb)
  | i :: r, l, p, h => by
    rw [build] at h
    split at h
    · cases h
    · rename_i o ho
      cases hb : (!Nat.testBit l i && afterAll l o.after.toList) with
      | false => rw [hb] at h; cases h
      | true =>
        rw [hb] at h
        simp only [cond_true] at h
        rw [Bool.and_eq_true, Bool.not_eq_true'] at hb
        have hd := afterAll_deps.1 hb.2
        split at h
        · cases h
        · rename_i q hq
          have ih := build_plan hq
          split at h
          · rename_i he
            cases h
            exact .n l i o q ho hb.1 he hd ih
          · rename_i he
            cases hon : only ops 0 l i with
            | false => rw [hon] at h; cases h
            | true =>
              rw [hon] at h
              cases h
              refine .e l i o q ho hb.1 he hd (fun k p hk hl hd => ?_) ih
              have := only_spec ops 0 l i k p hon hk (by rw [Nat.zero_add]; exact hl) hd
              omega
theorem planOf_spec {ops : List Oper} {p : List PStep} (h : planOf ops = some p) : ∃ ms, Stat ops ms ∧ PlanFrom ops ms 0 p := by
  unfold planOf at h
  generalize hms : masks ops [] = ms at h
  simp only at h
  cases hb : (edgesOk ops 0 && ((zipI ops 0).all fun x => (zipI ops 0).all fun y => apart2 ops ms x.1 x.2 y.1 y.2)) with
  | false => rw [hb] at h; cases h
  | true =>
    rw [hb] at h
    simp only [cond_true] at h
    rw [Bool.and_eq_true] at hb
    have hap : ∀ i j o p, ops[i]? = some o → ops[j]? = some p → apart2 ops ms i o j p = true := fun i j o p hi hj => by
      have h1 := zipI_mem ops 0 i o hi
      have h2 := zipI_mem ops 0 j p hj
      rw [Nat.zero_add] at h1 h2
      exact List.all_eq_true.1 (List.all_eq_true.1 hb.2 _ h1) _ h2
    refine ⟨ms, ⟨fun i o hi j hj => ?_, fun i j hj => ?_, fun i o d hi hd hE => ?_, fun i j o p d hne hi hj hd hl => ?_, fun i j o p d hne hi hj hd ho => ?_⟩, build_plan h⟩
    · have := edges_lt ops 0 i o hb.1 hi j hj; omega
    · rw [← hms] at hj
      exact masks_bit ops [] rfl (fun i j hj => by simp at hj) i j hj
    · have := hap i i o o hi hi
      unfold apart2 at this
      rw [hd] at this
      simp only [beq_d, decide_true, cond_true, hE, Bool.or_false, Bool.not_eq_true'] at this
      intro hm
      rw [List.contains_iff_mem.2 hm] at this
      cases this
    · have := hap i j o p hi hj
      unfold apart2 at this
      rw [hd] at this
      simp only [beq_d, hne, decide_false, cond_false, List.contains_iff_mem.2 hl, cond_true, Bool.and_eq_true, Bool.or_eq_true] at this
      exact this.1
    · have := hap i j o p hi hj
      unfold apart2 at this
      rw [hd, ho] at this
      simp only [beq_d, hne, decide_false, cond_false, decide_true, cond_true] at this
      cases hc : (looks ops o).contains d with
      | true => rw [hc] at this; simp only [cond_true, Bool.and_eq_true] at this; exact this.2
      | false => rw [hc] at this; simp only [cond_false, Bool.and_eq_true] at this; exact this
end Go.Proofs.YtehbfpcfbpbllaaGreatDoor.VM
