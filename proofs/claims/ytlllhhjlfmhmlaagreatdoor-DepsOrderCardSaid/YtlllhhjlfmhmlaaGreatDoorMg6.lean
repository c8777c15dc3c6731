/- What a label asks for, given, the function answers: operations, regions, code, functions. No program in sight. · Labels: what a label asks for, given, the function answers from there on. No program in sight. · Laws for the conditions of labels: operations on whole numbers, texts, truths; slices that read as lists. No program in sight. · Laws for the conditions of labels: memory that goes on, slices that read as lists, slices of one's own. No program in sight. · Laws for the conditions of labels: boxes, structs. No program in sight. · Laws for the conditions of labels: maps whose keys are told apart. No program in sight. · Cells of a book in their order; a heap of them: what comes first is ahead of all, and nothing is lost. No program in sight. -/
import Derived.Test.YtlllhhjlfmhmlaaGreatDoorMg5
namespace Go.Proofs.YtlllhhjlfmhmlaaGreatDoor.VM
open Go
noncomputable section
variable {E : Env} {t : Tm} {s : Sl} {n : Nat} {h : Hp}
theorem guard_none {ops : List Oper} {g : Option (Nat × Bool)} (hg : guardOf ops g = some none) : wantedV t ops g = some true := by
  unfold guardOf at hg
  split at hg
  · rfl
  · split at hg
    · split at hg <;> cases hg
    · cases hg
theorem guard_some (R : RelT t s n) {ops : List Oper} {g : Option (Nat × Bool)} {i : Nat} {w : Bool} (hg : guardOf ops g = some (some (i, w))) : wantedV t ops g = wantV (nth s i) w := by
  unfold guardOf at hg
  split at hg
  · cases hg
  · rename_i j w'
    split at hg
    · rename_i o ho
      split at hg
      · rename_i d hd
        cases hg
        rw [wantedV, ho, Option.bind_some, hd, Option.bind_some]
        rw [R.at_]
        rfl
      · cases hg
    · cases hg
theorem opK_out (R : RelT t s n) {ops : List Oper} {o : Oper} {d : Dl} {k : Sl → Hp → Dl → Prop} (hk : opK (Pu E) E ops o s h d k) :
    ∃ t' s' h' d', (∃ m, opStep E (callOf E (exec E m)) ops o ⟨t, h, d, n⟩ = some ⟨t', h', d', n⟩) ∧ RelT t' s' n ∧ k s' h' d' := by
  unfold opK at hk
  have viaE : ∀ {v : V} {h' : Hp} (hE : isE o.op = true) (hw : wantedV t ops o.guard = some true), (∀ (d : Dl) (dst : Option Tmp) (x : St), St.put ⟨t, h, d, n⟩ dst v h' = some x → onNxs E ⟨t, h, d, n⟩ dst (eop E t h o.op) x) → putK s o.dst v (fun s' => k s' h' d) →
      ∃ t' s' h' d', (∃ m, opStep E (callOf E (exec E m)) ops o ⟨t, h, d, n⟩ = some ⟨t', h', d', n⟩) ∧ RelT t' s' n ∧ k s' h' d' := by
    intro v h' hE hw h2 hp
    obtain ⟨t', s', h3, h4, h5⟩ := putK_out R hp h h' d
    obtain ⟨m, h6⟩ := onNxs_some (h2 d o.dst _ h3)
    exact ⟨t', s', h', d, ⟨m, by rw [opStep, hE]; simp only; rw [eStep]; simp only; rw [hw, Option.bind_some]; exact h6⟩, h4, h5⟩
  have viaL : ∀ {v : V} (hE : isE o.op = false) (hw : wantedV t ops o.guard = some true), lop E t h o.op = some v → putK s o.dst v (fun s' => k s' h d) →
      ∃ t' s' h' d', (∃ m, opStep E (callOf E (exec E m)) ops o ⟨t, h, d, n⟩ = some ⟨t', h', d', n⟩) ∧ RelT t' s' n ∧ k s' h' d' := by
    intro v hE hw h2 hp
    obtain ⟨t', s', h3, h4, h5⟩ := putK_out R hp h h d
    exact ⟨t', s', h, d, ⟨0, by rw [opStep, hE]; simp only; rw [nStep]; simp only; rw [hw, Option.bind_some, prOf, h2, Option.bind_some]; exact h3⟩, h4, h5⟩
  have viaF : ∀ {r : Fr} {b : Blk} (hE : isE o.op = false) (hw : wantedV t ops o.guard = some true), fop E t o.op = some (r, b) → lop E t h o.op = none → putK s o.dst (r.at h.n) (fun s' => k s' (h.new b) d) →
      ∃ t' s' h' d', (∃ m, opStep E (callOf E (exec E m)) ops o ⟨t, h, d, n⟩ = some ⟨t', h', d', n⟩) ∧ RelT t' s' n ∧ k s' h' d' := by
    intro r b hE hw h2 h2' hp
    obtain ⟨t', s', h3, h4, h5⟩ := putK_out R hp h (h.new b) d
    exact ⟨t', s', h.new b, d, ⟨0, by rw [opStep, hE]; simp only; rw [nStep]; simp only; rw [hw, Option.bind_some, prOf, h2', h2, Option.bind_some]; exact h3⟩, h4, h5⟩
  have viaN : (hw : wantedV t ops o.guard = some false) → putK s o.dst undefV (fun s' => k s' h d) →
      ∃ t' s' h' d', (∃ m, opStep E (callOf E (exec E m)) ops o ⟨t, h, d, n⟩ = some ⟨t', h', d', n⟩) ∧ RelT t' s' n ∧ k s' h' d' := by
    intro hw hp
    obtain ⟨t', s', h3, h4, h5⟩ := putK_out R hp h h d
    refine ⟨t', s', h, d, ⟨0, ?_⟩, h4, h5⟩
    rw [opStep]
    cases isE o.op with
    | true => simp only; rw [eStep]; simp only; rw [hw, Option.bind_some]; exact h3
    | false => simp only; rw [nStep]; simp only; rw [hw, Option.bind_some, Option.bind_some]; exact h3
  split at hk
  · exact hk.elim
  · rename_i hg
    have hw := guard_none (t := t) hg
    split at hk
    · rename_i c hop
      split at hk
      · rename_i f hc
        obtain ⟨al, h1, hk⟩ := evsK_out R hk
        obtain ⟨fv, h2, ⟨g, xs⟩, h3, h4⟩ := evK_out R hk
        obtain ⟨t', s', h5, h6, h7⟩ := putK_out R h4 h h ((g, xs) :: d)
        refine ⟨t', s', h, (g, xs) :: d, ⟨0, ?_⟩, h6, h7⟩
        have hE : isE o.op = true := by rw [hop]; rfl
        rw [opStep, hE]
        simp only
        rw [eStep]
        simp only
        rw [hw, Option.bind_some]
        simp only
        have : eop E t h o.op = some (.dfr g xs, h) := by
          rw [hop]
          show eDefer t h c = _
          rw [eDefer, hc]
          simp only
          rw [h1, Option.bind_some, h2, Option.bind_some, h3, Option.bind_some]
        rw [this]
        exact h5
      · exact hk.elim
    · rename_i op hne
      cases hE : isE o.op with
      | true =>
        rw [hE] at hk
        simp only [cond_true] at hk
        obtain ⟨v, h', h1, h2⟩ := effK_out R hk
        exact viaE hE hw h2 h1
      | false =>
        rw [hE] at hk
        simp only [cond_false] at hk
        cases hF : isF E o.op with
        | true =>
          rw [hF] at hk
          simp only [cond_true] at hk
          obtain ⟨r, b, h1, h2, h3⟩ := fopK_out R hF hk
          exact viaF hE hw h1 h2 h3
        | false =>
          rw [hF] at hk
          simp only [cond_false] at hk
          obtain ⟨v, h1, h2⟩ := lopK_out R hk
          exact viaL hE hw h1 h2
  · rename_i g w hg
    have hw := guard_some R hg
    cases hE : isE o.op with
    | true =>
      rw [hE] at hk
      obtain ⟨c, h1, h2, h3⟩ := hk
      rw [h1] at hw
      cases c with
      | true =>
        obtain ⟨v, h', h4, h5⟩ := effK_out R (h2 rfl)
        exact viaE hE hw h5 h4
      | false => exact viaN hw (h3 rfl)
    | false =>
      rw [hE] at hk
      simp only [cond_false] at hk
      cases hF : isF E o.op with
      | true =>
        rw [hF] at hk
        obtain ⟨c, h1, h2, h3⟩ := hk
        rw [h1] at hw
        cases c with
        | true =>
          obtain ⟨r, b, h4, h5, h6⟩ := fopK_out R hF (h2 rfl)
          exact viaF hE hw h4 h5 h6
        | false => exact viaN hw (h3 rfl)
      | false =>
        rw [hF] at hk
        obtain ⟨c, h1, h2, h3⟩ := hk
        rw [h1] at hw
        cases c with
        | true =>
          obtain ⟨v, h4, h5⟩ := lopK_out R (h2 rfl)
          exact viaL hE hw h4 h5
        | false => exact viaN hw (h3 rfl)
theorem opsK_out {ops : List Oper} : ∀ {l : List Oper} {t : Tm} {s : Sl} {h : Hp} {d : Dl} {k : Sl → Hp → Dl → Prop}, RelT t s n → opsK (Pu E) E ops l s h d k →
    ∃ t' s' h' d', (∃ m, opsRun E (callOf E (exec E m)) ops l ⟨t, h, d, n⟩ = some ⟨t', h', d', n⟩) ∧ RelT t' s' n ∧ k s' h' d'
  | [], t, s, h, d, k, R, hk => ⟨t, s, h, d, ⟨0, rfl⟩, R, hk⟩
  | o :: l, t, s, h, d, k, R, hk => by
    rw [opsK_cons] at hk
    obtain ⟨t1, s1, h1, d1, a1, R1, hk⟩ := opK_out R hk
    obtain ⟨t2, s2, h2, d2, a2, R2, hk⟩ := opsK_out R1 hk
    exact ⟨t2, s2, h2, d2, ops_cons a1 a2, R2, hk⟩
/-- what waits, on both sides -/
def prOfK : PRk → PR → Prop
  | .skip, .skip => True
  | .l v, .l u => v = u
  | .f i b, .f _ c j => i = j ∧ b = c
  | .g b w v, p => ∃ c, wantV b w = some c ∧ (c = true → p = .l v) ∧ (c = false → p = .skip)
  | _, _ => False
def pdOK : List (Nat × Oper × PRk) → List (Nat × Oper × PR) → Prop
  | [], [] => True
  | x :: r, y :: q => x.1 = y.1 ∧ x.2.1 = y.2.1 ∧ prOfK x.2.2 y.2.2 ∧ pdOK r q
  | _, _ => False
theorem pdOK.filter (f : Nat → Bool) : ∀ {a : List (Nat × Oper × PRk)} {b : List (Nat × Oper × PR)}, pdOK a b → pdOK (a.filter fun x => f x.1) (b.filter fun x => f x.1)
  | [], [], _ => trivial
  | [], _ :: _, h => h.elim
  | _ :: _, [], h => h.elim
  | x :: r, y :: q, h => by
    obtain ⟨h1, h2, h3, h4⟩ := h
    rw [List.filter_cons, List.filter_cons, h1]
    split
    · exact ⟨h1, h2, h3, h4.filter f⟩
    · exact h4.filter f
theorem reK_out (R : RelT t s n) {x : Nat × Oper × PRk} {y : Nat × Oper × PR} {k : Prop} {d : Dl} (h2 : x.2.1 = y.2.1) (h3 : prOfK x.2.2 y.2.2) (hk : reK (Pu E) s h x k) : still E ⟨t, h, d, n⟩ y = true ∧ k := by
  obtain ⟨i, o, r⟩ := x
  obtain ⟨j, o', q⟩ := y
  simp only at h2 h3
  subst h2
  cases r with
  | skip =>
    cases q <;> first | exact h3.elim | exact ⟨rfl, hk⟩
  | l v =>
    cases q <;> first | exact h3.elim | skip
    rename_i u
    cases h3
    simp only [reK] at hk
    simp only [still]
    cases hr : readsM o.op with
    | false => rw [hr] at hk; exact ⟨rfl, hk⟩
    | true =>
      rw [hr] at hk
      obtain ⟨u, h4, h5, h6⟩ := lopK_out R hk
      simp only [cond_true, h4]
      exact ⟨h5, h6⟩
  | f id b =>
    cases q <;> first | exact h3.elim | skip
    obtain ⟨h3, h4⟩ := h3
    subst h3 h4
    simp only [reK] at hk
    obtain ⟨⟨c, h5, h6⟩, h7⟩ := hk
    simp only [still]
    rw [h5]
    exact ⟨h6, h7⟩
  | g b w v =>
    obtain ⟨c, h4, h5, h6⟩ := h3
    simp only [reK] at hk
    cases c with
    | false =>
      obtain rfl := h6 rfl
      refine ⟨rfl, ?_⟩
      cases hr : readsM o.op with
      | false => rw [hr] at hk; exact hk
      | true =>
        rw [hr] at hk
        obtain ⟨c', h7, _, h8⟩ := hk
        rw [h4] at h7
        cases h7
        exact h8 rfl
    | true =>
      obtain rfl := h5 rfl
      simp only [still]
      cases hr : readsM o.op with
      | false => rw [hr] at hk; exact ⟨rfl, hk⟩
      | true =>
        rw [hr] at hk
        obtain ⟨c', h7, h8, _⟩ := hk
        rw [h4] at h7
        cases h7
        obtain ⟨u, h9, h10, h11⟩ := lopK_out R (h8 rfl)
        simp only [cond_true, h9]
        exact ⟨h10, h11⟩
theorem reAll_out (R : RelT t s n) {d : Dl} : ∀ {a : List (Nat × Oper × PRk)} {b : List (Nat × Oper × PR)} {k : Prop}, pdOK a b → reAll (Pu E) s h a k → b.all (still E ⟨t, h, d, n⟩) = true ∧ k
  | [], [], _, _, hk => ⟨rfl, hk⟩
  | [], _ :: _, _, h, _ => h.elim
  | _ :: _, [], _, h, _ => h.elim
  | x :: r, y :: q, k, hp, hk => by
    obtain ⟨h1, h2, h3, h4⟩ := hp
    rw [reAll_cons] at hk
    obtain ⟨h5, h6⟩ := reK_out (d := d) R h2 h3 hk
    obtain ⟨h7, h8⟩ := reAll_out R (d := d) h4 h6
    exact ⟨by rw [List.all_cons, h5, h7]; rfl, h8⟩
theorem nK_out (R : RelT t s n) {ops : List Oper} {o : Oper} {k : PRk → V → Hp → Prop} {d : Dl} (hk : nK (Pu E) E ops o s h k) :
    ∃ pk p v h', nStep E ops o ⟨t, h, d, n⟩ = some p ∧ prOfK pk p ∧ k pk v h' ∧ ∀ dst, St.take ⟨t, h, d, n⟩ dst p = St.put ⟨t, h, d, n⟩ dst v h' := by
  have go : wantedV t ops o.guard = some true → (bif isF E o.op then fopK (Pu E) s h o.op (fun v h' b => k (.f h.n b) v h') else lopK (Pu E) s h o.op fun v => k (.l v) v h) →
      ∃ pk p v h', nStep E ops o ⟨t, h, d, n⟩ = some p ∧ prOfK pk p ∧ k pk v h' ∧ ∀ dst, St.take ⟨t, h, d, n⟩ dst p = St.put ⟨t, h, d, n⟩ dst v h' := by
    intro hw hk
    cases hF : isF E o.op with
    | true =>
      rw [hF] at hk
      obtain ⟨r, b, h1, h2, h3⟩ := fopK_out R hF hk
      exact ⟨.f h.n b, .f r b h.n, r.at h.n, h.new b, by rw [nStep]; simp only; rw [hw, Option.bind_some, prOf, h2, h1], ⟨rfl, rfl⟩, h3, fun _ => rfl⟩
    | false =>
      rw [hF] at hk
      obtain ⟨v, h1, h2⟩ := lopK_out R hk
      exact ⟨.l v, .l v, v, h, by rw [nStep]; simp only; rw [hw, Option.bind_some, prOf, h1], rfl, h2, fun _ => rfl⟩
  have no : wantedV t ops o.guard = some false → k .skip undefV h →
      ∃ pk p v h', nStep E ops o ⟨t, h, d, n⟩ = some p ∧ prOfK pk p ∧ k pk v h' ∧ ∀ dst, St.take ⟨t, h, d, n⟩ dst p = St.put ⟨t, h, d, n⟩ dst v h' := by
    intro hw hk
    exact ⟨.skip, .skip, undefV, h, by rw [nStep]; simp only; rw [hw, Option.bind_some], trivial, hk, fun _ => rfl⟩
  unfold nK at hk
  split at hk
  · exact hk.elim
  · rename_i hg
    exact go (guard_none hg) hk
  · rename_i g w hg
    have hw := guard_some R hg
    cases hF : isF E o.op with
    | true =>
      rw [hF] at hk go
      simp only [cond_true] at hk go
      obtain ⟨c, h1, h2, h3⟩ := hk
      have hw' : wantedV t ops o.guard = some (c == w) := by rw [hw, h1]; rfl
      cases c with
      | true =>
        have h2 := h2 rfl
        cases w with
        | true => exact go hw' h2
        | false => exact no hw' h2
      | false =>
        have h3 := h3 rfl
        cases w with
        | true => exact no hw' h3
        | false => exact go hw' h3
    | false =>
      rw [hF] at hk
      obtain ⟨c, h1, h2, h3⟩ := hk
      rw [h1] at hw
      cases c with
      | true =>
        obtain ⟨v, h4, h5⟩ := lopK_out R (h2 rfl)
        exact ⟨.g (nth s g) w v, .l v, v, h, by rw [nStep]; simp only; rw [hw, Option.bind_some, prOf, h4], ⟨true, h1, fun _ => rfl, by simp⟩, h5, fun _ => rfl⟩
      | false => exact ⟨.g (nth s g) w undefV, .skip, undefV, h, by rw [nStep]; simp only; rw [hw, Option.bind_some], ⟨false, h1, by simp, fun _ => rfl⟩, h3 rfl, fun _ => rfl⟩
theorem eK_out (R : RelT t s n) {ops : List Oper} {o : Oper} {k : V → Hp → Prop} {d : Dl} (hk : eK (Pu E) ops o s h k) :
    ∃ v h', k v h' ∧ ∀ x, St.put ⟨t, h, d, n⟩ o.dst v h' = some x → ∃ m, eStep E (callOf E (exec E m)) ops o ⟨t, h, d, n⟩ = some x := by
  have go : wantedV t ops o.guard = some true → effK (Pu E) s h o.op k → ∃ v h', k v h' ∧ ∀ x, St.put ⟨t, h, d, n⟩ o.dst v h' = some x → ∃ m, eStep E (callOf E (exec E m)) ops o ⟨t, h, d, n⟩ = some x := by
    intro hw hk
    obtain ⟨v, h', h1, h2⟩ := effK_out R hk
    refine ⟨v, h', h1, fun x hx => ?_⟩
    obtain ⟨m, h3⟩ := onNxs_some (h2 d o.dst x hx)
    exact ⟨m, by rw [eStep]; simp only; rw [hw, Option.bind_some]; exact h3⟩
  unfold eK at hk
  split at hk
  · exact hk.elim
  · rename_i hg
    exact go (guard_none hg) hk
  · rename_i g w hg
    have hw := guard_some R hg
    obtain ⟨c, h1, h2, h3⟩ := hk
    rw [h1] at hw
    cases c with
    | true => exact go hw (h2 rfl)
    | false => exact ⟨undefV, h, h3 rfl, fun x hx => ⟨0, by rw [eStep]; simp only; rw [hw, Option.bind_some]; exact hx⟩⟩
theorem leftK_eq (m : Nat) : ∀ (l : List (Nat × Oper × PRk)) (k : List (Nat × Oper × PRk) → Prop), leftK m l k = k (l.filter fun x => !Nat.testBit m x.1)
  | [], _ => rfl
  | x :: r, k => by
    have e : leftK m (x :: r) k = Bool.rec (motive := fun _ => Prop) (leftK m r fun r => k (x :: r)) (leftK m r k) (Nat.testBit m x.1) := rfl
    rw [e, leftK_eq m r, leftK_eq m r, List.filter_cons]
    cases Nat.testBit m x.1 <;> rfl
theorem planK_out {ops : List Oper} : ∀ {l : List PStep} {pd : List (Nat × Oper × PRk)} {qd : List (Nat × Oper × PR)} {t : Tm} {s : Sl} {h : Hp} {d : Dl} {k : Sl → Hp → Dl → Prop}, RelT t s n → pdOK pd qd → planK (Pu E) E ops l pd s h d k →
    ∃ t' s' h' d', (∃ m, planRun E (callOf E (exec E m)) ops l qd ⟨t, h, d, n⟩ = some ⟨t', h', d', n⟩) ∧ RelT t' s' n ∧ k s' h' d'
  | [], _, _, t, s, h, d, _, R, _, hk => ⟨t, s, h, d, ⟨0, rfl⟩, R, hk⟩
  | .n i o :: l, pd, qd, t, s, h, d, k, R, hp, hk => by
    rw [planK_n] at hk
    obtain ⟨pk, p, v, h1, a1, a2, a3, a4⟩ := nK_out (d := d) R hk
    obtain ⟨t1, s1, b1, R1, hk⟩ := putK_out R a3 h h1 d
    rw [← a4] at b1
    cases pk with
    | f id b =>
      obtain ⟨c1, c2⟩ := reAll_out R1 (d := d) hp hk
      cases p with
      | f r c j =>
        obtain ⟨t2, s2, h2, d2, e1, R2, hk⟩ := planK_out (pd := (i, o, .f id b) :: pd) (qd := (i, o, .f r c j) :: qd) R1 ⟨rfl, rfl, a2, hp⟩ c2
        exact ⟨t2, s2, h2, d2, plan_n a1 b1 c1 e1, R2, hk⟩
      | skip => exact a2.elim
      | l u => exact a2.elim
    | l v =>
      cases p with
      | l u =>
        obtain ⟨t2, s2, h2, d2, e1, R2, hk⟩ := planK_out (pd := (i, o, .l v) :: pd) (qd := (i, o, .l u) :: qd) R1 ⟨rfl, rfl, a2, hp⟩ hk
        exact ⟨t2, s2, h2, d2, plan_n a1 b1 rfl e1, R2, hk⟩
      | skip => exact a2.elim
      | f r c j => exact a2.elim
    | g b w u =>
      obtain ⟨c, c1, c2, c3⟩ := a2
      cases c with
      | true =>
        obtain rfl := c2 rfl
        obtain ⟨t2, s2, h2, d2, e1, R2, hk⟩ := planK_out (pd := (i, o, .g b w u) :: pd) (qd := (i, o, .l u) :: qd) R1 ⟨rfl, rfl, ⟨true, c1, fun _ => rfl, by simp⟩, hp⟩ hk
        exact ⟨t2, s2, h2, d2, plan_n a1 b1 rfl e1, R2, hk⟩
      | false =>
        obtain rfl := c3 rfl
        obtain ⟨t2, s2, h2, d2, e1, R2, hk⟩ := planK_out (pd := (i, o, .g b w u) :: pd) (qd := (i, o, .skip) :: qd) R1 ⟨rfl, rfl, ⟨false, c1, by simp, fun _ => rfl⟩, hp⟩ hk
        exact ⟨t2, s2, h2, d2, plan_n a1 b1 rfl e1, R2, hk⟩
    | skip =>
      cases p with
      | skip =>
        obtain ⟨t2, s2, h2, d2, e1, R2, hk⟩ := planK_out (pd := (i, o, .skip) :: pd) (qd := (i, o, .skip) :: qd) R1 ⟨rfl, rfl, a2, hp⟩ hk
        exact ⟨t2, s2, h2, d2, plan_n a1 b1 rfl e1, R2, hk⟩
      | l u => exact a2.elim
      | f r c j => exact a2.elim
  | .e i o m :: l, pd, qd, t, s, h, d, k, R, hp, hk => by
    rw [planK_e] at hk
    obtain ⟨v, h1, a1, a2⟩ := eK_out (d := d) R hk
    obtain ⟨t1, s1, b1, R1, hk⟩ := putK_out R a1 h h1 d
    have hp' := hp.filter (fun x => !Nat.testBit m x)
    rw [leftK_eq] at hk
    obtain ⟨c1, c2⟩ := reAll_out R1 (d := d) hp' hk
    obtain ⟨t2, s2, h2, d2, e1, R2, hk⟩ := planK_out R1 hp' c2
    exact ⟨t2, s2, h2, d2, plan_e (a2 _ b1) c1 e1, R2, hk⟩
theorem forceN_eq (n : Nat) (k : Nat → Prop) : forceN n k = k n := by cases n <;> rfl
theorem forceP_eq : ∀ (l : List PStep) (k : List PStep → Prop), forceP l k = k l
  | [], _ => rfl
  | .n i o :: r, k => by rw [forceP, forceN_eq, forceP_eq r]
  | .e i o m :: r, k => by rw [forceP, forceN_eq, forceN_eq, forceP_eq r]
theorem regK_out (R : RelT t s n) {ops : List Oper} {draw : Bool} {d : Dl} {k : Sl → Hp → Dl → Prop} (hk : regK (Pu E) E ops draw s h d k) :
    ∃ t' s' h' d', (∃ m, regRun E (callOf E (exec E m)) ops draw ⟨t, h, d, n⟩ = some ⟨t', h', d', n⟩) ∧ RelT t' s' n ∧ k s' h' d' := by
  cases draw with
  | false => exact opsK_out R hk
  | true =>
    simp only [regK] at hk
    split at hk
    · rename_i pl hpl
      rw [forceP_eq] at hk
      obtain ⟨t', s', h', d', ⟨m, h1⟩, h2⟩ := planK_out (pd := []) (qd := []) R trivial hk
      exact ⟨t', s', h', d', ⟨m, by rw [regRun, hpl]; exact h1⟩, h2⟩
    · exact hk.elim
/-- from a place in the code on -/
def sqT (E : Env) (k : Ex → St → Prop) (b : Code) : Ex → St → Prop := fun e s => match e with
  | .normal => ∃ e2 s2, Xs E b s (e2, s2) ∧ k e2 s2
  | .exit j => k (.exit j) s
  | .ret => k .ret s
def blT (id : Nat) (k : Ex → St → Prop) : Ex → St → Prop := fun e s => match e with
  | .exit j => bif Nat.beq j id then k .normal s else k (.exit j) s
  | .normal => k .normal s
  | .ret => k .ret s
def RAt (E : Env) : Code → List Bool → (Ex → St → Prop) → St → Prop
  | c, [], k, s => ∃ e s', Xs E c s (e, s') ∧ k e s'
  | .seq a b, false :: r, k, s => RAt E a r (sqT E k b) s
  | .seq _ b, true :: r, k, s => RAt E b r k s
  | .cond _ a _, false :: r, k, s => RAt E a r k s
  | .cond _ _ b, true :: r, k, s => RAt E b r k s
  | .block id c, false :: r, k, s => RAt E c r (blT id k) s
  | .loop c, false :: r, k, s => RAt E c r (sqT E k (.loop c)) s
  | _, _, _, _ => False
theorem RAt.nil (c : Code) (k : Ex → St → Prop) (s : St) : RAt E c [] k s = ∃ e s', Xs E c s (e, s') ∧ k e s' := by cases c <;> rfl
/-- what a label's telling is worth -/
def LabOK (E : Env) (n : Nat) (lab : Lb) (c : Code) (π : List Bool) (k : Ex → St → Prop) : Prop :=
  ∀ (r : List Bool) (s : Sl) (h : Hp) (d : Dl), lab (r.reverse ++ π) s h d → ∀ t, RelT t s n → RAt E c r k ⟨t, h, d, n⟩
theorem LabOK.step {lab : Lb} {c c' : Code} {π : List Bool} {b : Bool} {k k' : Ex → St → Prop} (H : LabOK E n lab c π k) (he : ∀ r s, RAt E c (b :: r) k s = RAt E c' r k' s) : LabOK E n lab c' (b :: π) k' := by
  intro r s h d hl t R
  rw [← he]
  exact H (b :: r) s h d (by simpa using hl) t R
def KxOK (n : Nat) (kL : Kx) (kT : Ex → St → Prop) : Prop := ∀ e s h d, kL e s h d → ∀ t, RelT t s n → kT e ⟨t, h, d, n⟩
theorem KxOK.bl {kL : Kx} {kT : Ex → St → Prop} (H : KxOK n kL kT) (id : Nat) : KxOK n (blK id kL) (blT id kT) := by
  intro e s h d hk t R
  cases e with
  | normal => exact H _ _ _ _ hk t R
  | ret => exact H _ _ _ _ hk t R
  | exit j =>
    simp only [blK] at hk
    simp only [blT]
    cases hj : Nat.beq j id with
    | true => rw [hj] at hk; exact H _ _ _ _ hk t R
    | false => rw [hj] at hk; exact H _ _ _ _ hk t R
theorem Kc_out {cut : List Bool → Bool} {lab : Lb} : ∀ (c : Code) (π : List Bool) (kT : Ex → St → Prop) (kL : Kx), LabOK E n lab c π kT → KxOK n kL kT →
    ∀ {s : Sl} {h : Hp} {d : Dl} {t : Tm}, RelT t s n → Kc (Pu E) E cut lab c π s h d kL → ∃ e s', Xs E c ⟨t, h, d, n⟩ (e, s') ∧ kT e s'
  | .skip, π, kT, kL, HL, HK, s, h, d, t, R, hk => ⟨_, _, Xs.skip _, HK _ _ _ _ hk t R⟩
  | .exit id, π, kT, kL, HL, HK, s, h, d, t, R, hk => ⟨_, _, Xs.exit _ _, HK _ _ _ _ hk t R⟩
  | .ret, π, kT, kL, HL, HK, s, h, d, t, R, hk => ⟨_, _, Xs.ret _, HK _ _ _ _ hk t R⟩
  | .region id ops draw, π, kT, kL, HL, HK, s, h, d, t, R, hk => by
    obtain ⟨t', s', h', d', h1, R', h2⟩ := regK_out R hk
    exact ⟨_, _, Xs.region h1, HK _ _ _ _ h2 t' R'⟩
  | .seq a b, π, kT, kL, HL, HK, s, h, d, t, R, hk => by
    have HLa : LabOK E n lab a (false :: π) (sqT E kT b) := HL.step fun _ _ => rfl
    have HLb : LabOK E n lab b (true :: π) kT := HL.step fun _ _ => rfl
    have HKa : KxOK n (sqK kL fun s' h' d' => bif cut (true :: π) then lab (true :: π) s' h' d' else Kc (Pu E) E cut lab b (true :: π) s' h' d' kL) (sqT E kT b) := by
      intro e s h d hk t R
      cases e with
      | exit j => exact HK _ _ _ _ hk t R
      | ret => exact HK _ _ _ _ hk t R
      | normal =>
        simp only [sqK] at hk
        simp only [sqT]
        cases hc : cut (true :: π) with
        | true =>
          rw [hc] at hk
          have := HLb [] s h d hk t R
          rwa [RAt.nil] at this
        | false => rw [hc] at hk; exact Kc_out b (true :: π) kT kL HLb HK R hk
    obtain ⟨e, s', h1, h2⟩ := Kc_out a (false :: π) _ _ HLa HKa R hk
    cases e with
    | normal =>
      obtain ⟨e2, s2, h3, h4⟩ := h2
      exact ⟨e2, s2, h1.seq h3, h4⟩
    | exit j => exact ⟨_, _, h1.seq_stop (by simp), h2⟩
    | ret => exact ⟨_, _, h1.seq_stop (by simp), h2⟩
  | .cond c a b, π, kT, kL, HL, HK, s, h, d, t, R, hk => by
    have HLa : LabOK E n lab a (false :: π) kT := HL.step fun _ _ => rfl
    have HLb : LabOK E n lab b (true :: π) kT := HL.step fun _ _ => rfl
    obtain ⟨v, h1, x, rfl, h2, h3⟩ := evK_out R hk
    cases x with
    | true =>
      obtain ⟨e, s', h4, h5⟩ := Kc_out a (false :: π) _ _ HLa HK R (h2 rfl)
      exact ⟨e, s', Xs.cond h1 h4, h5⟩
    | false =>
      obtain ⟨e, s', h4, h5⟩ := Kc_out b (true :: π) _ _ HLb HK R (h3 rfl)
      exact ⟨e, s', Xs.cond h1 h4, h5⟩
  | .block id c, π, kT, kL, HL, HK, s, h, d, t, R, hk => by
    have HLc : LabOK E n lab c (false :: π) (blT id kT) := HL.step fun _ _ => rfl
    obtain ⟨e, s', h1, h2⟩ := Kc_out c (false :: π) _ _ HLc (HK.bl id) R hk
    have := Xs.block (id := id) h1
    cases e with
    | normal => exact ⟨_, _, this, h2⟩
    | ret => exact ⟨_, _, this, h2⟩
    | exit j =>
      simp only [blT] at h2
      cases hj : Nat.beq j id with
      | true => rw [hj] at h2; simp only [hj, cond_true] at this; exact ⟨_, _, this, h2⟩
      | false => rw [hj] at h2; simp only [hj, cond_false] at this; exact ⟨_, _, this, h2⟩
  | .loop c, π, kT, kL, HL, HK, s, h, d, t, R, hk => by
    have := HL [] s h d hk t R
    rwa [RAt.nil] at this
  | .scope _, _, _, _, _, _, _, _, _, _, _, hk => hk.elim
  | .rangeFunc .., _, _, _, _, _, _, _, _, _, _, hk => hk.elim
  | .goto _, _, _, _, _, _, _, _, _, _, _, hk => hk.elim
  | .label _, _, _, _, _, _, _, _, _, _, _, hk => hk.elim
  | .refuse _, _, _, _, _, _, _, _, _, _, _, hk => hk.elim
end
end Go.Proofs.YtlllhhjlfmhmlaaGreatDoor.VM
namespace Go.Proofs.YtlllhhjlfmhmlaaGreatDoor.VM
open Go
noncomputable section
variable {E : Env} {t : Tm} {s : Sl} {n : Nat} {h : Hp}
theorem sq_ok {cut : List Bool → Bool} {lab : Lb} {b : Code} {π : List Bool} {kT : Ex → St → Prop} {kL : Kx} (HLb : LabOK E n lab b (true :: π) kT) (HK : KxOK n kL kT) :
    KxOK n (sqK kL fun s' h' d' => bif cut (true :: π) then lab (true :: π) s' h' d' else Kc (Pu E) E cut lab b (true :: π) s' h' d' kL) (sqT E kT b) := by
  intro e s h d hk t R
  cases e with
  | exit j => exact HK _ _ _ _ hk t R
  | ret => exact HK _ _ _ _ hk t R
  | normal =>
    simp only [sqK] at hk
    simp only [sqT]
    cases hc : cut (true :: π) with
    | true =>
      rw [hc] at hk
      have := HLb [] s h d hk t R
      rwa [RAt.nil] at this
    | false => rw [hc] at hk; exact Kc_out b (true :: π) kT kL HLb HK R hk
theorem lp_ok {lab : Lb} {c : Code} {π : List Bool} {kT : Ex → St → Prop} {kL : Kx} (HL : LabOK E n lab (.loop c) π kT) (HK : KxOK n kL kT) : KxOK n (sqK kL (lab π)) (sqT E kT (.loop c)) := by
  intro e s h d hk t R
  cases e with
  | exit j => exact HK _ _ _ _ hk t R
  | ret => exact HK _ _ _ _ hk t R
  | normal =>
    have := HL [] s h d hk t R
    rwa [RAt.nil] at this
theorem KAt_out {cut : List Bool → Bool} {lab : Lb} : ∀ (path : List Bool) (c : Code) (π : List Bool) (kT : Ex → St → Prop) (kL : Kx), LabOK E n lab c π kT → KxOK n kL kT →
    ∀ {s : Sl} {h : Hp} {d : Dl} {t : Tm}, RelT t s n → KAt (Pu E) E cut lab c π path kL s h d → RAt E c path kT ⟨t, h, d, n⟩ := by
  intro path
  induction path with
  | nil =>
    intro c π kT kL HL HK s h d t R hk
    rw [RAt.nil]
    cases c with
    | loop b =>
      obtain ⟨e, s', h1, h2⟩ := Kc_out b (false :: π) (sqT E kT (.loop b)) _ (HL.step fun _ _ => rfl) (lp_ok HL HK) R hk
      cases e with
      | normal =>
        obtain ⟨e2, s2, h3, h4⟩ := h2
        exact ⟨e2, s2, h1.loop h3, h4⟩
      | exit j => exact ⟨_, _, h1.loop_stop (by simp), h2⟩
      | ret => exact ⟨_, _, h1.loop_stop (by simp), h2⟩
    | _ => exact Kc_out (cut := cut) _ π kT kL HL HK R hk
  | cons b r ih =>
    intro c π kT kL HL HK s h d t R hk
    cases c <;> cases b <;> first | exact hk.elim | skip
    case seq.false a b => exact ih a (false :: π) (sqT E kT b) _ (HL.step fun _ _ => rfl) (sq_ok (HL.step fun _ _ => rfl) HK) R hk
    case seq.true a b => exact ih b (true :: π) kT _ (HL.step fun _ _ => rfl) HK R hk
    case cond.false c a b => exact ih a (false :: π) kT _ (HL.step fun _ _ => rfl) HK R hk
    case cond.true c a b => exact ih b (true :: π) kT _ (HL.step fun _ _ => rfl) HK R hk
    case block.false id c => exact ih c (false :: π) (blT id kT) _ (HL.step fun _ _ => rfl) (HK.bl id) R hk
    case loop.false c => exact ih c (false :: π) (sqT E kT (.loop c)) _ (HL.step fun _ _ => rfl) (lp_ok HL HK) R hk
def finT (E : Env) (fn : Func) (Q : V → Hp → Prop) : Ex → St → Prop := fun e s => ∃ v h', finOf E fn (some (e, s)) = some (v, h') ∧ Q v h'
theorem resK_out (R : RelT t s n) {d : Dl} : ∀ {l : List ResultVar} {k : List V → Prop}, resK (Pu E) s h l k → ∃ vs, resV E ⟨t, h, d, n⟩ l = some vs ∧ k vs
  | [], k, hk => ⟨[], rfl, hk⟩
  | .tmp i :: l, k, hk => by
    obtain ⟨vs, h1, h2⟩ := resK_out R (d := d) (l := l) hk
    exact ⟨_, by rw [resV, h1, Option.bind_some, R.at_], h2⟩
  | .cell a ty :: l, k, hk => by
    obtain ⟨v, h0, hk⟩ := hk
    obtain ⟨vs, h1, h2⟩ := resK_out R (d := d) (l := l) hk
    exact ⟨_, by rw [resV, R.at_, h0, Option.bind_some, h1, Option.bind_some], h2⟩
theorem finK_ok (fn : Func) (Q : V → Hp → Prop) : KxOK n (finK (Pu E) fn Q) (finT E fn Q) := by
  intro e s h d hk t R
  have go : ∀ (hi : idleAll E d = true) (e : Ex) (he : e = .normal ∨ e = .ret), resK (Pu E) s h fn.results.toList (fun l => Q (match l with | [v] => v | l => .tup l) h) → finT E fn Q e ⟨t, h, d, n⟩ := by
    intro hi e he hk
    obtain ⟨vs, h1, h2⟩ := resK_out R (d := d) hk
    refine ⟨_, h, ?_, h2⟩
    have : finOf E fn (some (e, ⟨t, h, d, n⟩)) = endOf E fn ⟨t, h, d, n⟩ := by
      rcases he with rfl | rfl <;> simp only [finOf, hi, cond_true]
    rw [this, endOf, h1, Option.bind_some]
    cases vs with
    | nil => rfl
    | cons v r => cases r <;> rfl
  have both : ∀ e, e = .normal ∨ e = .ret → finK (Pu E) fn Q e s h d → finT E fn Q e ⟨t, h, d, n⟩ := by
    intro e he hk
    cases d with
    | nil => rcases he with rfl | rfl <;> exact go rfl _ (by simp) hk
    | cons x r => rcases he with rfl | rfl <;> exact go hk.1 _ (by simp) hk.2
  cases e with
  | exit j => exact hk.elim
  | normal => exact both _ (.inl rfl) hk
  | ret => exact both _ (.inr rfl) hk
/-- from a label on all goes well -/
def Lab (E : Env) (fn : Func) (c : Code) (Q : V → Hp → Prop) : Lb := fun π s h d => ∀ t, RelT t s fn.ntmps → RAt E c π.reverse (finT E fn Q) ⟨t, h, d, fn.ntmps⟩
theorem lab_ok (fn : Func) (c : Code) (Q : V → Hp → Prop) : LabOK E fn.ntmps (Lab E fn c Q) c [] (finT E fn Q) := by
  intro r s h d hl t R
  have := hl t R
  simpa using this
theorem lab_of {fn : Func} {c : Code} {Q : V → Hp → Prop} {cut : List Bool → Bool} (path : List Bool) {d : Dl} (hk : KAt (Pu E) E cut (Lab E fn c Q) c [] path (finK (Pu E) fn Q) s h d) : Lab E fn c Q path.reverse s h d := by
  intro t R
  rw [List.reverse_reverse]
  exact KAt_out path c [] _ _ (lab_ok fn c Q) (finK_ok fn Q) R hk
/-- any reading of labels that is worth what it says -/
theorem lab_ofX {fn : Func} {c : Code} {Q : V → Hp → Prop} {cut : List Bool → Bool} {lab : Lb} (hl : ∀ π s h d, lab π s h d → s.length = fn.ntmps → Lab E fn c Q π s h d) (path : List Bool) {d : Dl} (hk : KAt (Pu E) E cut lab c [] path (finK (Pu E) fn Q) s h d) : Lab E fn c Q path.reverse s h d := by
  intro t R
  rw [List.reverse_reverse]
  refine KAt_out path c [] _ _ ?_ (finK_ok fn Q) R hk
  intro r s h d h1 t R1
  have := hl _ _ _ _ h1 R1.len t R1
  simpa using this
theorem nth_append : ∀ (l : List V) (m i : Nat), nth (l ++ List.replicate m undefV) i = (l[i]?).getD undefV
  | [], m, i => by
    have : ∀ m i, nth (List.replicate m undefV) i = undefV := by
      intro m
      induction m with
      | zero => intro i; rfl
      | succ m ih => intro i; cases i with
        | zero => rfl
        | succ i => exact ih i
    simp [this]
  | v :: l, m, 0 => by simp [nth_zero]
  | v :: l, m, i + 1 => by simp [nth_succ, nth_append l m i]
theorem ans_of {f : Nat} {fn : Func} {c : Code} {al : List V} {Q : V → Hp → Prop} (hk : E.hook f = none) (hf : E.fn.get f = some fn) (hb : fn.body = some c) (hl0 : Nat.ble al.length fn.ntmps = true) (H : Lab E fn c Q [] (al ++ List.replicate (fn.ntmps - al.length) undefV) h []) : Ans E f al h Q := by
  have hl := Nat.le_of_ble_eq_true hl0
  have R : RelT (T.ofL (al.map some) 0 .leaf) (al ++ List.replicate (fn.ntmps - al.length) undefV) fn.ntmps := by
    refine ⟨by simp; omega, fun i => ?_⟩
    rw [nth_append, T.get_ofL, T.get_leaf]
    split
    · rename_i hi
      simp at hi
      simp [hi]
    · rename_i hi
      simp at hi
      simp [List.getElem?_eq_none hi]
  have := H _ R
  rw [List.reverse_nil, RAt.nil] at this
  obtain ⟨e, s', hx, v, h', h1, h2⟩ := this
  exact ⟨v, h', Cs.of hk hf hb hl hx h1, h2⟩
theorem eqB_eq : ∀ {a b : List Bool}, eqB a b = true → a = b
  | [], [], _ => rfl
  | [], _ :: _, h => by cases h
  | true :: _, [], h => by cases h
  | false :: _, [], h => by cases h
  | true :: a, true :: b, h => by rw [eqB_eq (a := a) (b := b) h]
  | false :: a, false :: b, h => by rw [eqB_eq (a := a) (b := b) h]
  | true :: a, false :: b, h => by cases h
  | false :: a, true :: b, h => by cases h
def nths (s : Sl) : Nat → Nat → Sl
  | 0, _ => []
  | n + 1, i => nth s i :: nths s n (i + 1)
theorem nths_cons (v : V) (l : Sl) : ∀ n i, nths (v :: l) n (i + 1) = nths l n i
  | 0, _ => rfl
  | n + 1, i => by rw [nths, nths, nths_cons v l n (i + 1)]; rfl
theorem nth_all : ∀ {s : Sl} {n : Nat}, s.length = n → s = nths s n 0
  | [], _, h => by subst h; rfl
  | v :: l, _, h => by
    subst h
    rw [List.length_cons, nths, nths_cons, ← nth_all (s := l) rfl]
    rfl
end
end Go.Proofs.YtlllhhjlfmhmlaaGreatDoor.VM
namespace Go.Proofs.YtlllhhjlfmhmlaaGreatDoor.VM
open Go
noncomputable section
/-- nothing stands for anything -/
@[reducible] def syZ : Sy := ⟨fun _ => 0, fun _ => [], [], fun g => (g, 0)⟩
attribute [local instance] syZ
variable {E : Env}
theorem ilt_dec (a b : Int) : ilt a b = decide (a < b) := by
  cases a <;> cases b <;> simp only [ilt] <;> rw [Bool.eq_iff_iff] <;> simp [Nat.blt_eq] <;> omega
theorem ieq_dec (a b : Int) : ieq a b = decide (a = b) := by
  cases a <;> cases b <;> simp only [ieq] <;> rw [Bool.eq_iff_iff] <;> simp [Nat.beq_eq] <;> omega
theorem keq_refl (k : IntKind) : keq k k = true := by cases k <;> rfl
theorem seq_dec : ∀ (a b : List Nat), seq a b = decide (a = b)
  | [], [] => rfl
  | [], _ :: _ => rfl
  | _ :: _, [] => rfl
  | a :: x, b :: y => by
    rw [seq, seq_dec x y]
    by_cases h : a = b
    · subst h; simp
    · have : Nat.beq a b = false := by rw [Bool.eq_false_iff]; simpa [Nat.beq_eq] using h
      simp [this, h]
theorem natOf_nat (n : Nat) : natOf (n : Int) = some n := rfl
theorem natOf_pos {z : Int} (h : 0 ≤ z) : natOf z = some z.toNat := by obtain ⟨n, rfl⟩ := Int.eq_ofNat_of_zero_le h; rfl
/-! ### conditions -/
theorem pu_cond (c : Bool) (a b : Unit → Prop) : (Pu E).cond (.bool c) a b ↔ (c = true → a ()) ∧ (c = false → b ()) :=
  ⟨fun ⟨x, h1, h2⟩ => by cases h1; exact h2, fun h => ⟨c, rfl, h⟩⟩
theorem pu_cond_t (a b : Unit → Prop) : (Pu E).cond (.bool true) a b ↔ a () := by simp [pu_cond]
theorem pu_cond_f (a b : Unit → Prop) : (Pu E).cond (.bool false) a b ↔ b () := by simp [pu_cond]
theorem pu_cond_d (p : Prop) [Decidable p] (a b : Unit → Prop) : (Pu E).cond (.bool (decide p)) a b ↔ (p → a ()) ∧ (¬ p → b ()) := by simp [pu_cond]
theorem pu_cond_n (p : Prop) [Decidable p] (a b : Unit → Prop) : (Pu E).cond (.bool (!decide p)) a b ↔ (¬ p → a ()) ∧ (p → b ()) := by simp [pu_cond]
/-! ### whole numbers -/
theorem pu_bin (op : BinOp) (t : Nat) (cx cy : Bool) (k j : IntKind) (a b : Int) (q : V → Prop) : (Pu E).bin op t cx cy (.int k a) (.int j b) q ↔ ∃ v, vbin op (.int k a) (.int j b) = some v ∧ q v := Iff.rfl
theorem ex_some {α : Type} {a : α} {q : α → Prop} : (∃ v, some a = some v ∧ q v) ↔ q a := by simp
theorem pu_add (t : Nat) (cx cy : Bool) (k : IntKind) (a b : Int) (q : V → Prop) : (Pu E).bin .add t cx cy (.int k a) (.int k b) q ↔ q (.int k (k.wrap (a + b))) := by
  rw [pu_bin]; simp only [vbin, keq_refl, cond_true, mkInt_eq, ex_some]
theorem pu_sub (t : Nat) (cx cy : Bool) (k : IntKind) (a b : Int) (q : V → Prop) : (Pu E).bin .sub t cx cy (.int k a) (.int k b) q ↔ q (.int k (k.wrap (a - b))) := by
  rw [pu_bin]; simp only [vbin, keq_refl, cond_true, mkInt_eq, ex_some]
theorem pu_mul (t : Nat) (cx cy : Bool) (k : IntKind) (a b : Int) (q : V → Prop) : (Pu E).bin .mul t cx cy (.int k a) (.int k b) q ↔ q (.int k (k.wrap (a * b))) := by
  rw [pu_bin]; simp only [vbin, keq_refl, cond_true, mkInt_eq, ex_some]
theorem pu_quo (t : Nat) (cx cy : Bool) (k : IntKind) (a b : Int) (hb : b ≠ 0) (q : V → Prop) : (Pu E).bin .quo t cx cy (.int k a) (.int k b) q ↔ q (.int k (k.wrap (a.tdiv b))) := by
  rw [pu_bin]; simp only [vbin, keq_refl, cond_true, mkInt_eq, ieq_dec, hb, decide_false, cond_false, ex_some]
theorem pu_rem (t : Nat) (cx cy : Bool) (k : IntKind) (a b : Int) (hb : b ≠ 0) (q : V → Prop) : (Pu E).bin .rem t cx cy (.int k a) (.int k b) q ↔ q (.int k (a.tmod b)) := by
  rw [pu_bin]; simp only [vbin, keq_refl, cond_true, mkInt_eq, ieq_dec, hb, decide_false, cond_false, ex_some]
theorem pu_lss (t : Nat) (cx cy : Bool) (k : IntKind) (a b : Int) (q : V → Prop) : (Pu E).bin .lss t cx cy (.int k a) (.int k b) q ↔ q (.bool (decide (a < b))) := by
  rw [pu_bin]; simp only [vbin, keq_refl, cond_true, ilt_dec, ex_some]
theorem pu_gtr (t : Nat) (cx cy : Bool) (k : IntKind) (a b : Int) (q : V → Prop) : (Pu E).bin .gtr t cx cy (.int k a) (.int k b) q ↔ q (.bool (decide (b < a))) := by
  rw [pu_bin]; simp only [vbin, keq_refl, cond_true, ilt_dec, ex_some]
theorem not_lt_dec (a b : Int) : (!decide (b < a)) = decide (a ≤ b) := by rw [Bool.eq_iff_iff]; simp
theorem pu_leq (t : Nat) (cx cy : Bool) (k : IntKind) (a b : Int) (q : V → Prop) : (Pu E).bin .leq t cx cy (.int k a) (.int k b) q ↔ q (.bool (decide (a ≤ b))) := by
  rw [pu_bin]; simp only [vbin, keq_refl, cond_true, ilt_dec, not_lt_dec, ex_some]
theorem pu_geq (t : Nat) (cx cy : Bool) (k : IntKind) (a b : Int) (q : V → Prop) : (Pu E).bin .geq t cx cy (.int k a) (.int k b) q ↔ q (.bool (decide (b ≤ a))) := by
  rw [pu_bin]; simp only [vbin, keq_refl, cond_true, ilt_dec, not_lt_dec, ex_some]
theorem pu_eql (t : Nat) (cx cy : Bool) (k : IntKind) (a b : Int) (q : V → Prop) : (Pu E).bin .eql t cx cy (.int k a) (.int k b) q ↔ q (.bool (decide (a = b))) := by
  rw [pu_bin]; simp only [vbin, keq_refl, cond_true, ieq_dec, ex_some]
theorem pu_neq (t : Nat) (cx cy : Bool) (k : IntKind) (a b : Int) (q : V → Prop) : (Pu E).bin .neq t cx cy (.int k a) (.int k b) q ↔ q (.bool (!decide (a = b))) := by
  rw [pu_bin]; simp only [vbin, keq_refl, cond_true, ieq_dec, ex_some]
theorem pu_shr (t : Nat) (cx cy : Bool) (k j : IntKind) (a : Int) (n : Nat) (q : V → Prop) : (Pu E).bin .shr t cx cy (.int k a) (.int j n) q ↔ q (.int k (a.fdiv (2 ^ (min n k.bits)))) := by
  rw [pu_bin]
  have : ilt (n : Int) 0 = false := by rw [ilt_dec]; simp
  simp only [vbin, this, cond_false, natOf_nat, Option.bind_some, mkInt_eq, ex_some]
theorem pu_shl (t : Nat) (cx cy : Bool) (k j : IntKind) (a : Int) (n : Nat) (q : V → Prop) : (Pu E).bin .shl t cx cy (.int k a) (.int j n) q ↔ q (.int k (k.wrap (a * 2 ^ (min n k.bits)))) := by
  rw [pu_bin]
  have : ilt (n : Int) 0 = false := by rw [ilt_dec]; simp
  simp only [vbin, this, cond_false, natOf_nat, Option.bind_some, mkInt_eq, ex_some]
theorem pu_neg (k : IntKind) (a : Int) (q : V → Prop) : (Pu E).un .neg (.int k a) q ↔ q (.int k (k.wrap (0 - a))) := by
  show (∃ v, vun .neg (.int k a) = some v ∧ q v) ↔ _
  simp only [vun, mkInt_eq, ex_some]
theorem pu_not (b : Bool) (q : V → Prop) : (Pu E).un .not (.bool b) q ↔ q (.bool (!b)) := by
  show (∃ v, vun .not (.bool b) = some v ∧ q v) ↔ _
  simp only [vun, ex_some]
/-! ### texts -/
theorem pu_seql (t : Nat) (cx cy : Bool) (a b : List Nat) (q : V → Prop) : (Pu E).bin .eql t cx cy (.str a) (.str b) q ↔ q (.bool (decide (a = b))) := by
  show (∃ v, vbin .eql (.str a) (.str b) = some v ∧ q v) ↔ _
  simp only [vbin, seq_dec, ex_some]
theorem pu_sneq (t : Nat) (cx cy : Bool) (a b : List Nat) (q : V → Prop) : (Pu E).bin .neq t cx cy (.str a) (.str b) q ↔ q (.bool (!decide (a = b))) := by
  show (∃ v, vbin .neq (.str a) (.str b) = some v ∧ q v) ↔ _
  simp only [vbin, seq_dec, ex_some]
theorem pu_slss (t : Nat) (cx cy : Bool) (a b : List Nat) (q : V → Prop) : (Pu E).bin .lss t cx cy (.str a) (.str b) q ↔ q (.bool (slt a b)) := by
  show (∃ v, vbin .lss (.str a) (.str b) = some v ∧ q v) ↔ _
  simp only [vbin, ex_some]
theorem pu_sgeq (t : Nat) (cx cy : Bool) (a b : List Nat) (q : V → Prop) : (Pu E).bin .geq t cx cy (.str a) (.str b) q ↔ q (.bool (!slt a b)) := by
  show (∃ v, vbin .geq (.str a) (.str b) = some v ∧ q v) ↔ _
  simp only [vbin, ex_some]
theorem pu_sadd (t : Nat) (cx cy : Bool) (a b : List Nat) (h : a.length + b.length ≤ 1048576) (q : V → Prop) : (Pu E).bin .add t cx cy (.str a) (.str b) q ↔ q (.str (a ++ b)) := by
  show (∃ v, vbin .add (.str a) (.str b) = some v ∧ q v) ↔ _
  simp only [vbin, Nat.ble_eq_true_of_le h, cond_true, ex_some]
theorem pu_sidx (t : Nat) (i : TI) (ht : E.ty.get t = some i) (hk : i.k = .str) (s : List Nat) (k : IntKind) (n : Nat) (hn : n < s.length) (q : V → Prop) : (Pu E).index t (.str s) (.int k n) q ↔ q (.int .u8 (s[n] : Nat)) := by
  show (∃ v, vindex E t (.str s) (.int k n) = some v ∧ q v) ↔ _
  simp only [vindex, natOf_nat, ht, Option.bind_some, hk, List.getElem?_eq_getElem hn, ex_some]
  rfl
theorem pu_slen (t : TypeId) (i : TI) (h : Hp) (ht : E.ty.get t = some i) (hk : i.k = .str) (s : List Nat) (q : V → Prop) : (Pu E).lbui h #[t] .len [.str s] q ↔ q (.int .i64 s.length) := by
  show (∃ v, lBuiltin E h #[t] .len [.str s] = some v ∧ q v) ↔ _
  have : (#[t] : Array TypeId)[0]? = some t := rfl
  simp only [lBuiltin, bLen, vlen, this, ht, Option.bind_some, hk, mkInt_eq, ex_some]
  rfl
theorem bound_nat (n most d : Nat) (k : IntKind) (h : n ≤ most) : bound (some (.int k n)) most d = some n := by
  simp only [bound, natOf_nat, Option.bind_some, Nat.ble_eq_true_of_le h, cond_true]
theorem pu_scut (t : Nat) (i : TI) (ht : E.ty.get t = some i) (hk : i.k = .str) (s : List Nat) (k j : IntKind) (a b : Nat) (hb : b ≤ s.length) (ha : a ≤ b) (q : V → Prop) : (Pu E).slice t (.str s) (some (.int k a)) (some (.int j b)) none q ↔ q (.str ((s.take b).drop a)) := by
  show (∃ v, vslice E t (.str s) (some (.int k a)) (some (.int j b)) none = some v ∧ q v) ↔ _
  have h1 : bounds (some (.int k a)) (some (.int j b)) none s.length s.length = some (a, b, s.length) := by
    have e : bound none s.length s.length = some s.length := rfl
    simp only [bounds, e, Option.bind_some, bound_nat _ _ _ _ hb, bound_nat _ _ _ _ ha]
  simp only [vslice, ht, Option.bind_some, hk, h1, strCut, ex_some]
theorem pu_sfrom (t : Nat) (i : TI) (ht : E.ty.get t = some i) (hk : i.k = .str) (s : List Nat) (k : IntKind) (a : Nat) (ha : a ≤ s.length) (q : V → Prop) : (Pu E).slice t (.str s) (some (.int k a)) none none q ↔ q (.str (s.drop a)) := by
  show (∃ v, vslice E t (.str s) (some (.int k a)) none none = some v ∧ q v) ↔ _
  have h1 : bounds (some (.int k a)) none none s.length s.length = some (a, s.length, s.length) := by
    have e : bound none s.length s.length = some s.length := rfl
    simp only [bounds, e, Option.bind_some, bound_nat _ _ _ _ ha]
  simp only [vslice, ht, Option.bind_some, hk, h1, strCut, List.take_length, ex_some]
theorem pu_sto (t : Nat) (i : TI) (ht : E.ty.get t = some i) (hk : i.k = .str) (s : List Nat) (j : IntKind) (b : Nat) (hb : b ≤ s.length) (q : V → Prop) : (Pu E).slice t (.str s) none (some (.int j b)) none q ↔ q (.str (s.take b)) := by
  show (∃ v, vslice E t (.str s) none (some (.int j b)) none = some v ∧ q v) ↔ _
  have h1 : bounds none (some (.int j b)) none s.length s.length = some (0, b, s.length) := by
    have e : ∀ m, bound none m 0 = some 0 := fun _ => rfl
    have e2 : bound none s.length s.length = some s.length := rfl
    simp only [bounds, e, e2, Option.bind_some, bound_nat _ _ _ _ hb]
  simp only [vslice, ht, Option.bind_some, hk, h1, strCut, List.drop_zero, ex_some]
/-! ### conversions -/
theorem pu_conv_int (h : Hp) (s d : Nat) (i j : TI) (k k' : IntKind) (hs : E.ty.get s = some i) (hd : E.ty.get d = some j) (hj : j.k = .int k) (n : Int) (q : V → Prop) : (Pu E).conv h s d (.int k' n) q ↔ q (.int k (k.wrap n)) := by
  show (∃ v, vconv E h s d (.int k' n) = some v ∧ q v) ↔ _
  simp only [vconv, hs, hd, Option.bind_some, hj, mkInt_eq, ex_some]
end
end Go.Proofs.YtlllhhjlfmhmlaaGreatDoor.VM
namespace Go.Proofs.YtlllhhjlfmhmlaaGreatDoor.VM
open Go
noncomputable section
attribute [local instance] syZ
variable {E : Env}
/-! ### types -/
def IsSl (E : Env) (t e : Nat) : Prop := ∃ i, E.ty.get t = some i ∧ i.k = .sl e
theorem isSl {t e : Nat} (h : (E.ty.get t).map (·.k) = some (.sl e)) : IsSl E t e := by
  obtain ⟨i, h1, h2⟩ := Option.map_eq_some_iff.1 h; exact ⟨i, h1, h2⟩
def IsStr (E : Env) (t : Nat) : Prop := ∃ i, E.ty.get t = some i ∧ i.k = .str
theorem isStr_ {t : Nat} (h : (E.ty.get t).map (·.k) = some .str) : IsStr E t := by
  obtain ⟨i, h1, h2⟩ := Option.map_eq_some_iff.1 h; exact ⟨i, h1, h2⟩
def IsInt (E : Env) (t : Nat) (k : IntKind) : Prop := ∃ i, E.ty.get t = some i ∧ i.k = .int k
theorem isInt {t : Nat} {k : IntKind} (h : (E.ty.get t).map (·.k) = some (.int k)) : IsInt E t k := by
  obtain ⟨i, h1, h2⟩ := Option.map_eq_some_iff.1 h; exact ⟨i, h1, h2⟩
/-- an element's type: how many cells, its noughts, is it a struct or an array -/
structure El (E : Env) (e sz : Nat) (z : List V) (ag : Bool) : Prop where
  out : ∃ j, E.ty.get e = some j ∧ j.size = sz ∧ j.zero = some z ∧ j.bytes ≤ 65536 ∧ (match j.k with | .struct _ => true | .arr .. => true | _ => false) = ag
  len : z.length = sz
theorem el_of {e sz : Nat} {z : List V} {ag : Bool} (h : (E.ty.get e).map (fun j => (j.size, j.zero, Nat.ble j.bytes 65536, (match j.k with | .struct _ => true | .arr .. => true | _ => false))) = some (sz, some z, true, ag)) (hz : Nat.beq z.length sz = true) : El E e sz z ag := by
  obtain ⟨j, h1, h2⟩ := Option.map_eq_some_iff.1 h
  simp only [Prod.mk.injEq] at h2
  exact ⟨⟨j, h1, h2.1, h2.2.1, Nat.le_of_ble_eq_true h2.2.2.1, h2.2.2.2⟩, Nat.eq_of_beq_eq_true hz⟩
/-! ### memory goes on -/
structure Ext (N : Nat) (h h' : Hp) : Prop where
  n : h.n ≤ h'.n
  old : ∀ b, b < N → h'.t.get b = h.t.get b
theorem Ext.refl (N : Nat) (h : Hp) : Ext N h h := ⟨Nat.le_refl _, fun _ _ => rfl⟩
theorem Ext.trans {N : Nat} {a b c : Hp} (h : Ext N a b) (k : Ext N b c) : Ext N a c := ⟨Nat.le_trans h.n k.n, fun i hi => (k.old i hi).trans (h.old i hi)⟩
theorem Ext.mono {N M : Nat} {a b : Hp} (h : Ext N a b) (hm : M ≤ N) : Ext M a b := ⟨h.n, fun i hi => h.old i (by omega)⟩
theorem Ext.new {N : Nat} {h : Hp} (hn : N ≤ h.n) (b : Blk) : Ext N h (h.new b) := ⟨Nat.le_succ _, fun i hi => by rw [Hp.get_new, if_neg (by omega)]⟩
theorem Ext.set {N : Nat} {h : Hp} {b : Nat} (hn : N ≤ b) (k : Blk) : Ext N h (h.set b k) := ⟨Nat.le_refl _, fun i hi => by rw [Hp.get_set, if_neg (by omega)]⟩
theorem Hp.n_new (h : Hp) (b : Blk) : (h.new b).n = h.n + 1 := rfl
theorem Hp.n_set (h : Hp) (i : Nat) (b : Blk) : (h.set i b).n = h.n := rfl
/-! ### slices that read as lists of cells -/
def blkOf : V → Option Nat
  | .sl b _ _ _ => some b
  | .slo b _ _ _ _ => some b
  | .ptr b _ => some b
  | .mp b => some b
  | _ => none
def In (N : Nat) (v : V) : Prop := ∀ b, blkOf v = some b → b < N
theorem In.mono {N M : Nat} {v : V} (h : In N v) (hm : N ≤ M) : In M v := fun b hb => Nat.lt_of_lt_of_le (h b hb) hm
structure Rd (h : Hp) (sz : Nat) (v : V) (len : Nat) (cs : List V) : Prop where
  sized : cs.length = len * sz
  at_ : ((v = .nils ∨ v = .emp) ∧ len = 0) ∨ ∃ b off vs, rdCells h b = some vs ∧ sub vs off (len * sz) = some cs ∧ ((∃ cap, v = .sl b off len cap) ∨ ∃ lo z, v = .slo b off len lo z)
theorem Rd.ext {N : Nat} {h h' : Hp} {sz : Nat} {v : V} {len : Nat} {cs : List V} (r : Rd h sz v len cs) (x : Ext N h h') (hi : In N v) : Rd h' sz v len cs := by
  refine ⟨r.sized, r.at_.imp id ?_⟩
  rintro ⟨b, off, vs, h1, h2, h3⟩
  refine ⟨b, off, vs, ?_, h2, h3⟩
  have hb : b < N := hi b (by rcases h3 with ⟨c, rfl⟩ | ⟨lo, z, rfl⟩ <;> rfl)
  unfold rdCells at h1 ⊢
  rw [x.old b hb]
  exact h1
theorem sub_len {l r : List V} {off n : Nat} (h : sub l off n = some r) : r = (l.drop off).take n ∧ off + n ≤ l.length ∨ n = 0 ∧ r = [] := by
  obtain ⟨h1, h2, _⟩ := sub_some h
  subst h1
  simp only [List.length_take, List.length_drop] at h2
  by_cases hn : n = 0
  · right; subst hn; simp
  · left; exact ⟨rfl, by omega⟩
theorem pu_len {h : Hp} {sz : Nat} {v : V} {len : Nat} {cs : List V} (r : Rd h sz v len cs) {t e : TypeId} (ht : IsSl E t e) (h0 : Hp) (q : V → Prop) : (Pu E).lbui h0 #[t] .len [v] q ↔ q (.int .i64 len) := by
  obtain ⟨i, h1, h2⟩ := ht
  show (∃ u, lBuiltin E h0 #[t] .len [v] = some u ∧ q u) ↔ _
  have e0 : (#[t] : Array TypeId)[0]? = some t := rfl
  rcases r.at_ with ⟨rfl | rfl, rfl⟩ | ⟨b, off, vs, _, _, ⟨c, rfl⟩ | ⟨lo, z, rfl⟩⟩ <;> simp only [lBuiltin, bLen, vlen, e0, h1, Option.bind_some, h2, ex_some] <;> rfl
/-- an element of a list of cells -/
def elemAt (ag : Bool) (sz : Nat) (cs : List V) (i : Nat) : V := if ag then .agg ((cs.drop (i * sz)).take sz) else (cs[i]?).getD undefV
theorem mul_lt {i len sz : Nat} (hi : i < len) : i * sz + sz ≤ len * sz := by
  have := Nat.mul_le_mul_right sz (show i + 1 ≤ len by omega)
  rwa [Nat.succ_mul] at this
theorem part_sub {vs cs : List V} {off len sz i : Nat} (hs : sub vs off (len * sz) = some cs) (hi : i < len) : (vs.drop (off + i * sz)).take sz = (cs.drop (i * sz)).take sz := by
  obtain ⟨h1, h2, _⟩ := sub_some hs
  subst h1
  have := mul_lt (sz := sz) hi
  rw [List.drop_take, List.take_take, List.drop_drop, Nat.min_eq_left (by omega)]
theorem rd_at {h : Hp} {sz : Nat} {v : V} {len : Nat} {cs : List V} (r : Rd h sz v len cs) {t e : TypeId} (ht : IsSl E t e) {z : List V} {ag : Bool} (he : El E e sz z ag) (hsz : ag = false → sz = 1) (hpos : 0 < sz) {i : Nat} (hi : i < len) :
    ∃ b o, blkOf v = some b ∧ (∀ (k : IntKind) (q : V → Prop), (Pu E).iaddr t v (.int k i) q ↔ q (.ptr b o)) ∧ (∀ q : V → Prop, (Pu E).load h e (.ptr b o) q ↔ q (elemAt ag sz cs i)) ∧
      ∃ vs, rdCells h b = some vs ∧ (vs.drop o).take sz = (cs.drop (i * sz)).take sz ∧ o + sz ≤ vs.length := by
  obtain ⟨ti, h1, h2⟩ := ht
  obtain ⟨⟨j, h3, h4, h5, h6, h7⟩, h8⟩ := he
  subst h4
  rcases r.at_ with ⟨_, rfl⟩ | ⟨b, off, vs, hv, hs, hk⟩
  · omega
  · obtain ⟨s1, s2, _⟩ := sub_some hs
    have hm := mul_lt (sz := j.size) hi
    have hlen : (vs.drop (off + i * j.size)).take j.size = (cs.drop (i * j.size)).take j.size := part_sub hs hi
    have hll : ((cs.drop (i * j.size)).take j.size).length = j.size := by simp only [List.length_take, List.length_drop, r.sized]; omega
    have hvl : (off + i * j.size) + j.size ≤ vs.length := by
      have := congrArg List.length hlen
      rw [hll] at this
      simp only [List.length_take, List.length_drop] at this
      omega
    refine ⟨b, off + i * j.size, by rcases hk with ⟨c, rfl⟩ | ⟨lo, z, rfl⟩ <;> rfl, fun k q => ?_, fun q => ?_, ?_⟩
    · show (∃ u, vindexAddr E t v (.int k i) = some u ∧ q u) ↔ _
      have hbl : Nat.blt i len = true := by rw [Nat.blt_eq]; exact hi
      rcases hk with ⟨c, rfl⟩ | ⟨lo, z, rfl⟩ <;> simp only [vindexAddr, natOf_nat, h1, Option.bind_some, h2, h3, hbl, cond_true, ex_some]
    · show (∃ u, vload E h e (.ptr b (off + i * j.size)) = some u ∧ q u) ↔ _
      simp only [vload, hv, Option.bind_some, partV, h3]
      cases ag with
      | true =>
        have hsub : sub vs (off + i * j.size) j.size = some ((cs.drop (i * j.size)).take j.size) := by
          unfold sub
          simp only [hlen, hll, Nat.beq_refl, cond_true]
        split at h7 <;> first | (cases h7; done) | skip
        · rename_i fs hks
          rw [hks]; simp only [hsub, Option.bind_some, elemAt, if_true, ex_some]
        · rename_i n e' hks
          rw [hks]; simp only [hsub, Option.bind_some, elemAt, if_true, ex_some]
      | false =>
        have h1s := hsz rfl
        rw [h1s] at hlen hll hvl hm ⊢
        have hg : vs[off + i * 1]? = cs[i]? := by
          have e1 : ((vs.drop (off + i * 1)).take 1)[0]? = ((cs.drop (i * 1)).take 1)[0]? := by rw [hlen]
          simpa using e1
        have hci : cs[i]? = some cs[i]! := by
          have : i < cs.length := by rw [r.sized, h1s]; omega
          simp [this]
        have key : (match j.k with | .struct _ => (sub vs (off + i * 1) 1).bind fun l => some (V.agg l) | .arr _ _ => (sub vs (off + i * 1) 1).bind fun l => some (V.agg l) | _ => vs[off + i * 1]?) = vs[off + i * 1]? := by
          split at h7 <;> first | (cases h7; done) | rfl
        have key2 : ∀ (A B : Option V), A = B → ((∃ u, A = some u ∧ q u) ↔ (∃ u, B = some u ∧ q u)) := fun A B h => by rw [h]
        refine (key2 _ _ key).trans ?_
        rw [hg, hci]
        simp only [elemAt, hci, Option.getD_some, ex_some, Bool.false_eq_true, if_false]
    · exact ⟨vs, hv, hlen, hvl⟩
/-! ### slices of one's own -/
structure Own (N : Nat) (h : Hp) (v : V) (el sz len : Nat) (cs : List V) : Prop where
  sized : cs.length = len * sz
  at_ : (v = .nils ∧ len = 0) ∨ ∃ b, N ≤ b ∧ b < h.n ∧ h.t.get b = some (.cells cs el false) ∧ (v = .slo b 0 len len sz ∨ v = .sl b 0 len len)
theorem Own.nil (N : Nat) (h : Hp) (el sz : Nat) : Own N h .nils el sz 0 [] := ⟨by simp, .inl ⟨rfl, rfl⟩⟩
theorem sub_all {cs : List V} {n : Nat} (h : cs.length = n) : sub cs 0 n = some cs := by
  subst h
  unfold sub
  simp
theorem Own.rd {N : Nat} {h : Hp} {v : V} {el sz len : Nat} {cs : List V} (o : Own N h v el sz len cs) : Rd h sz v len cs := by
  refine ⟨o.sized, o.at_.imp (fun h => ⟨.inl h.1, h.2⟩) ?_⟩
  rintro ⟨b, _, _, h1, h2⟩
  refine ⟨b, 0, cs, by unfold rdCells; rw [h1], sub_all o.sized, ?_⟩
  rcases h2 with rfl | rfl
  · exact .inr ⟨_, _, rfl⟩
  · exact .inl ⟨_, rfl⟩
theorem Own.in_ {N : Nat} {h : Hp} {v : V} {el sz len : Nat} {cs : List V} (o : Own N h v el sz len cs) : In h.n v := by
  intro b hb
  rcases o.at_ with ⟨rfl, _⟩ | ⟨c, _, h1, _, rfl | rfl⟩ <;> cases hb <;> exact h1
theorem Own.ge {N : Nat} {h : Hp} {v : V} {el sz len : Nat} {cs : List V} (o : Own N h v el sz len cs) : ∀ b, blkOf v = some b → N ≤ b := by
  intro b hb
  rcases o.at_ with ⟨rfl, _⟩ | ⟨c, h0, _, _, rfl | rfl⟩ <;> cases hb <;> exact h0
/-- what another one's growing leaves -/
theorem Own.keep {N : Nat} {h h' : Hp} {v : V} {el sz len : Nat} {cs : List V} (o : Own N h v el sz len cs) (hn : h.n ≤ h'.n) (hk : ∀ c, blkOf v = some c → h'.t.get c = h.t.get c) : Own N h' v el sz len cs := by
  refine ⟨o.sized, o.at_.imp id ?_⟩
  rintro ⟨b, h0, h1, h2, h3⟩
  exact ⟨b, h0, by omega, by rw [hk b (by rcases h3 with rfl | rfl <;> rfl)]; exact h2, h3⟩
theorem Own.mono {N M : Nat} {h : Hp} {v : V} {el sz len : Nat} {cs : List V} (o : Own N h v el sz len cs) (hm : M ≤ N) : Own M h v el sz len cs :=
  ⟨o.sized, o.at_.imp id fun ⟨b, h0, h1⟩ => ⟨b, by omega, h1⟩⟩
theorem appOK_of {sz : Nat} {z : List V} {j : TI} {need : Nat} (h5 : j.zero = some z) (h4 : j.size = sz) (h6 : j.bytes ≤ 65536) (h8 : z.length = sz) (hn : need ≤ 1048576) : appOK j need = true := by
  simp only [appOK, Nat.ble_eq_true_of_le hn, Nat.ble_eq_true_of_le h6, h5, Option.getD_some, h4, h8, Nat.beq_refl, Option.isSome_some, Bool.and_self]
theorem elemsW_of {h : Hp} {sz : Nat} {y : V} {p : List V × Nat} (hy : elemsV h sz y = some p) : elemsW E h sz y = some p := by
  cases y <;> first | exact hy | (cases hy; done)
/-- a slice of one's own grows -/
theorem own_append {N : Nat} {h : Hp} {v y : V} {e sz len n : Nat} {cs ws : List V} (o : Own N h v e sz len cs) {ts : Array TypeId} {t u : TypeId} (ht0 : ts[0]? = some t) (ht1 : ts[1]? = some u) (ht : IsSl E t e) (hu : ∃ iu, E.ty.get u = some iu ∧ ∀ k, iu.k ≠ .int k) {z : List V} {ag : Bool} (he : El E e sz z ag)
    (hy : elemsV h sz y = some (ws, n)) (hst : isStr y = true → sz = 1) (hw : allCells ws = true) (hlen : len + n ≤ 1048576) (hN : N ≤ h.n) :
    ∃ v' h', (∀ q, (Pu E).ebui h ts .append [v, y] q ↔ q v' h') ∧ Own N h' v' e sz (len + n) (cs ++ ws) ∧ Ext N h h' ∧ (∀ c, c < h.n → blkOf v ≠ some c → h'.t.get c = h.t.get c) ∧ (∀ c, blkOf v' = some c → blkOf v = some c ∨ h.n ≤ c) := by
  obtain ⟨ti, h1, h2⟩ := ht
  obtain ⟨iu, h3, h4⟩ := hu
  obtain ⟨⟨j, h5, h6, h7, h8, _⟩, h9⟩ := he
  subst h6
  have hwl : ws.length = n * j.size := elems_len hy hst
  have hss : (!isStr y || Nat.beq j.size 1) = true := by
    cases hc : isStr y with
    | false => rfl
    | true => simp [hst hc]
  have hred : vappend E h ts v y = appTo h e j v ws n := by
    simp only [vappend, ht0, ht1, Option.bind_some, h3, h1, h2]
    simp only [h5, Option.bind_some, hss, cond_true, elemsW_of hy]
  have fin : ∀ {v' : V} {h' : Hp}, appTo h e j v ws n = some (v', h') → ∀ q : V → Hp → Prop, (Pu E).ebui h ts .append [v, y] q ↔ q v' h' := by
    intro v' h' ha q
    show (∃ r, ebuiV E h ts .append [v, y] = some r ∧ q r.1 r.2) ↔ _
    have : ebuiV E h ts .append [v, y] = some (v', h') := hred.trans ha
    rw [this]
    simp
  have hok := appOK_of (need := len + n) h7 rfl h8 h9 hlen
  have hsz : (cs ++ ws).length = (len + n) * j.size := by rw [List.length_append, o.sized, hwl, Nat.add_mul]
  rcases o.at_ with ⟨rfl, rfl⟩ | ⟨b, hb, hbn, hg, hv⟩
  · have hcs : cs = [] := by have := o.sized; simpa using this
    subst hcs
    by_cases hn : n = 0
    · subst hn
      have hws : ws = [] := by simpa using hwl
      subst hws
      refine ⟨.nils, h, fin rfl, ?_, Ext.refl _ _, fun _ _ _ => rfl, fun c hc => by cases hc⟩
      exact ⟨hsz, .inl ⟨rfl, rfl⟩⟩
    · have hnb : Nat.beq n 0 = false := by rw [Bool.eq_false_iff]; simpa [Nat.beq_eq] using hn
      rw [Nat.zero_add] at hok
      refine ⟨.slo h.n 0 n n j.size, h.new (.cells ws e false), fin (by simp only [appTo, hnb, cond_false, hok, cond_true]), ?_, Ext.new hN _, fun c hc _ => by rw [Hp.get_new, if_neg (by omega)], fun c hc => by cases hc; exact .inr (Nat.le_refl _)⟩
      refine ⟨hsz, .inr ⟨h.n, hN, Nat.lt_succ_self _, by rw [Hp.get_new, if_pos rfl]; rfl, .inl (by rw [Nat.zero_add])⟩⟩
  · have hrd : rdCells h b = some cs := by unfold rdCells; rw [hg]
    by_cases hn : n = 0
    · subst hn
      have hws : ws = [] := by simpa using hwl
      subst hws
      have hwr : wrCells h b (0 + len * j.size) [] = some (h.set b (.cells cs e false)) := by
        unfold wrCells
        rw [hg]
        simp only [allCells, cond_true]
        have : spl cs (0 + len * j.size) [] = some cs := by cases cs <;> rfl
        rw [this]; rfl
      have hget : ∀ c, (h.set b (.cells cs e false)).t.get c = h.t.get c := fun c => by
        rw [Hp.get_set]; split
        · rename_i e; rw [e, hg]
        · rfl
      have hle : Nat.ble (len + 0) len = true := by simp
      refine ⟨v, h.set b (.cells cs e false), fin ?_, ?_, Ext.set hb _, fun c _ _ => hget c, fun c hc => .inl hc⟩
      · rcases hv with rfl | rfl
        · simp only [appTo, Nat.beq_refl, hle, cond_true, hwr, Option.bind_some]; rfl
        · simp only [appTo, hle, cond_true, hwr, Option.bind_some]; rfl
      · refine ⟨hsz, .inr ⟨b, hb, hbn, ?_, hv⟩⟩
        rw [Hp.get_set, if_pos rfl, List.append_nil]
    · have hle : Nat.ble (len + n) len = false := by rw [Bool.eq_false_iff]; simp [Nat.ble_eq]; omega
      rcases hv with rfl | rfl
      · have hgr : grow h e b j.size len n ws = some (.slo h.n 0 (len + n) (len + n) j.size, (h.new (.cells (cs ++ ws) e false)).set b .dead) := by
          unfold grow
          rw [hg]
          simp only [o.sized, Nat.beq_refl, hw, Bool.and_self, cond_true]
        refine ⟨.slo h.n 0 (len + n) (len + n) j.size, (h.new (.cells (cs ++ ws) e false)).set b .dead, fin (by simp only [appTo, Nat.beq_refl, hle, cond_true, cond_false, hok, Bool.and_self, hgr]), ?_, ⟨Nat.le_succ _, fun i hi => ?_⟩, fun c hc hne => ?_, fun c hc => by cases hc; exact .inr (Nat.le_refl _)⟩
        · exact ⟨hsz, .inr ⟨h.n, hN, Nat.lt_succ_self _, by rw [Hp.get_set, if_neg (by omega), Hp.get_new, if_pos rfl], .inl rfl⟩⟩
        · rw [Hp.get_set, if_neg (by omega), Hp.get_new, if_neg (by omega)]
        · have : c ≠ b := fun e => hne (by rw [e]; rfl)
          rw [Hp.get_set, if_neg this, Hp.get_new, if_neg (by omega)]
      · have hsub := sub_all (cs := cs) o.sized
        refine ⟨.slo h.n 0 (len + n) (len + n) j.size, h.new (.cells (cs ++ ws) e false), fin (by simp only [appTo, hle, cond_false, hok, cond_true, hrd, Option.bind_some, hsub]), ?_, Ext.new hN _, fun c hc _ => by rw [Hp.get_new, if_neg (by omega)], fun c hc => by cases hc; exact .inr (Nat.le_refl _)⟩
        exact ⟨hsz, .inr ⟨h.n, hN, Nat.lt_succ_self _, by rw [Hp.get_new, if_pos rfl], .inl rfl⟩⟩
/-- what is appended, read -/
theorem elems_rd {h : Hp} {sz : Nat} {y : V} {n : Nat} {ws : List V} (r : Rd h sz y n ws) : elemsV h sz y = some (ws, n) ∧ isStr y = false := by
  rcases r.at_ with ⟨rfl | rfl, rfl⟩ | ⟨b, off, vs, h1, h2, ⟨c, rfl⟩ | ⟨lo, z, rfl⟩⟩
  · have : ws = [] := by simpa using r.sized
    subst this
    exact ⟨rfl, rfl⟩
  · have : ws = [] := by simpa using r.sized
    subst this
    exact ⟨rfl, rfl⟩
  · exact ⟨by simp only [elemsV, h1, Option.bind_some, h2], rfl⟩
  · exact ⟨by simp only [elemsV, h1, Option.bind_some, h2], rfl⟩
/-- a literal of one element -/
theorem pu_lit1 {h : Hp} {t e sz : Nat} {z : List V} {ag : Bool} (ht : IsSl E t e) (he : El E e sz z ag) (x : V) (hx : x.cells.length = sz) (hs : sz ≤ 65536) (q : V → Hp → Blk → Prop) :
    (Pu E).bsl h t 1 [(0, x)] q ↔ q (.sl h.n 0 1 1) (h.new (.cells x.cells e false)) (.cells x.cells e false) := by
  obtain ⟨ti, h1, h2⟩ := ht
  obtain ⟨⟨j, h5, h6, h7, h8, _⟩, h9⟩ := he
  subst h6
  show (∃ y, vbuildSlice E t 1 [(0, x)] = some y ∧ q (y.1.at h.n) (h.new y.2) y.2) ↔ _
  have hspl : ∀ (ws l : List V), l.length = ws.length → spl l 0 ws = some ws := by
    intro ws
    induction ws with
    | nil => intro l hl; cases l with | nil => rfl | cons _ _ => cases hl
    | cons w ws ih => intro l hl; cases l with
      | nil => cases hl
      | cons a l => simp only [spl, ih l (by simpa using hl), Option.bind_some]
  have hc : (Nat.ble (1 * j.size) 16777216 && Nat.beq ((j.zero.getD []).length) j.size) = true := by
    rw [h7, Option.getD_some, h9, Nat.beq_refl, Bool.and_true]
    exact Nat.ble_eq_true_of_le (by omega)
  have hf : fillV (placesOf j.size 0 1) (rep 1 z) [(0, x)] = some x.cells := by
    have hr : rep 1 z = z := by simp [rep]
    rw [hr]
    have hb : (Nat.beq x.cells.length j.size && Nat.ble (0 * j.size + j.size) z.length) = true := by
      rw [hx, Nat.beq_refl, Bool.true_and]
      exact Nat.ble_eq_true_of_le (by omega)
    simp only [fillV, placesOf, List.getElem?_cons_zero, Option.bind_some, hb, cond_true]
    rw [Nat.zero_mul, hspl x.cells z (by omega)]
    rfl
  rw [h7] at hc
  have : vbuildSlice E t 1 [(0, x)] = some (.sl 1 1, .cells x.cells e false) := by
    simp only [vbuildSlice, h1, Option.bind_some, h2, h5, hc, cond_true, h7, hf]
  rw [this]
  simp [Fr.at]
theorem rd_lit {h : Hp} {sz : Nat} {ws : List V} {e : Nat} (hw : ws.length = sz) : Own h.n (h.new (.cells ws e false)) (.sl h.n 0 1 1) e sz 1 ws :=
  ⟨by omega, .inr ⟨h.n, Nat.le_refl _, Nat.lt_succ_self _, by rw [Hp.get_new, if_pos rfl], .inr rfl⟩⟩
/-! ### parts of a slice -/
theorem bounds_nat (a b len cap : Nat) (k j : IntKind) (hb : b ≤ cap) (ha : a ≤ b) : bounds (some (.int k a)) (some (.int j b)) none len cap = some (a, b, cap) := by
  have e : bound none cap cap = some cap := rfl
  simp only [bounds, e, Option.bind_some, bound_nat _ _ _ _ hb, bound_nat _ _ _ _ ha]
theorem bounds_from (a len cap : Nat) (k : IntKind) (ha : a ≤ len) : bounds (some (.int k a)) none none len cap = some (a, len, cap) := by
  have e : bound none cap cap = some cap := rfl
  have e2 : bound none cap len = some len := rfl
  simp only [bounds, e, e2, Option.bind_some, bound_nat _ _ _ _ ha]
theorem bounds_to (b len cap : Nat) (j : IntKind) (hb : b ≤ cap) : bounds none (some (.int j b)) none len cap = some (0, b, cap) := by
  have e : bound none cap cap = some cap := rfl
  have e2 : bound none b 0 = some 0 := rfl
  simp only [bounds, e, Option.bind_some, bound_nat _ _ _ _ hb, e2]
theorem sub_part {vs cs : List V} {off n a m : Nat} (h : sub vs off n = some cs) (ha : a + m ≤ n) : sub vs (off + a) m = some ((cs.drop a).take m) := by
  obtain ⟨h1, h2, _⟩ := sub_some h
  have e : (vs.drop (off + a)).take m = (cs.drop a).take m := by
    rw [h1, List.drop_take, List.take_take, List.drop_drop, Nat.min_eq_left (by omega)]
  unfold sub
  rw [e]
  have : ((cs.drop a).take m).length = m := by simp only [List.length_take, List.length_drop]; omega
  simp only [this, Nat.beq_refl, cond_true]
/-- a slice whose bound on what it can have is no less than its length -/
def Fits (len : Nat) (v : V) : Prop := (∀ b off l c, v = .sl b off l c → len ≤ c) ∧ ∀ b off l lo z, v = .slo b off l lo z → len ≤ lo
/-- what a cut of a slice gives: three ways to say where -/
theorem cut_sub {h : Hp} {sz : Nat} {v : V} {len : Nat} {cs : List V} (r : Rd h sz v len cs) (hf : Fits len v) {t e : TypeId} (ht : IsSl E t e) {z : List V} {ag : Bool} (he : El E e sz z ag) (hz : ∀ b off l lo y, v = .slo b off l lo y → y = sz) {lo hi : Option V} {a b : Nat} (hab : a ≤ b) (hb : b ≤ len)
    (hB : ∀ cap, len ≤ cap → bounds lo hi none len cap = some (a, b, cap)) :
    ∃ u, (∀ q : V → Prop, (Pu E).slice t v lo hi none q ↔ q u) ∧ Rd h sz u (b - a) ((cs.drop (a * sz)).take ((b - a) * sz)) ∧ (∀ c, blkOf u = some c → blkOf v = some c) ∧ Fits (b - a) u ∧ ∀ b off l lo y, u = .slo b off l lo y → y = sz := by
  obtain ⟨ti, h1, h2⟩ := ht
  obtain ⟨⟨j, h3, h4, h5, h6, h7⟩, h8⟩ := he
  subst h4
  have hsize : (((cs.drop (a * j.size)).take ((b - a) * j.size))).length = (b - a) * j.size := by
    have e1 : a * j.size + (b - a) * j.size ≤ len * j.size := by
      rw [← Nat.add_mul]; exact Nat.mul_le_mul_right _ (by omega)
    have := r.sized
    simp only [List.length_take, List.length_drop]; omega
  have fin : ∀ {u : V}, vslice E t v lo hi none = some u → ∀ q : V → Prop, (Pu E).slice t v lo hi none q ↔ q u := by
    intro u hu q
    show (∃ w, vslice E t v lo hi none = some w ∧ q w) ↔ _
    rw [hu, ex_some]
  rcases r.at_ with ⟨hv, rfl⟩ | ⟨B, off, vs, hr, hs, hk⟩
  · obtain rfl : b = 0 := by omega
    obtain rfl : a = 0 := by omega
    have hb0 := hB 0 (Nat.le_refl _)
    have hcs : cs = [] := by have := r.sized; simpa using this
    subst hcs
    rcases hv with rfl | rfl
    · refine ⟨.nils, fin ?_, ⟨by simp, .inl ⟨.inl rfl, rfl⟩⟩, fun _ h => h, ⟨by simp, by simp⟩, by simp⟩
      simp only [vslice, h1, Option.bind_some, h2, h3, hb0]
    · refine ⟨.emp, fin ?_, ⟨by simp, .inl ⟨.inr rfl, rfl⟩⟩, fun _ h => h, ⟨by simp, by simp⟩, by simp⟩
      simp only [vslice, h1, Option.bind_some, h2, h3, hb0]
  · have e1 : a * j.size + (b - a) * j.size ≤ len * j.size := by
      rw [← Nat.add_mul]; exact Nat.mul_le_mul_right _ (by omega)
    have hsub := sub_part hs e1
    rcases hk with ⟨cap, rfl⟩ | ⟨low, y, rfl⟩
    · have hcap := hf.1 _ _ _ _ rfl
      refine ⟨slOf B off j.size (a, b, cap), fin ?_, ?_, fun c hc => ?_, ⟨fun _ _ _ _ e => (by cases e; omega), fun _ _ _ _ _ e => (by cases e)⟩, fun _ _ _ _ _ e => (by cases e)⟩
      · simp only [vslice, h1, Option.bind_some, h2, h3, hB cap hcap]
      · refine ⟨hsize, ?_⟩
        by_cases hca : cap = a
        · have : b = a := by omega
          subst this
          refine .inr ⟨B, off, vs, hr, ?_, .inl ⟨b - b, by simp only [slOf, hca, Nat.beq_refl, cond_true]⟩⟩
          simp [sub]
        · have hbq : Nat.beq cap a = false := by rw [Bool.eq_false_iff]; simpa [Nat.beq_eq] using hca
          exact .inr ⟨B, off + a * j.size, vs, hr, hsub, .inl ⟨cap - a, by simp only [slOf, hbq, cond_false]⟩⟩
      · simp only [slOf, blkOf] at hc ⊢; exact hc
    · have hlow := hf.2 _ _ _ _ _ rfl
      obtain rfl := hz _ _ _ _ _ rfl
      by_cases hl : (Nat.beq a 0 || Nat.blt a low) = true
      · refine ⟨.slo B (off + a * j.size) (b - a) (low - a) j.size, fin ?_, ⟨hsize, .inr ⟨B, _, vs, hr, hsub, .inr ⟨_, _, rfl⟩⟩⟩, fun c hc => hc, ⟨fun _ _ _ _ e => (by cases e), fun _ _ _ _ _ e => (by cases e; omega)⟩, fun _ _ _ _ _ e => (by cases e; rfl)⟩
        simp only [vslice, h1, Option.bind_some, h2, h3, Nat.beq_refl, cond_true, hB low hlow, sloOf, hl]
      · have hl2 : (Nat.beq a 0 || Nat.blt a low) = false := by rw [Bool.eq_false_iff]; exact hl
        have hba : b = a := by
          simp only [Bool.or_eq_false_iff] at hl2
          have : ¬ a < low := fun h => by
            have h9 : Nat.blt a low = true := by rw [Nat.blt_eq]; exact h
            rw [h9] at hl2
            cases hl2.2
          omega
        subst hba
        refine ⟨.emp, fin ?_, ⟨hsize, .inl ⟨.inr rfl, by omega⟩⟩, fun c hc => (by cases hc), ⟨by simp, by simp⟩, by simp⟩
        simp only [vslice, h1, Option.bind_some, h2, h3, Nat.beq_refl, cond_true, hB low hlow, sloOf, hl2, cond_false]
theorem strV_of : ∀ {l : List Nat}, (∀ x ∈ l, x < 256) → strV (l.map fun (b : Nat) => V.int .u8 (b : Int)) = some l
  | [], _ => rfl
  | b :: l, h => by
    have hb : Nat.blt b 256 = true := by rw [Nat.blt_eq]; exact h b (by simp)
    rw [List.map_cons]
    show (bif Nat.blt b 256 then (strV (l.map fun (b : Nat) => V.int .u8 (b : Int))).bind fun l => some (b :: l) else none) = _
    rw [hb, strV_of fun x hx => h x (by simp [hx])]
    rfl
theorem strW_of {l : List Nat} (hl : ∀ x ∈ l, x < 256) : strW E (l.map fun (b : Nat) => V.int .u8 (b : Int)) = some (.str l) := by
  unfold strW
  rw [strV_of hl]
theorem pu_conv_bs {h : Hp} {v : V} {l : List Nat} (r : Rd h 1 v l.length (l.map fun (b : Nat) => V.int .u8 (b : Int))) (hl : ∀ x ∈ l, x < 256) {s d e : Nat} (hs : IsSl E s e) (he : IsInt E e .u8) (hd : IsStr E d) (q : V → Prop) : (Pu E).conv h s d v q ↔ q (.str l) := by
  obtain ⟨i, h1, h2⟩ := hs
  obtain ⟨j, h3, h4⟩ := hd
  obtain ⟨m, h5, h6⟩ := he
  show (∃ u, vconv E h s d v = some u ∧ q u) ↔ _
  have : vconv E h s d v = some (.str l) := by
    rcases r.at_ with ⟨rfl | rfl, h0⟩ | ⟨b, off, vs, hr, hs, ⟨c, rfl⟩ | ⟨lo, z, rfl⟩⟩
    · have : l = [] := by simpa using h0
      subst this
      simp only [vconv, h1, h3, Option.bind_some, h4, h2, convStr, h5, h6]
    · have : l = [] := by simpa using h0
      subst this
      simp only [vconv, h1, h3, Option.bind_some, h4, h2, convStr, h5, h6]
    · rw [Nat.mul_one] at hs
      simp only [vconv, h1, h3, Option.bind_some, h4, h2, convStr, h5, h6, hr, hs, strW_of hl]
    · rw [Nat.mul_one] at hs
      simp only [vconv, h1, h3, Option.bind_some, h4, h2, convStr, h5, h6, hr, hs, strW_of hl]
  rw [this, ex_some]
theorem Own.fits {N : Nat} {h : Hp} {v : V} {el sz len : Nat} {cs : List V} (o : Own N h v el sz len cs) : Fits len v ∧ ∀ b off l lo y, v = .slo b off l lo y → y = sz := by
  rcases o.at_ with ⟨rfl, _⟩ | ⟨c, _, h1, _, rfl | rfl⟩
  · exact ⟨⟨by simp, by simp⟩, by simp⟩
  · exact ⟨⟨by simp, fun _ _ _ _ _ e => by cases e; omega⟩, fun _ _ _ _ _ e => by cases e; rfl⟩
  · exact ⟨⟨fun _ _ _ _ e => by cases e; omega, by simp⟩, by simp⟩
end
end Go.Proofs.YtlllhhjlfmhmlaaGreatDoor.VM
namespace Go.Proofs.YtlllhhjlfmhmlaaGreatDoor.VM
open Go
noncomputable section
attribute [local instance] syZ
variable {E : Env}
theorem fa_of {t b o f : Nat} {p : V} (h : vfieldAddr E t (.ptr b o) f = some p) (q : V → Prop) : (Pu E).faddr t (.ptr b o) f q ↔ q p := by
  show (∃ v, vfieldAddr E t (.ptr b o) f = some v ∧ q v) ↔ _
  rw [h, ex_some]
theorem fi_of {t f : Nat} {x y : V} (h : vfield E t x f = some y) (q : V → Prop) : (Pu E).field t x f q ↔ q y := by
  show (∃ v, vfield E t x f = some v ∧ q v) ↔ _
  rw [h, ex_some]
def StructOf (E : Env) (t : Nat) (pl : List (Nat × Nat)) (z : List V) : Prop := ∃ i fs, E.ty.get t = some i ∧ i.zero = some z ∧ i.k = .struct fs ∧ sizesOf E fs = some pl
theorem structOf {t : Nat} {pl : List (Nat × Nat)} {z : List V} (h : ((E.ty.get t).bind fun i => match i.k with | .struct fs => (sizesOf E fs).bind fun pl => i.zero.map fun z => (pl, z) | _ => none) = some (pl, z)) : StructOf E t pl z := by
  rw [Option.bind_eq_some_iff] at h
  obtain ⟨i, h1, h2⟩ := h
  split at h2
  · rename_i fs hk
    rw [Option.bind_eq_some_iff] at h2
    obtain ⟨p, h3, h4⟩ := h2
    rw [Option.map_eq_some_iff] at h4
    obtain ⟨z', h5, h6⟩ := h4
    cases h6
    exact ⟨i, fs, h1, h5, hk, h3⟩
  · cases h2
/-- one cell, no struct -/
def C1 (v : V) : Prop := v.cells = [v] ∧ v.isCell = true
theorem c1_int (k : IntKind) (n : Int) : C1 (.int k n) := ⟨rfl, rfl⟩
theorem c1_str (s : List Nat) : C1 (.str s) := ⟨rfl, rfl⟩
theorem c1_bool (b : Bool) : C1 (.bool b) := ⟨rfl, rfl⟩
theorem Rd.c1 {h : Hp} {sz : Nat} {v : V} {len : Nat} {cs : List V} (r : Rd h sz v len cs) : C1 v := by
  rcases r.at_ with ⟨rfl | rfl, _⟩ | ⟨b, off, vs, _, _, ⟨c, rfl⟩ | ⟨lo, z, rfl⟩⟩ <;> exact ⟨rfl, rfl⟩
theorem spl_one : ∀ (cs : List V) (o : Nat) (v : V), o < cs.length → spl cs o [v] = some (cs.set o v)
  | [], _, _, h => by simp at h
  | c :: cs, 0, v, _ => by cases cs <;> simp [spl]
  | c :: cs, o + 1, v, h => by simp only [spl, spl_one cs o v (by simpa using h), Option.bind_some, List.set_cons_succ]
def setAll (pl : List (Nat × Nat)) : List V → List (Nat × V) → List V
  | cs, [] => cs
  | cs, (i, v) :: r => setAll pl (cs.set ((pl[i]?).getD (0, 0)).1 v) r
def placesOK (pl : List (Nat × Nat)) (n : Nat) : List (Nat × V) → Bool
  | [] => true
  | (i, _) :: r => match pl[i]? with
    | some (o, s) => Nat.beq s 1 && Nat.blt o n && placesOK pl n r
    | none => false
theorem fill_cells (pl : List (Nat × Nat)) : ∀ (ps : List (Nat × V)) (cs : List V), (∀ p ∈ ps, C1 p.2) → placesOK pl cs.length ps = true → fillV pl cs ps = some (setAll pl cs ps)
  | [], cs, _, _ => by simp [fillV, setAll]
  | (i, v) :: r, cs, hc, hp => by
    rw [placesOK] at hp
    split at hp
    · rename_i o s hi
      simp only [Bool.and_eq_true] at hp
      obtain ⟨⟨h1, h2⟩, h3⟩ := hp
      obtain rfl := Nat.eq_of_beq_eq_true h1
      have ho : o < cs.length := by simpa [Nat.blt_eq] using h2
      have hv := (hc (i, v) (by simp)).1
      have hcells : v.cells = [v] := hv
      have hb : (Nat.beq v.cells.length 1 && Nat.ble (o + 1) cs.length) = true := by rw [hcells]; simp; omega
      rw [fillV, hi, Option.bind_some]
      simp only [hb, cond_true]
      rw [hcells, spl_one cs o v ho, Option.bind_some, setAll, hi, Option.getD_some]
      exact fill_cells pl r _ (fun p hp => hc p (by simp [hp])) (by rw [List.length_set]; exact h3)
    · cases hp
theorem pu_build {t : Nat} {pl : List (Nat × Nat)} {z : List V} (ht : StructOf E t pl z) (ps : List (Nat × V)) (hc : ∀ p ∈ ps, C1 p.2) (hp : placesOK pl z.length ps = true) (q : V → Prop) : (Pu E).build t ps q ↔ q (.agg (setAll pl z ps)) := by
  obtain ⟨i, fs, h1, h2, h3, h4⟩ := ht
  show (∃ v, vbuild E t ps = some v ∧ q v) ↔ _
  have : vbuild E t ps = some (.agg (setAll pl z ps)) := by
    simp only [vbuild, h1, Option.bind_some, h2, h3, h4, fill_cells pl ps z hc hp]
  rw [this, ex_some]
/-! ### boxes -/
theorem pu_alloc {e sz : Nat} {z : List V} {ag : Bool} (he : El E e sz z ag) (h : Hp) (q : V → Hp → Blk → Prop) : (Pu E).alloc h e q ↔ q (.ptr h.n 0) (h.new (.cells z e false)) (.cells z e false) := by
  obtain ⟨⟨j, h5, h6, h7, h8, _⟩, h9⟩ := he
  show (∃ x, fAlloc E e = some x ∧ q (x.1.at h.n) (h.new x.2) x.2) ↔ _
  have : fAlloc E e = some (.ptr, .cells z e false) := by simp only [fAlloc, h5, Option.bind_some, h7, newCells]
  rw [this]; simp [Fr.at]
theorem pu_box {e : Nat} {x : V} (hx : allCells x.cells = true) (h : Hp) (q : V → Hp → Blk → Prop) : (Pu E).box h e x q ↔ q (.ptr h.n 0) (h.new (.cells x.cells e false)) (.cells x.cells e false) := by
  show (∃ y, boxV e x = some y ∧ q (y.1.at h.n) (h.new y.2) y.2) ↔ _
  have : boxV e x = some (.ptr, .cells x.cells e false) := by simp only [boxV, hx, cond_true, newCells]
  rw [this]; simp [Fr.at]
theorem rdCells_of {h : Hp} {b e : Nat} {vs : List V} {ro : Bool} (hg : h.t.get b = some (.cells vs e ro)) : rdCells h b = some vs := by unfold rdCells; rw [hg]
/-- a cell of a block -/
theorem pu_load1 {e : Nat} {z : List V} (he : El E e 1 z false) {h : Hp} {b o f : Nat} {vs : List V} {ro : Bool} (hg : h.t.get b = some (.cells vs f ro)) {v : V} (hv : vs[o]? = some v) (q : V → Prop) : (Pu E).load h e (.ptr b o) q ↔ q v := by
  obtain ⟨⟨j, h3, h4, h5, h6, h7⟩, h8⟩ := he
  show (∃ u, vload E h e (.ptr b o) = some u ∧ q u) ↔ _
  have : vload E h e (.ptr b o) = some v := by
    simp only [vload, rdCells_of hg, Option.bind_some, partV, h3]
    split at h7 <;> first | (cases h7; done) | skip
    rename_i g1 g2
    split
    · exact absurd ‹_› (g1 _)
    · exact absurd ‹_› (g2 _ _)
    · exact hv
  rw [this, ex_some]
/-- a struct of a block -/
theorem pu_loadS {e sz : Nat} {z : List V} (he : El E e sz z true) {h : Hp} {b o f : Nat} {vs : List V} {ro : Bool} (hg : h.t.get b = some (.cells vs f ro)) {l : List V} (hv : sub vs o sz = some l) (q : V → Prop) : (Pu E).load h e (.ptr b o) q ↔ q (.agg l) := by
  obtain ⟨⟨j, h3, h4, h5, h6, h7⟩, h8⟩ := he
  subst h4
  show (∃ u, vload E h e (.ptr b o) = some u ∧ q u) ↔ _
  have : vload E h e (.ptr b o) = some (.agg l) := by
    simp only [vload, rdCells_of hg, Option.bind_some, partV, h3]
    split at h7 <;> first | (cases h7; done) | skip
    · rename_i fs hk
      rw [hk]; simp only [hv, Option.bind_some]
    · rename_i m e' hk
      rw [hk]; simp only [hv, Option.bind_some]
  rw [this, ex_some]
theorem pu_store {e sz : Nat} {z : List V} {ag : Bool} (he : El E e sz z ag) {h : Hp} {b o f : Nat} {vs : List V} (hg : h.t.get b = some (.cells vs f false)) {x : V} (hx : x.cells.length = sz) (hc : allCells x.cells = true) {r : List V} (hr : spl vs o x.cells = some r) (q : Hp → Prop) : (Pu E).store h e (.ptr b o) x q ↔ q (h.set b (.cells r f false)) := by
  obtain ⟨⟨j, h3, h4, h5, h6, h7⟩, h8⟩ := he
  subst h4
  show (∃ u, vstore E h e (.ptr b o) x = some u ∧ q u) ↔ _
  have : vstore E h e (.ptr b o) x = some (h.set b (.cells r f false)) := by
    have hb : Nat.beq x.cells.length j.size = true := by rw [hx]; exact Nat.beq_refl _
    simp only [vstore, h3, Option.bind_some, hb, cond_true, wrCells, hg, hc, hr]
  rw [this, ex_some]
theorem pu_nilc (b o : Nat) (q : V → Prop) : (Pu E).nilc (.ptr b o) q ↔ q (.ptr b o) := by
  show (∃ v, nilCheckV (.ptr b o) = some v ∧ q v) ↔ _
  simp only [nilCheckV, ex_some]
theorem pu_extr {i : Nat} {l : List V} {v : V} (h : l[i]? = some v) (q : V → Prop) : (Pu E).extr (.tup l) i q ↔ q v := by
  show (∃ u, extractV i (.tup l) = some u ∧ q u) ↔ _
  rw [extractV, h, ex_some]
theorem pu_extr0 (x : V) (l : List V) (q : V → Prop) : (Pu E).extr (.tup (x :: l)) 0 q ↔ q x := pu_extr rfl q
theorem pu_extr1 (x y : V) (l : List V) (q : V → Prop) : (Pu E).extr (.tup (x :: y :: l)) 1 q ↔ q y := pu_extr rfl q
theorem pu_extr2 (x y z : V) (l : List V) (q : V → Prop) : (Pu E).extr (.tup (x :: y :: z :: l)) 2 q ↔ q z := pu_extr rfl q
theorem pu_gval_y (w : Bool) (f : (V → Prop) → Prop) (k : V → Prop) : (Pu E).gval (.bool w) w f k ↔ f k := by
  show (∃ c, wantV (.bool w) w = some c ∧ (c = true → f k) ∧ (c = false → k undefV)) ↔ _
  simp [wantV]
theorem pu_gval_n (w : Bool) (f : (V → Prop) → Prop) (k : V → Prop) : (Pu E).gval (.bool (!w)) w f k ↔ k undefV := by
  show (∃ c, wantV (.bool (!w)) w = some c ∧ (c = true → f k) ∧ (c = false → k undefV)) ↔ _
  cases w <;> simp [wantV]
theorem pu_gval_tf (f : (V → Prop) → Prop) (k : V → Prop) : (Pu E).gval (.bool true) false f k ↔ k undefV := pu_gval_n false f k
theorem pu_gval_ft (f : (V → Prop) → Prop) (k : V → Prop) : (Pu E).gval (.bool false) true f k ↔ k undefV := pu_gval_n true f k
theorem pu_geff_y (w : Bool) (f : (V → Hp → Prop) → Prop) (h : Hp) (k : V → Hp → Prop) : (Pu E).geff (.bool w) w f h k ↔ f k := by
  show (∃ c, wantV (.bool w) w = some c ∧ (c = true → f k) ∧ (c = false → k undefV h)) ↔ _
  simp [wantV]
theorem pu_geff_tf (f : (V → Hp → Prop) → Prop) (h : Hp) (k : V → Hp → Prop) : (Pu E).geff (.bool true) false f h k ↔ k undefV h := by
  show (∃ c, wantV (.bool true) false = some c ∧ (c = true → f k) ∧ (c = false → k undefV h)) ↔ _
  simp [wantV]
theorem pu_geff_ft (f : (V → Hp → Prop) → Prop) (h : Hp) (k : V → Hp → Prop) : (Pu E).geff (.bool false) true f h k ↔ k undefV h := by
  show (∃ c, wantV (.bool false) true = some c ∧ (c = true → f k) ∧ (c = false → k undefV h)) ↔ _
  simp [wantV]
theorem pu_pick_t (a : V) (b : Option V) (q : V → Prop) : (Pu E).pick (.bool true) (some a) b q ↔ q a := by
  show (∃ x, V.bool true = .bool x ∧ ∃ v, (bif x then some a else b) = some v ∧ q v) ↔ _
  exact ⟨fun ⟨x, h1, v, h2, h3⟩ => by cases h1; cases h2; exact h3, fun h => ⟨true, rfl, a, rfl, h⟩⟩
theorem pu_pick_f (a : Option V) (b : V) (q : V → Prop) : (Pu E).pick (.bool false) a (some b) q ↔ q b := by
  show (∃ x, V.bool false = .bool x ∧ ∃ v, (bif x then a else some b) = some v ∧ q v) ↔ _
  exact ⟨fun ⟨x, h1, v, h2, h3⟩ => by cases h1; cases h2; exact h3, fun h => ⟨false, rfl, b, rfl, h⟩⟩
/-- a new block, and nothing else -/
structure New (h h1 : Hp) (b : Nat) (k : Blk) : Prop where
  at_ : h1.t.get b = some k
  n : h1.n = h.n + 1
  b : b = h.n
  old : ∀ c, c < h.n → h1.t.get c = h.t.get c
theorem New.mk' (h : Hp) (k : Blk) : New h (h.new k) h.n k := ⟨by rw [Hp.get_new, if_pos rfl], rfl, rfl, fun c hc => by rw [Hp.get_new, if_neg (by omega)]⟩
theorem New.ext {h h1 : Hp} {b : Nat} {k : Blk} (w : New h h1 b k) {N : Nat} (hN : N ≤ h.n) : Ext N h h1 := ⟨by rw [w.n]; omega, fun c hc => w.old c (by omega)⟩
theorem pu_allocX {e sz : Nat} {z : List V} {ag : Bool} (he : El E e sz z ag) {h : Hp} {q : V → Hp → Blk → Prop} (hq : ∀ h1 b, New h h1 b (.cells z e false) → q (.ptr b 0) h1 (.cells z e false)) : (Pu E).alloc h e q :=
  (pu_alloc he h q).2 (hq _ _ (New.mk' _ _))
theorem pu_boxX {e : Nat} {cs : List V} (hc : allCells cs = true) {h : Hp} {q : V → Hp → Blk → Prop} (hq : ∀ h1 b, New h h1 b (.cells cs e false) → q (.ptr b 0) h1 (.cells cs e false)) : (Pu E).box h e (.agg cs) q :=
  (pu_box (x := .agg cs) hc h q).2 (hq _ _ (New.mk' _ _))
/-- one block is written -/
structure Wr (h h1 : Hp) (b : Nat) (k : Blk) : Prop where
  at_ : h1.t.get b = some k
  n : h1.n = h.n
  other : ∀ c, c ≠ b → h1.t.get c = h.t.get c
theorem Wr.ext {h h1 : Hp} {b : Nat} {k : Blk} (w : Wr h h1 b k) {N : Nat} (hN : N ≤ b) : Ext N h h1 := ⟨by rw [w.n]; exact Nat.le_refl _, fun c hc => w.other c (by omega)⟩
theorem pu_storeX {e sz : Nat} {z : List V} {ag : Bool} (he : El E e sz z ag) {h : Hp} {b o f : Nat} {vs : List V} (hg : h.t.get b = some (.cells vs f false)) {x : V} (hx : x.cells.length = sz) (hc : allCells x.cells = true) {r : List V} (hr : spl vs o x.cells = some r) {q : Hp → Prop} (hq : ∀ h1, Wr h h1 b (.cells r f false) → q h1) : (Pu E).store h e (.ptr b o) x q :=
  (pu_store he hg hx hc hr q).2 (hq _ ⟨by rw [Hp.get_set, if_pos rfl], rfl, fun c hc => by rw [Hp.get_set, if_neg hc]⟩)
theorem pu_bslX {t e n : Nat} {z : V} (ht : IsSl E t e) (he : El E e 1 [z] false) (ps : List (Nat × V)) (hc : ∀ p ∈ ps, C1 p.2) (hp : placesOK (placesOf 1 0 n) (rep n [z]).length ps = true) (hn : n ≤ 65536) {h : Hp} {q : V → Hp → Blk → Prop}
    (hq : ∀ h1 b, New h h1 b (.cells (setAll (placesOf 1 0 n) (rep n [z]) ps) e false) → q (.sl b 0 n n) h1 (.cells (setAll (placesOf 1 0 n) (rep n [z]) ps) e false)) : (Pu E).bsl h t n ps q := by
  obtain ⟨ti, h1, h2⟩ := ht
  obtain ⟨⟨j, h5, h6, h7, h8, _⟩, h9⟩ := he
  have hcb : (Nat.ble (n * j.size) 16777216 && Nat.beq ((j.zero.getD []).length) j.size) = true := by
    rw [h6, h7]
    simp only [Option.getD_some, List.length_cons, List.length_nil, Nat.mul_one, Bool.and_eq_true]
    exact ⟨Nat.ble_eq_true_of_le (by omega), rfl⟩
  have : vbuildSlice E t n ps = some (.sl n n, .cells (setAll (placesOf 1 0 n) (rep n [z]) ps) e false) := by
    simp only [vbuildSlice, h1, Option.bind_some, h2, h5]
    rw [hcb, h7, h6]
    simp only [cond_true, Option.bind_some]
    rw [fill_cells _ ps _ hc hp]
    rfl
  exact ⟨_, this, hq _ _ (New.mk' _ _)⟩
theorem same1_refl : ∀ v : V, v.isCell = true → (∀ f a c, v ≠ .fn f a c) → (∀ t x, v ≠ .iface t x) → v ≠ .any → same1 v v = true := by
  intro v h1 h2 h3 h4
  cases v <;> simp [same1, keq_refl, ieq_dec, seq_dec] <;> first | (exact absurd rfl h4) | (exact absurd rfl (h2 _ _ _)) | (exact absurd rfl (h3 _ _)) | (cases h1; done) | skip
end
end Go.Proofs.YtlllhhjlfmhmlaaGreatDoor.VM
namespace Go.Proofs.YtlllhhjlfmhmlaaGreatDoor.VM
open Go
set_option linter.unusedVariables false
set_option linter.unusedSectionVars false
noncomputable section
attribute [local instance] syZ
variable {E : Env}
structure KeyOf (E : Env) (q : Nat) {K : Type} [DecidableEq K] (key : K → V) : Prop where
  out : ∃ j, E.ty.get q = some j ∧ ∀ a b, veqK j (key a) (key b) = some (decide (a = b))
def IsMap (E : Env) (t q e : Nat) : Prop := ∃ i, E.ty.get t = some i ∧ i.k = .map q e
theorem isMap {t q e : Nat} (h : (E.ty.get t).map (·.k) = some (.map q e)) : IsMap E t q e := by
  obtain ⟨i, h1, h2⟩ := Option.map_eq_some_iff.1 h; exact ⟨i, h1, h2⟩
section
variable {K : Type} [DecidableEq K] {key : K → V}
abbrev Es (K : Type) := List (K × V × Nat)
def esV (key : K → V) (es : Es K) : List (V × V × Nat) := es.map fun x => (key x.1, x.2.1, x.2.2)
def findE (k : K) : Es K → Nat → Option (Nat × V × Nat)
  | [], _ => none
  | (a, v, b) :: r, n => if k = a then some (n, v, b) else findE k r (n + 1)
theorem findM_es {q : Nat} {j : TI} (hk : ∀ a b, veqK j (key a) (key b) = some (decide (a = b))) (k : K) : ∀ (es : Es K) (n : Nat), findM j (key k) (esV key es) n = some (findE k es n)
  | [], n => rfl
  | (a, v, b) :: r, n => by
    show ((veqK j (key k) (key a)).bind fun c => bif c then some (some (n, v, b)) else findM j (key k) (esV key r) (n + 1)) = _
    rw [hk, Option.bind_some, findE]
    by_cases h : k = a
    · rw [decide_eq_true h, if_pos h]; rfl
    · rw [decide_eq_false h, if_neg h, cond_false, findM_es (q := q) hk k r (n + 1)]
def lookE (es : Es K) (k : K) : Option V := (findE k es 0).map (·.2.1)
theorem findE_val (k : K) : ∀ (es : Es K) (n m : Nat), (findE k es n).map (·.2.1) = (findE k es m).map (·.2.1)
  | [], n, m => rfl
  | (a, v, b) :: r, n, m => by
    rw [findE, findE]
    split
    · rfl
    · exact findE_val k r _ _
theorem lookE_cons (a : K) (v : V) (b : Nat) (r : Es K) (k : K) : lookE ((a, v, b) :: r) k = if k = a then some v else lookE r k := by
  unfold lookE
  rw [findE]
  split
  · rfl
  · exact findE_val k r _ _
theorem lookE_none {k : K} : ∀ {es : Es K}, lookE es k = none ↔ k ∉ es.map (·.1)
  | [] => by simp [lookE, findE]
  | (a, v, b) :: r => by
    rw [lookE_cons]
    split
    · rename_i h; simp [h]
    · rename_i h; rw [lookE_none (es := r)]; simp [h]
def updE (es : Es K) (k : K) (v : V) : Es K := es.map fun x => if x.1 = k then (x.1, v, x.2.2) else x
theorem updE_keys (es : Es K) (k : K) (v : V) : (updE es k v).map (·.1) = es.map (·.1) := by
  unfold updE
  rw [List.map_map]
  apply List.map_congr_left
  intro x _
  simp only [Function.comp]
  split <;> rfl
theorem updE_borns (es : Es K) (k : K) (v : V) : (updE es k v).map (·.2.2) = es.map (·.2.2) := by
  unfold updE
  rw [List.map_map]
  apply List.map_congr_left
  intro x _
  simp only [Function.comp]
  split <;> rfl
theorem updE_out {es : Es K} {k : K} (v : V) (h : k ∉ es.map (·.1)) : updE es k v = es := by
  unfold updE
  conv => rhs; rw [← List.map_id es]
  apply List.map_congr_left
  intro x hx
  have : x.1 ≠ k := fun e => h (e ▸ List.mem_map_of_mem hx)
  rw [if_neg this]
  rfl
theorem lookE_upd {k : K} {v : V} (k' : K) : ∀ {es : Es K}, k ∈ es.map (·.1) → lookE (updE es k v) k' = if k' = k then some v else lookE es k'
  | [], h => by cases h
  | (a, u, b) :: r, h => by
    have e : updE ((a, u, b) :: r) k v = (if a = k then (a, v, b) else (a, u, b)) :: updE r k v := by simp [updE]
    rw [e]
    by_cases hak : a = k
    · rw [if_pos hak, lookE_cons, lookE_cons]
      by_cases h1 : k' = a
      · rw [if_pos h1, if_pos (h1.trans hak)]
      · rw [if_neg h1, if_neg (fun q => h1 (q.trans hak.symm))]
        by_cases hk : k ∈ r.map (·.1)
        · rw [lookE_upd k' hk, if_neg (fun q => h1 (q.trans hak.symm)), if_neg h1]
        · rw [updE_out v hk, if_neg h1]
    · have hk : k ∈ r.map (·.1) := by
        simp only [List.map_cons, List.mem_cons] at h
        rcases h with h | h
        · exact absurd h.symm hak
        · exact h
      rw [if_neg hak, lookE_cons, lookE_cons, lookE_upd k' hk]
      by_cases h1 : k' = a
      · rw [if_pos h1, if_pos h1, if_neg (fun q => hak (h1.symm.trans q))]
      · rw [if_neg h1, if_neg h1]
theorem lookE_snoc {k : K} {v : V} {b : Nat} (k' : K) : ∀ {es : Es K}, k ∉ es.map (·.1) → lookE (es ++ [(k, v, b)]) k' = if k' = k then some v else lookE es k'
  | [], _ => by
    show lookE [(k, v, b)] k' = _
    rw [lookE_cons]
  | (a, u, c) :: r, h => by
    simp only [List.map_cons, List.mem_cons, not_or] at h
    rw [List.cons_append, lookE_cons, lookE_cons, lookE_snoc k' h.2]
    by_cases h1 : k' = a
    · rw [if_pos h1, if_pos h1, if_neg (fun q => h.1 (q.symm.trans h1))]
    · rw [if_neg h1, if_neg h1]
theorem setE_upd {k : K} (v : V) : ∀ {es : Es K} {n i : Nat} {u : V} {b : Nat}, (es.map (·.1)).Nodup → findE k es n = some (n + i, u, b) → setE (esV key es) i v = some (esV key (updE es k v))
  | [], n, i, u, b, _, h => by cases h
  | (a, w, c) :: r, n, i, u, b, hd, h => by
    have hd1 := List.nodup_cons.1 hd
    have e : updE ((a, w, c) :: r) k v = (if a = k then (a, v, c) else (a, w, c)) :: updE r k v := by simp [updE]
    rw [findE] at h
    by_cases hka : k = a
    · rw [if_pos hka] at h
      simp only [Option.some.injEq, Prod.mk.injEq] at h
      have hi : i = 0 := by omega
      subst hi
      subst hka
      rw [e, if_pos rfl, updE_out v hd1.1]
      rfl
    · rw [if_neg hka] at h
      have hpos : ∀ (r : Es K) (m : Nat) (p : Nat × V × Nat), findE k r m = some p → m ≤ p.1 := by
        intro r
        induction r with
        | nil => intro m p h; cases h
        | cons x r ih =>
          obtain ⟨x1, x2, x3⟩ := x
          intro m p h
          rw [findE] at h
          split at h
          · cases h; exact Nat.le_refl _
          · have := ih _ _ h; omega
      have := hpos r (n + 1) _ h
      simp only at this
      obtain ⟨i', rfl⟩ : ∃ i', i = i' + 1 := ⟨i - 1, by omega⟩
      have ih := setE_upd v (i := i') hd1.2 (by rw [h]; congr 2; omega)
      rw [e, if_neg (fun q => hka q.symm)]
      show ((setE (esV key r) i' v).bind fun l => some ((key a, w, c) :: l)) = _
      rw [ih]
      rfl
theorem setBorn_upd {k : K} (v : V) : ∀ {es : Es K} {n m : Nat} {u : V} {b : Nat}, (es.map (·.1)).Nodup → (es.map (·.2.2)).Nodup → findE k es n = some (m, u, b) → setBorn (esV key es) b v = some (esV key (updE es k v))
  | [], n, m, u, b, _, _, h => by cases h
  | (a, w, c) :: r, n, m, u, b, hd, hb, h => by
    have hd1 := List.nodup_cons.1 hd
    have hb1 := List.nodup_cons.1 hb
    have e : updE ((a, w, c) :: r) k v = (if a = k then (a, v, c) else (a, w, c)) :: updE r k v := by simp [updE]
    rw [findE] at h
    by_cases hka : k = a
    · rw [if_pos hka] at h
      simp only [Option.some.injEq, Prod.mk.injEq] at h
      obtain ⟨_, _, rfl⟩ := h
      subst hka
      rw [e, if_pos rfl, updE_out v hd1.1]
      show (bif Nat.beq c c then some ((key k, v, c) :: esV key r) else _) = _
      rw [Nat.beq_refl]
      rfl
    · rw [if_neg hka] at h
      have hmem : ∀ (r : Es K) (n : Nat) (p : Nat × V × Nat), findE k r n = some p → p.2.2 ∈ r.map (·.2.2) := by
        intro r
        induction r with
        | nil => intro n p h; cases h
        | cons x r ih =>
          obtain ⟨x1, x2, x3⟩ := x
          intro n p h
          rw [findE] at h
          split at h
          · cases h; simp
          · simp [ih _ _ h]
      have hcb : Nat.beq c b = false := by
        cases q : Nat.beq c b with
        | false => rfl
        | true =>
          have := Nat.eq_of_beq_eq_true q
          have h2 := hmem r _ _ h
          simp only at h2
          exact absurd (this ▸ h2) hb1.1
      rw [e, if_neg (fun q => hka q.symm)]
      show (bif Nat.beq c b then some ((key a, v, c) :: esV key r) else (setBorn (esV key r) b v).bind fun l => some ((key a, w, c) :: l)) = _
      rw [hcb, cond_false, setBorn_upd v hd1.2 hb1.2 h]
      rfl
/-- a map reads as a function -/
structure MapIs (key : K → V) (h : Hp) (b : Nat) (f : K → Option V) (es : Es K) (c : Nat) : Prop where
  at_ : h.t.get b = some (.map (esV key es) c)
  keys : (es.map (·.1)).Nodup
  borns : (es.map (·.2.2)).Nodup
  lt : ∀ x ∈ es, x.2.2 < c
  look : ∀ k, lookE es k = f k
def MapFn (key : K → V) (h : Hp) (b : Nat) (f : K → Option V) : Prop := ∃ es c, MapIs key h b f es c
def updF (f : K → Option V) (k : K) (v : V) : K → Option V := fun y => if y = k then some v else f y
theorem MapFn.empty {h : Hp} {b : Nat} (hb : h.t.get b = some (.map [] 0)) : MapFn key h b fun _ => none := ⟨[], 0, hb, by simp, by simp, by simp, fun _ => rfl⟩
theorem MapFn.keep {h h' : Hp} {b : Nat} {f : K → Option V} (m : MapFn key h b f) (e : h'.t.get b = h.t.get b) : MapFn key h' b f := by
  obtain ⟨es, c, h1, h2, h3, h4, h5⟩ := m; exact ⟨es, c, e.trans h1, h2, h3, h4, h5⟩
theorem MapFn.congr {h : Hp} {b : Nat} {f g : K → Option V} (m : MapFn key h b f) (e : ∀ k, f k = g k) : MapFn key h b g := by
  obtain ⟨es, c, h1, h2, h3, h4, h5⟩ := m; exact ⟨es, c, h1, h2, h3, h4, fun k => (h5 k).trans (e k)⟩
theorem MapIs.find_some {h : Hp} {b : Nat} {f : K → Option V} {es : Es K} {c : Nat} (m : MapIs key h b f es c) {k : K} {v : V} (hf : f k = some v) : ∃ i n, findE k es 0 = some (i, v, n) := by
  have := m.look k
  rw [hf] at this
  unfold lookE at this
  obtain ⟨⟨i, u, n⟩, h1, h2⟩ := Option.map_eq_some_iff.1 this
  simp only at h2
  subst h2
  exact ⟨i, n, h1⟩
theorem MapIs.find_none {h : Hp} {b : Nat} {f : K → Option V} {es : Es K} {c : Nat} (m : MapIs key h b f es c) {k : K} (hf : f k = none) : findE k es 0 = none ∧ k ∉ es.map (·.1) := by
  have := m.look k
  rw [hf] at this
  refine ⟨?_, lookE_none.1 this⟩
  unfold lookE at this
  exact Option.map_eq_none_iff.1 this
theorem keyOK_of {j : TI} (hk : ∀ a b, veqK j (key a) (key b) = some (decide (a = b))) (k : K) : keyOK j (key k) = true := by unfold keyOK; rw [hk]; simp
theorem pu_look {h : Hp} {b t q e : Nat} (ht : IsMap E t q e) (hq : KeyOf E q key) {f : K → Option V} (m : MapFn key h b f) (k : K) {v : V} (hf : f k = some v) (qq : V → Prop) : (Pu E).look h t (.mp b) (key k) false qq ↔ qq v := by
  obtain ⟨i, h1, h2⟩ := ht
  obtain ⟨j, h3, h4⟩ := hq
  obtain ⟨es, c, m⟩ := m
  obtain ⟨p, n, h5⟩ := m.find_some hf
  have : vlookup E h t (.mp b) (key k) false = some v := by
    simp only [vlookup, h1, Option.bind_some, h2, h3, keyOK_of h4, cond_true, mapOf, m.at_, findM_es (q := q) h4, h5]
    rfl
  show (∃ u, vlookup E h t (.mp b) (key k) false = some u ∧ qq u) ↔ _
  rw [this, ex_some]
theorem pu_look_none {h : Hp} {b t q e : Nat} (ht : IsMap E t q e) (hq : KeyOf E q key) {f : K → Option V} (m : MapFn key h b f) (k : K) (hf : f k = none) {z : V} (hz : vzero E e = some z) (qq : V → Prop) : (Pu E).look h t (.mp b) (key k) false qq ↔ qq z := by
  obtain ⟨i, h1, h2⟩ := ht
  obtain ⟨j, h3, h4⟩ := hq
  obtain ⟨es, c, m⟩ := m
  have h5 := (m.find_none hf).1
  have : vlookup E h t (.mp b) (key k) false = some z := by
    simp only [vlookup, h1, Option.bind_some, h2, h3, keyOK_of h4, cond_true, mapOf, m.at_, findM_es (q := q) h4, h5, hz]
    rfl
  show (∃ u, vlookup E h t (.mp b) (key k) false = some u ∧ qq u) ↔ _
  rw [this, ex_some]
theorem pu_lookok {h : Hp} {b t q e : Nat} (ht : IsMap E t q e) (hq : KeyOf E q key) {f : K → Option V} (m : MapFn key h b f) (k : K) {v : V} (hf : f k = some v) (qq : V → Prop) : (Pu E).look h t (.mp b) (key k) true qq ↔ qq (.tup [v, .bool true]) := by
  obtain ⟨i, h1, h2⟩ := ht
  obtain ⟨j, h3, h4⟩ := hq
  obtain ⟨es, c, m⟩ := m
  obtain ⟨p, n, h5⟩ := m.find_some hf
  have : vlookup E h t (.mp b) (key k) true = some (.tup [v, .bool true]) := by
    simp only [vlookup, h1, Option.bind_some, h2, h3, keyOK_of h4, cond_true, mapOf, m.at_, findM_es (q := q) h4, h5]
  show (∃ u, vlookup E h t (.mp b) (key k) true = some u ∧ qq u) ↔ _
  rw [this, ex_some]
theorem pu_lookok_none {h : Hp} {b t q e : Nat} (ht : IsMap E t q e) (hq : KeyOf E q key) {f : K → Option V} (m : MapFn key h b f) (k : K) (hf : f k = none) {z : V} (hz : vzero E e = some z) (qq : V → Prop) : (Pu E).look h t (.mp b) (key k) true qq ↔ qq (.tup [z, .bool false]) := by
  obtain ⟨i, h1, h2⟩ := ht
  obtain ⟨j, h3, h4⟩ := hq
  obtain ⟨es, c, m⟩ := m
  have h5 := (m.find_none hf).1
  have : vlookup E h t (.mp b) (key k) true = some (.tup [z, .bool false]) := by
    simp only [vlookup, h1, Option.bind_some, h2, h3, keyOK_of h4, cond_true, mapOf, m.at_, findM_es (q := q) h4, h5, hz]
  show (∃ u, vlookup E h t (.mp b) (key k) true = some u ∧ qq u) ↔ _
  rw [this, ex_some]
theorem MapIs.upd {h h' : Hp} {b : Nat} {f : K → Option V} {es : Es K} {c : Nat} (m : MapIs key h b f es c) {k : K} {u : V} (hf : f k = some u) (v : V) (hb : h'.t.get b = some (.map (esV key (updE es k v)) c)) : MapFn key h' b (updF f k v) := by
  have hk : k ∈ es.map (·.1) := by
    by_cases hk : k ∈ es.map (·.1)
    · exact hk
    · have := lookE_none.2 hk; rw [m.look, hf] at this; cases this
  refine ⟨_, c, hb, by rw [updE_keys]; exact m.keys, by rw [updE_borns]; exact m.borns, fun x hx => ?_, fun y => ?_⟩
  · have : x.2.2 ∈ (updE es k v).map (·.2.2) := List.mem_map_of_mem hx
    rw [updE_borns] at this
    obtain ⟨y, hy, e⟩ := List.mem_map.1 this
    rw [← e]; exact m.lt y hy
  · rw [lookE_upd y hk, m.look]; rfl
/-- a map takes a value -/
theorem pu_mapu {h : Hp} {b t q e : Nat} (ht : IsMap E t q e) (hq : KeyOf E q key) {f : K → Option V} (m : MapFn key h b f) (k : K) (v : V) {qq : Hp → Prop}
    (hqq : ∀ h1 bl, Wr h h1 b bl → MapFn key h1 b (updF f k v) → qq h1) : (Pu E).mapu h t (.mp b) (key k) v qq := by
  obtain ⟨i, h1, h2⟩ := ht
  obtain ⟨j, h3, h4⟩ := hq
  obtain ⟨es, c, m⟩ := m
  cases hf : f k with
  | some u =>
    obtain ⟨p, n, h5⟩ := m.find_some hf
    have hs := setE_upd (key := key) v (i := p) m.keys (by rw [Nat.zero_add]; exact h5)
    refine ⟨h.set b (.map (esV key (updE es k v)) c), ?_, hqq _ _ ⟨by rw [Hp.get_set, if_pos rfl], rfl, fun d hd => by rw [Hp.get_set, if_neg hd]⟩ (m.upd hf v (by rw [Hp.get_set, if_pos rfl]))⟩
    simp only [vmapUpdate, h1, Option.bind_some, h2, h3, keyOK_of h4, cond_true, mapOf, m.at_, findM_es (q := q) h4, h5, hs]
  | none =>
    obtain ⟨h5, h6⟩ := m.find_none hf
    have e1 : esV key es ++ [(key k, v, c)] = esV key (es ++ [(k, v, c)]) := by simp [esV]
    refine ⟨h.set b (.map (esV key (es ++ [(k, v, c)])) (c + 1)), ?_, hqq _ _ ⟨by rw [Hp.get_set, if_pos rfl], rfl, fun d hd => by rw [Hp.get_set, if_neg hd]⟩ ⟨es ++ [(k, v, c)], c + 1, by rw [Hp.get_set, if_pos rfl], ?_, ?_, ?_, fun y => ?_⟩⟩
    · simp only [vmapUpdate, h1, Option.bind_some, h2, h3, keyOK_of h4, cond_true, mapOf, m.at_, findM_es (q := q) h4, h5, e1]
    · rw [List.map_append]
      refine List.nodup_append.2 ⟨m.keys, by simp, fun a ha d hd e => ?_⟩
      simp at hd; subst hd; subst e; exact h6 ha
    · rw [List.map_append]
      refine List.nodup_append.2 ⟨m.borns, by simp, fun a ha d hd e => ?_⟩
      simp at hd; subst hd; subst e
      obtain ⟨x, hx, e2⟩ := List.mem_map.1 ha
      have := m.lt x hx; omega
    · intro x hx
      rcases List.mem_append.1 hx with hx | hx
      · have := m.lt x hx; omega
      · simp at hx; subst hx; simp
    · rw [lookE_snoc y h6, m.look]; rfl
/-- 'm[k] op= ..' of a key that is there -/
theorem pu_mape {h : Hp} {b t q e : Nat} (ht : IsMap E t q e) (hq : KeyOf E q key) {f : K → Option V} (m : MapFn key h b f) (k : K) {v : V} (hf : f k = some v) :
    ∃ n : Nat, (∀ qq : V → Hp → Prop, (Pu E).mape h t (.mp b) (key k) qq ↔ qq (.tup [v, .int .i64 n]) h) ∧
      ∀ (x : V) (kd : IntKind) (qq : Hp → Prop), (∀ h1 bl, Wr h h1 b bl → MapFn key h1 b (updF f k x) → qq h1) → (Pu E).ests h (.mp b) (.int kd n) x qq := by
  obtain ⟨i, h1, h2⟩ := ht
  obtain ⟨j, h3, h4⟩ := hq
  obtain ⟨es, c, m⟩ := m
  obtain ⟨p, n, h5⟩ := m.find_some hf
  refine ⟨n, fun qq => ?_, fun x kd qq hqq => ?_⟩
  · have : vmapEntry E h t (.mp b) (key k) = some (.tup [v, .int .i64 n], h) := by
      simp only [vmapEntry, h1, Option.bind_some, h2, h3, keyOK_of h4, cond_true, mapOf, m.at_, findM_es (q := q) h4, h5]
      rfl
    show (∃ r, vmapEntry E h t (.mp b) (key k) = some r ∧ qq r.1 r.2) ↔ _
    rw [this, ex_some]
  · have hs := setBorn_upd (key := key) x m.keys m.borns h5
    refine ⟨h.set b (.map (esV key (updE es k x)) c), ?_, hqq _ _ ⟨by rw [Hp.get_set, if_pos rfl], rfl, fun d hd => by rw [Hp.get_set, if_neg hd]⟩ (m.upd hf x (by rw [Hp.get_set, if_pos rfl]))⟩
    simp only [ventryStore, natOf_nat, Option.bind_some, mapOf, m.at_, hs]
theorem pu_maplen {h : Hp} {b t q e : Nat} (ht : IsMap E t q e) {es : Es K} {c : Nat} (hb : h.t.get b = some (.map (esV key es) c)) (h0 : Hp) (qq : V → Prop) : (Pu E).lbui h #[t] .len [.mp b] qq ↔ qq (.int .i64 es.length) := by
  obtain ⟨i, h1, h2⟩ := ht
  show (∃ u, lBuiltin E h #[t] .len [.mp b] = some u ∧ qq u) ↔ _
  have e0 : (#[t] : Array TypeId)[0]? = some t := rfl
  simp only [lBuiltin, bLen, vlen, e0, h1, Option.bind_some, h2, hb, mkInt_eq, ex_some, esV, List.length_map]
  rfl
end
/-- a struct of a text and two numbers as a key -/
theorem keyOf3 {K : Type} [DecidableEq K] {q : Nat} {key : K → V} (s : K → List Nat) (r c : K → Nat) (hk : ∀ k, key k = .agg [.str (s k), .int .i64 (r k), .int .i64 (c k)]) (hi : ∀ a b, a = b ↔ s a = s b ∧ r a = r b ∧ c a = c b)
    (h : (E.ty.get q).map (fun j => (j.plain, (match j.k with | .struct _ => true | _ => false))) = some (some [.str, .int .i64, .int .i64], true)) : KeyOf E q key := by
  obtain ⟨j, h1, h2⟩ := Option.map_eq_some_iff.1 h
  simp only [Prod.mk.injEq] at h2
  obtain ⟨h3, h4⟩ := h2
  refine ⟨j, h1, fun a b => ?_⟩
  have e : veqK j (key a) (key b) = aeq j [.str (s a), .int .i64 (r a), .int .i64 (c a)] [.str (s b), .int .i64 (r b), .int .i64 (c b)] := by
    rw [hk, hk]
    unfold veqK
    split at h4 <;> first | (cases h4; done) | skip
    rename_i fs hfs
    rw [hfs]
  rw [e]
  unfold aeq
  rw [h3]
  simp only [Option.bind_some, leq, ceq, seq_dec, keq_refl, cond_true, ieq_dec]
  have e2 : decide (a = b) = (decide (s a = s b) && (decide (r a = r b) && decide (c a = c b))) := by
    rw [Bool.eq_iff_iff]; simp [hi a b]
  rw [e2]
  have e3 : ∀ x y : Nat, decide ((x : Int) = (y : Int)) = decide (x = y) := fun x y => by rw [decide_eq_decide]; omega
  rw [e3, e3]
  by_cases q1 : s a = s b <;> by_cases q2 : r a = r b <;> by_cases q3 : c a = c b <;> simp [q1, q2, q3]
end
end Go.Proofs.YtlllhhjlfmhmlaaGreatDoor.VM
namespace Go.Proofs.YtlllhhjlfmhmlaaGreatDoor.VM
open Go
set_option linter.unusedVariables false
/-! ### texts in their order -/
theorem blt_self (x : Nat) : Nat.blt x x = false := by
  cases h : Nat.blt x x with
  | false => rfl
  | true => rw [Nat.blt_eq] at h; omega
theorem slt_irr : ∀ a : List Nat, slt a a = false
  | [] => rfl
  | x :: a => by simp [slt, slt_irr a, blt_self]
theorem slt_nil (a : List Nat) : slt a [] = false := by cases a <;> rfl
theorem slt_cons (x y : Nat) (a b : List Nat) : slt (x :: a) (y :: b) = true ↔ x < y ∨ x = y ∧ slt a b = true := by
  rw [slt]
  cases h : Nat.blt x y with
  | true => rw [Nat.blt_eq] at h; simp [h]
  | false =>
    have hxy : ¬ x < y := fun q => by rw [← Nat.blt_eq] at q; rw [q] at h; cases h
    cases hb : Nat.beq x y with
    | true => have := Nat.eq_of_beq_eq_true hb; subst this; simp
    | false =>
      have : x ≠ y := fun q => by subst q; simp at hb
      simp [hxy, this]
theorem slt_trans : ∀ {a b c : List Nat}, slt a b = true → slt b c = true → slt a c = true
  | _, [], _, h, _ => by rw [slt_nil] at h; cases h
  | _, _ :: _, [], _, h => by rw [slt_nil] at h; cases h
  | [], _ :: _, _ :: _, _, _ => rfl
  | x :: a, y :: b, z :: c, h, k => by
    rw [slt_cons] at h k ⊢
    rcases h with h | ⟨h, h2⟩ <;> rcases k with k | ⟨k, k2⟩
    · exact .inl (by omega)
    · exact .inl (by omega)
    · exact .inl (by omega)
    · exact .inr ⟨by omega, slt_trans h2 k2⟩
theorem slt_tri : ∀ a b : List Nat, slt a b = true ∨ a = b ∨ slt b a = true
  | [], [] => .inr (.inl rfl)
  | [], _ :: _ => .inl rfl
  | _ :: _, [] => .inr (.inr rfl)
  | x :: a, y :: b => by
    rw [slt_cons, slt_cons]
    rcases Nat.lt_trichotomy x y with h | h | h
    · exact .inl (.inl h)
    · subst h
      rcases slt_tri a b with h | h | h
      · exact .inl (.inr ⟨rfl, h⟩)
      · exact .inr (.inl (by rw [h]))
      · exact .inr (.inr (.inr ⟨rfl, h⟩))
    · exact .inr (.inr (.inl h))
theorem slt_asym {a b : List Nat} (h : slt a b = true) : slt b a = false := by
  cases k : slt b a with
  | false => rfl
  | true => have := slt_trans h k; rw [slt_irr] at this; cases this
/-! ### cells -/
structure Spt where
  s : List Nat
  r : Nat
  c : Nat
  deriving DecidableEq
def sp0 : Spt := ⟨[], 0, 0⟩
def spLt (a b : Spt) : Bool := slt a.s b.s || (decide (a.s = b.s) && (decide (a.r < b.r) || (decide (a.r = b.r) && decide (a.c < b.c))))
theorem spLt_iff (a b : Spt) : spLt a b = true ↔ slt a.s b.s = true ∨ a.s = b.s ∧ (a.r < b.r ∨ a.r = b.r ∧ a.c < b.c) := by simp [spLt]
theorem spLt_irr (a : Spt) : spLt a a = false := by
  cases h : spLt a a with
  | false => rfl
  | true =>
    rw [spLt_iff, slt_irr] at h
    rcases h with h | ⟨_, h⟩
    · cases h
    · omega
theorem spLt_trans {a b c : Spt} (h : spLt a b = true) (k : spLt b c = true) : spLt a c = true := by
  rw [spLt_iff] at h k ⊢
  rcases h with h | ⟨h, h2⟩ <;> rcases k with k | ⟨k, k2⟩
  · exact .inl (slt_trans h k)
  · exact .inl (by rw [← k]; exact h)
  · exact .inl (by rw [h]; exact k)
  · exact .inr ⟨h.trans k, by omega⟩
theorem spLt_tri (a b : Spt) : spLt a b = true ∨ a = b ∨ spLt b a = true := by
  rw [spLt_iff, spLt_iff]
  rcases slt_tri a.s b.s with h | h | h
  · exact .inl (.inl h)
  · rcases (by omega : a.r < b.r ∨ a.r = b.r ∨ b.r < a.r) with k | k | k
    · exact .inl (.inr ⟨h, .inl k⟩)
    · rcases (by omega : a.c < b.c ∨ a.c = b.c ∨ b.c < a.c) with q | q | q
      · exact .inl (.inr ⟨h, .inr ⟨k, q⟩⟩)
      · exact .inr (.inl (by obtain ⟨x, y, z⟩ := a; obtain ⟨u, v, w⟩ := b; simp only at h k q; rw [h, k, q]))
      · exact .inr (.inr (.inr ⟨h.symm, .inr ⟨k.symm, q⟩⟩))
    · exact .inr (.inr (.inr ⟨h.symm, .inl k⟩))
  · exact .inr (.inr (.inl h))
theorem spLt_asym {a b : Spt} (h : spLt a b = true) : spLt b a = false := by
  cases k : spLt b a with
  | false => rfl
  | true => have := spLt_trans h k; rw [spLt_irr] at this; cases this
/-! ### the heap -/
def lessL (L : List Spt) (i k : Nat) : Bool := spLt (L.getD i sp0) (L.getD k sp0)
def swapL (L : List Spt) (i k : Nat) : List Spt := (L.set i (L.getD k sp0)).set k (L.getD i sp0)
theorem swapL_len (L : List Spt) (i k : Nat) : (swapL L i k).length = L.length := by simp [swapL]
def upL (L : List Spt) (j : Nat) : List Spt :=
  if j = 0 then L else if lessL L j ((j - 1) / 2) = true then upL (swapL L ((j - 1) / 2) j) ((j - 1) / 2) else L
termination_by j
decreasing_by omega
def downJ (L : List Spt) (i n : Nat) : Nat := if 2 * i + 1 + 1 < n ∧ lessL L (2 * i + 1 + 1) (2 * i + 1) = true then 2 * i + 1 + 1 else 2 * i + 1
def downL (L : List Spt) (i n : Nat) : List Spt :=
  if n ≤ 2 * i + 1 then L else if lessL L (downJ L i n) i = true then downL (swapL L i (downJ L i n)) (downJ L i n) n else L
termination_by n - i
decreasing_by
  have : 2 * i + 1 ≤ downJ L i n := by unfold downJ; split <;> omega
  omega
theorem upL_len (L : List Spt) (j : Nat) : (upL L j).length = L.length := by
  induction j using Nat.strongRecOn generalizing L with
  | ind j ih =>
    rw [upL]
    split
    · rfl
    · split
      · rw [ih _ (by omega), swapL_len]
      · rfl
theorem downL_len (n : Nat) : ∀ (m : Nat) (L : List Spt) (i : Nat), n - i ≤ m → (downL L i n).length = L.length := by
  intro m
  induction m with
  | zero =>
    intro L i h
    rw [downL, if_pos (by omega)]
  | succ m ih =>
    intro L i h
    rw [downL]
    split
    · rfl
    · split
      · have : 2 * i + 1 ≤ downJ L i n := by unfold downJ; split <;> omega
        rw [ih _ _ (by omega), swapL_len]
      · rfl
/-- behind the end nothing moves -/
theorem swapL_get {L : List Spt} {i k m : Nat} (h1 : m ≠ i) (h2 : m ≠ k) : (swapL L i k)[m]? = L[m]? := by
  unfold swapL
  rw [List.getElem?_set_ne (Ne.symm h2), List.getElem?_set_ne (Ne.symm h1)]
theorem downL_get' (n : Nat) : ∀ (f : Nat) (L : List Spt) (i : Nat), n - i ≤ f → i < n ∨ n ≤ 2 * i + 1 → (downL L i n)[n]? = L[n]? := by
  intro f
  induction f with
  | zero =>
    intro L i h _
    rw [downL, if_pos (by omega)]
  | succ f ih =>
    intro L i h h2
    rw [downL]
    split
    · rfl
    · rename_i hlt
      split
      · have h3 : 2 * i + 1 ≤ downJ L i n := by unfold downJ; split <;> omega
        have h4 : downJ L i n < n := by
          unfold downJ
          split
          · rename_i hh; exact hh.1
          · omega
        rw [ih _ _ (by omega) (.inl h4), swapL_get (by omega) (by omega)]
      · rfl
theorem downL_get (n : Nat) (L : List Spt) (i : Nat) (hi : i ≤ n) : (downL L i n)[n]? = L[n]? := downL_get' n (n - i) L i (Nat.le_refl _) (by omega)
theorem swap_last {L : List Spt} {n : Nat} {x : Spt} (hn : L.length - 1 = n) (h0 : 0 < L.length) (hx : L[0]? = some x) : (swapL L 0 n)[n]? = some x := by
  unfold swapL
  rw [List.getElem?_set_self (by rw [List.length_set]; omega)]
  obtain ⟨h, e⟩ := List.getElem?_eq_some_iff.1 hx
  simp [List.getD, hx]
theorem getD_some {L : List Spt} {i : Nat} (h : i < L.length) : L[i]? = some (L.getD i sp0) := by simp [List.getD, h]
/-- heap.Push -/
def hpushL (L : List Spt) (x : Spt) : List Spt := upL (L ++ [x]) L.length
/-- heap.Pop: what is left; the first one goes -/
def hpopL (L : List Spt) : List Spt := (downL (swapL L 0 (L.length - 1)) 0 (L.length - 1)).take (L.length - 1)
/-- a is not behind b -/
def spLe (a b : Spt) : Prop := spLt b a = false
theorem spLe_of_not {a b : Spt} (h : ¬ spLt b a = true) : spLe a b := by unfold spLe; simpa using h
theorem spLe_of_lt {a b : Spt} (h : spLt a b = true) : spLe a b := spLt_asym h
theorem spLe.refl (a : Spt) : spLe a a := spLt_irr a
theorem spLe.cases {a b : Spt} (h : spLe a b) : a = b ∨ spLt a b = true := by
  rcases spLt_tri a b with k | k | k
  · exact .inr k
  · exact .inl k
  · unfold spLe at h; rw [k] at h; cases h
theorem spLe.trans {a b c : Spt} (h : spLe a b) (k : spLe b c) : spLe a c := by
  rcases h.cases with rfl | h
  · exact k
  · rcases k.cases with rfl | k
    · exact spLe_of_lt h
    · exact spLe_of_lt (spLt_trans h k)
theorem lessL_iff {L : List Spt} {i k : Nat} : lessL L i k = true ↔ spLt (L.getD i sp0) (L.getD k sp0) = true := Iff.rfl
theorem lessL_not {L : List Spt} {i k : Nat} (h : ¬ lessL L i k = true) : spLe (L.getD k sp0) (L.getD i sp0) := spLe_of_not (fun h2 => h (lessL_iff.2 h2))
section
variable {L : List Spt} {i k m : Nat}
theorem swapD_l (hi : i < L.length) (hne : i ≠ k) : (swapL L i k).getD i sp0 = L.getD k sp0 := by
  unfold swapL
  simp [List.getD, hi, Ne.symm hne]
theorem swapD_r (hk : k < L.length) : (swapL L i k).getD k sp0 = L.getD i sp0 := by
  unfold swapL
  simp [List.getD, hk]
theorem swapD_o (h1 : m ≠ i) (h2 : m ≠ k) : (swapL L i k).getD m sp0 = L.getD m sp0 := by
  rw [List.getD_eq_getElem?_getD, List.getD_eq_getElem?_getD, swapL_get h1 h2]
theorem swap_perm (hi : i < L.length) (hk : k < L.length) : (swapL L i k).Perm L := by
  have h := Array.swap_perm (xs := L.toArray) (i := i) (j := k) (by simpa using hi) (by simpa using hk)
  have h2 := Array.perm_iff_toList_perm.1 h
  rw [Array.toList_swap] at h2
  simp only [List.getElem_toArray] at h2
  unfold swapL
  have e1 : L.getD k sp0 = L[k] := by simp [List.getD, hk]
  have e2 : L.getD i sp0 = L[i] := by simp [List.getD, hi]
  rw [e1, e2]
  exact h2
end
/-- a heap in the first n -/
def Up (L : List Spt) (n : Nat) : Prop := ∀ k, 0 < k → k < n → spLe (L.getD ((k - 1) / 2) sp0) (L.getD k sp0)
theorem Up.first {L : List Spt} {n : Nat} (h : Up L n) : ∀ k, k < n → spLe (L.getD 0 sp0) (L.getD k sp0) := by
  intro k
  induction k using Nat.strongRecOn with
  | ind k ih =>
    intro hk
    by_cases h0 : k = 0
    · subst h0; exact spLe.refl _
    · exact (ih _ (by omega) (by omega)).trans (h k (by omega) hk)
theorem upL_heap : ∀ (j : Nat) (L : List Spt), j < L.length → (∀ k, 0 < k → k < L.length → k ≠ j → spLe (L.getD ((k - 1) / 2) sp0) (L.getD k sp0)) →
    (∀ k, 0 < k → k < L.length → (k - 1) / 2 = j → 0 < j → spLe (L.getD ((j - 1) / 2) sp0) (L.getD k sp0)) → Up (upL L j) L.length ∧ (upL L j).Perm L := by
  intro j
  induction j using Nat.strongRecOn with
  | ind j ih =>
    intro L hj h1 h2
    rw [upL]
    by_cases h0 : j = 0
    · rw [if_pos h0]
      exact ⟨fun k hk hkl => h1 k hk hkl (by omega), List.Perm.refl _⟩
    · rw [if_neg h0]
      obtain ⟨i, hi⟩ : ∃ i, (j - 1) / 2 = i := ⟨_, rfl⟩
      rw [hi]
      have hij : i < j := by omega
      by_cases hl : lessL L j i = true
      · rw [if_pos hl]
        have hlt := spLe_of_lt (lessL_iff.1 hl)
        have hlen := swapL_len L i j
        have hr := ih i hij (swapL L i j) (by rw [hlen]; omega) (fun k hk hkl hki => ?_) (fun k hk hkl hpk hi0 => ?_)
        · rw [hlen] at hr
          exact ⟨hr.1, hr.2.trans (swap_perm (by omega) hj)⟩
        · rw [hlen] at hkl
          by_cases hkj : k = j
          · subst hkj
            rw [hi, swapD_l (by omega) (by omega), swapD_r hj]
            exact hlt
          · rw [swapD_o (m := k) hki hkj]
            by_cases hp1 : (k - 1) / 2 = i
            · rw [hp1, swapD_l (by omega) (by omega)]
              have := h1 k hk hkl hkj
              rw [hp1] at this
              exact hlt.trans this
            · by_cases hp2 : (k - 1) / 2 = j
              · rw [hp2, swapD_r hj]
                have := h2 k hk hkl hp2 (by omega)
                rw [hi] at this
                exact this
              · rw [swapD_o hp1 hp2]
                exact h1 k hk hkl hkj
        · rw [hlen] at hkl
          rw [swapD_o (m := (i - 1) / 2) (by omega) (by omega)]
          have hpi := h1 i hi0 (by omega) (by omega)
          by_cases hkj : k = j
          · subst hkj
            rw [swapD_r hj]
            exact hpi
          · rw [swapD_o (m := k) (by omega) hkj]
            have := h1 k hk hkl hkj
            rw [hpk] at this
            exact hpi.trans this
      · rw [if_neg hl]
        refine ⟨fun k hk hkl => ?_, List.Perm.refl _⟩
        by_cases hkj : k = j
        · subst hkj
          rw [hi]
          exact lessL_not hl
        · exact h1 k hk hkl hkj
theorem downJ_spec {L : List Spt} {i n : Nat} (h : ¬ n ≤ 2 * i + 1) : downJ L i n < n ∧ (downJ L i n - 1) / 2 = i ∧ i < downJ L i n ∧ ∀ k, 0 < k → k < n → (k - 1) / 2 = i → spLe (L.getD (downJ L i n) sp0) (L.getD k sp0) := by
  unfold downJ
  by_cases hc : 2 * i + 1 + 1 < n ∧ lessL L (2 * i + 1 + 1) (2 * i + 1) = true
  · rw [if_pos hc]
    refine ⟨hc.1, by omega, by omega, fun k hk hkn hp => ?_⟩
    rcases (by omega : k = 2 * i + 1 + 1 ∨ k = 2 * i + 1) with rfl | rfl
    · exact spLe.refl _
    · exact spLe_of_lt (lessL_iff.1 hc.2)
  · rw [if_neg hc]
    refine ⟨by omega, by omega, by omega, fun k hk hkn hp => ?_⟩
    rcases (by omega : k = 2 * i + 1 + 1 ∨ k = 2 * i + 1) with rfl | rfl
    · exact lessL_not (fun h2 => hc ⟨hkn, h2⟩)
    · exact spLe.refl _
theorem downL_heap (n : Nat) : ∀ (f : Nat) (L : List Spt) (i : Nat), n - i ≤ f → n ≤ L.length → (∀ k, 0 < k → k < n → (k - 1) / 2 ≠ i → spLe (L.getD ((k - 1) / 2) sp0) (L.getD k sp0)) →
    (∀ k, 0 < k → k < n → (k - 1) / 2 = i → 0 < i → spLe (L.getD ((i - 1) / 2) sp0) (L.getD k sp0)) → Up (downL L i n) n ∧ (downL L i n).Perm L := by
  intro f
  induction f with
  | zero =>
    intro L i hf hn h1 h2
    rw [downL, if_pos (by omega)]
    exact ⟨fun k hk hkn => h1 k hk hkn (by omega), List.Perm.refl _⟩
  | succ f ih =>
    intro L i hf hn h1 h2
    rw [downL]
    by_cases he : n ≤ 2 * i + 1
    · rw [if_pos he]
      exact ⟨fun k hk hkn => h1 k hk hkn (by omega), List.Perm.refl _⟩
    · rw [if_neg he]
      obtain ⟨hjn, hpj, hij, hmin⟩ := downJ_spec (L := L) he
      obtain ⟨j, hj⟩ : ∃ j, downJ L i n = j := ⟨_, rfl⟩
      rw [hj] at hjn hpj hij hmin ⊢
      by_cases hl : lessL L j i = true
      · rw [if_pos hl]
        have hlt := spLe_of_lt (lessL_iff.1 hl)
        have hlen := swapL_len L i j
        have hr := ih (swapL L i j) j (by omega) (by omega) (fun k hk hkn hpk => ?_) (fun k hk hkn hpk hj0 => ?_)
        · exact ⟨hr.1, hr.2.trans (swap_perm (by omega) (by omega))⟩
        · by_cases hp : (k - 1) / 2 = i
          · rw [hp, swapD_l (by omega) (by omega)]
            by_cases hkj : k = j
            · subst hkj
              rw [swapD_r (by omega)]
              exact hlt
            · rw [swapD_o (m := k) (by omega) hkj]
              exact hmin k hk hkn hp
          · rw [swapD_o (m := (k - 1) / 2) hp hpk]
            by_cases hki : k = i
            · subst hki
              rw [swapD_l (by omega) (by omega)]
              exact h2 j (by omega) hjn hpj hk
            · have hkj : k ≠ j := fun e => hp (e ▸ hpj)
              rw [swapD_o (m := k) hki hkj]
              exact h1 k hk hkn hp
        · rw [hpj, swapD_l (by omega) (by omega), swapD_o (m := k) (by omega) (by omega)]
          have := h1 k hk hkn (by omega)
          rw [hpk] at this
          exact this
      · rw [if_neg hl]
        refine ⟨fun k hk hkn => ?_, List.Perm.refl _⟩
        by_cases hp : (k - 1) / 2 = i
        · rw [hp]
          exact (lessL_not hl).trans (hmin k hk hkn hp)
        · exact h1 k hk hkn hp
theorem hpush_heap {L : List Spt} (h : Up L L.length) (x : Spt) : Up (hpushL L x) (hpushL L x).length ∧ (hpushL L x).Perm (L ++ [x]) := by
  have hg : ∀ m, m < L.length → (L ++ [x]).getD m sp0 = L.getD m sp0 := fun m hm => by
    simp [List.getD, List.getElem?_append_left hm]
  have hr := upL_heap L.length (L ++ [x]) (by simp) (fun k hk hkl hne => by
    have hkl2 : k < L.length := by simp at hkl; omega
    rw [hg _ hkl2, hg _ (by omega)]
    exact h k hk hkl2) (fun k hk hkl hp hj => by simp at hkl; omega)
  have hlen : (hpushL L x).length = (L ++ [x]).length := upL_len _ _
  rw [hlen]
  exact hr
theorem hpop_heap {L : List Spt} (h : Up L L.length) {x : Spt} (hx : L[0]? = some x) : Up (hpopL L) (hpopL L).length ∧ (x :: hpopL L).Perm L ∧ ∀ y ∈ L, spLe x y := by
  have hl0 : 0 < L.length := (List.getElem?_eq_some_iff.1 hx).1
  obtain ⟨n, hn⟩ : ∃ n, L.length - 1 = n := ⟨_, rfl⟩
  have hlen := swapL_len L 0 n
  have hr := downL_heap n n (swapL L 0 n) 0 (by omega) (by omega) (fun k hk hkn hp => by
    rw [swapD_o (m := k) (by omega) (by omega), swapD_o (by omega) (by omega)]
    exact h k hk (by omega)) (fun k _ _ _ h0 => absurd h0 (by omega))
  have hdl : (downL (swapL L 0 n) 0 n).length = L.length := by rw [downL_len n n _ _ (by omega), hlen]
  have hlast : (downL (swapL L 0 n) 0 n)[n]? = some x := by rw [downL_get _ _ _ (Nat.zero_le _)]; exact swap_last hn hl0 hx
  have hpl : (hpopL L).length = n := by unfold hpopL; rw [hn, List.length_take, hdl]; omega
  refine ⟨?_, ?_, fun y hy => ?_⟩
  · rw [hpl]
    intro k hk hkn
    have hg : ∀ m, m < n → (hpopL L).getD m sp0 = (downL (swapL L 0 n) 0 n).getD m sp0 := fun m hm => by
      unfold hpopL
      rw [hn]
      simp [List.getD, hm]
    rw [hg _ hkn, hg _ (by omega)]
    exact hr.1 k hk hkn
  · have e : downL (swapL L 0 n) 0 n = hpopL L ++ [x] := by
      unfold hpopL
      rw [hn]
      conv => lhs; rw [← List.take_append_drop n (downL (swapL L 0 n) 0 n)]
      congr 1
      obtain ⟨hd, e1⟩ := List.getElem?_eq_some_iff.1 hlast
      rw [List.drop_eq_getElem_cons hd, e1]
      congr 1
      exact List.drop_eq_nil_of_le (by omega)
    have p1 : (hpopL L ++ [x]).Perm L := by rw [← e]; exact hr.2.trans (swap_perm hl0 (by omega))
    exact (List.perm_append_comm (l₁ := [x]) (l₂ := hpopL L)).trans p1
  · obtain ⟨k, hk, e⟩ := List.mem_iff_getElem.1 hy
    have := h.first k hk
    have e0 : L.getD 0 sp0 = x := by simp [List.getD, hx]
    have ek : L.getD k sp0 = y := by simp [List.getD, hk, e]
    rw [e0, ek] at this
    exact this
end Go.Proofs.YtlllhhjlfmhmlaaGreatDoor.VM
