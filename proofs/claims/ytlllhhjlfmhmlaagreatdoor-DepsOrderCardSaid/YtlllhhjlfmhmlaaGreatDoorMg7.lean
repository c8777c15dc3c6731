/- The order of cells: what goes by a heap of those that wait for none is the document's. No program in sight. · What a cell needs: the cells that a formula's rectangles name, put in order, each once, are the document's. No program in sight. · The document's order: each once, behind all that it needs; what is left waits for what is left. No program in sight. · Laws for the conditions of labels: elements of slices; cells in order; books that read as lists of lists. No program in sight. · The machine of chapter 13's labels. · Words for memory: a slice that reads as a list; what is kept when memory grows. No program in sight. · A call's arguments as the machine reads them: the blocks in which they lie are told cell by cell, whole numbers and texts as they are, all else unknown; they are only read. No program in sight. · strconv.ErrSyntax stands: from what is listed; the arguments of chapter 13's laws in the machine. · What labels of functions ask for. Written by pe.py. · Facts of types. Written by tyfacts.py. -/
import Derived.WalkKit
import Derived.Deep.Draws
import Derived.Deep.AppendLies
import Derived.Laws.IdiomStrings
import Derived.Maps.AppendAt
import Derived.LaidSub
import Derived.Lay
import Derived.Test.YtlllhhjlfmhmlaaGreatDoorRows
import Derived.Test.YtlllhhjlfmhmlaaGreatDoorMg6
namespace Go.Proofs.YtlllhhjlfmhmlaaGreatDoor.VM
open Go
set_option linter.unusedVariables false
def Ris (l : List Spt) : Prop := l.Pairwise fun a b => spLt a b = true
theorem Ris.nodup {l : List Spt} (h : Ris l) : l.Nodup := by
  refine List.Pairwise.imp (fun {a b} k e => ?_) h
  subst e; rw [spLt_irr] at k; cases k
theorem Ris.sub {l m : List Spt} (h : Ris l) (s : m.Sublist l) : Ris m := List.Pairwise.sublist s h
/-- is one of some cells still left? -/
def waits (ns left : List Spt) : Bool := ns.any fun n => left.contains n
def pickR (nd : Spt → List Spt) (left : List Spt) : Option Spt := left.find? fun s => !waits (nd s) left
/-- the document's order -/
def orderR (nd : Spt → List Spt) : Nat → List Spt → List Spt × List Spt
  | 0, left => ([], left)
  | f + 1, left => match pickR nd left with
    | none => ([], left)
    | some s => (s :: (orderR nd f (left.erase s)).1, (orderR nd f (left.erase s)).2)
/-- who needs a cell -/
def usersR (nd : Spt → List Spt) (F : List Spt) (n : Spt) : List Spt := F.filter fun s => (nd s).contains n
def decC (c : Spt → Nat) (u : Spt) : Spt → Nat := fun y => if y = u then c u - 1 else c y
def relax : List Spt → (Spt → Nat) → List Spt → (Spt → Nat) × List Spt
  | [], c, q => (c, q)
  | u :: us, c, q => relax us (decC c u) (if decC c u u = 0 then hpushL q u else q)
theorem relax_snoc (us : List Spt) (u : Spt) : ∀ (c : Spt → Nat) (q : List Spt), relax (us ++ [u]) c q = (decC (relax us c q).1 u, if decC (relax us c q).1 u u = 0 then hpushL (relax us c q).2 u else (relax us c q).2) := by
  induction us with
  | nil => intro c q; rfl
  | cons x us ih => intro c q; exact ih _ _
theorem relax_ok : ∀ (us : List Spt) (c : Spt → Nat) (q : List Spt), us.Nodup → Up q q.length →
    (∀ y, (relax us c q).1 y = if y ∈ us then c y - 1 else c y) ∧ Up (relax us c q).2 (relax us c q).2.length ∧ (relax us c q).2.Perm (q ++ us.filter fun u => decide (c u - 1 = 0))
  | [], c, q, _, h => ⟨fun y => by simp [relax], h, by simp [relax]⟩
  | u :: us, c, q, hd, h => by
    have hd1 := (List.nodup_cons.1 hd).1
    have hd2 := (List.nodup_cons.1 hd).2
    have e : decC c u u = c u - 1 := by simp [decC]
    have hq : Up (if decC c u u = 0 then hpushL q u else q) (if decC c u u = 0 then hpushL q u else q).length := by
      split
      · exact (hpush_heap h u).1
      · exact h
    obtain ⟨h1, h2, h3⟩ := relax_ok us (decC c u) _ hd2 hq
    refine ⟨fun y => ?_, h2, ?_⟩
    · rw [relax, h1]
      by_cases hy : y = u
      · subst hy
        rw [if_neg hd1, if_pos (by simp), e]
      · have : decC c u y = c y := by simp [decC, hy]
        simp [this, hy]
    · rw [relax]
      refine h3.trans ?_
      have hf : us.filter (fun x => decide (decC c u x - 1 = 0)) = us.filter fun x => decide (c x - 1 = 0) := by
        apply List.filter_congr
        intro x hx
        have : x ≠ u := fun q => hd1 (q ▸ hx)
        simp [decC, this]
      rw [hf, e]
      by_cases hz : c u - 1 = 0
      · rw [if_pos hz, List.filter_cons_of_pos (by simpa using hz)]
        refine ((hpush_heap h u).2.append_right _).trans ?_
        rw [List.append_assoc]
        exact List.Perm.refl _
      · rw [if_neg hz, List.filter_cons_of_neg (by simpa using hz)]
/-- how many needs are among some cells -/
def wantN (ns R : List Spt) : Nat := (ns.filter fun n => R.contains n).length
theorem filter_ne (p : Spt → Bool) (x : Spt) : ∀ (l : List Spt), l.Nodup → (l.filter fun n => decide (n ≠ x) && p n).length + (if x ∈ l ∧ p x = true then 1 else 0) = (l.filter p).length
  | [], _ => by simp
  | y :: l, hd => by
    have ih := filter_ne p x l (List.nodup_cons.1 hd).2
    have hy := (List.nodup_cons.1 hd).1
    by_cases hxy : y = x
    · subst hxy
      rw [List.filter_cons_of_neg (by simp)]
      have h0 : ¬ (y ∈ l ∧ p y = true) := fun h => hy h.1
      rw [if_neg h0] at ih
      cases hp : p y with
      | true => rw [if_pos ⟨by simp, rfl⟩, List.filter_cons_of_pos hp, List.length_cons, ← ih]
      | false => rw [if_neg (by simp), List.filter_cons_of_neg (by simp [hp]), ← ih]
    · have h1 : (x ∈ y :: l ∧ p x = true) ↔ (x ∈ l ∧ p x = true) := by
        have : x ≠ y := fun e => hxy e.symm
        simp [this]
      simp only [h1]
      cases hp : p y with
      | true => rw [List.filter_cons_of_pos (by simp [hxy, hp]), List.filter_cons_of_pos hp, List.length_cons, List.length_cons, ← ih]; omega
      | false => rw [List.filter_cons_of_neg (by simp [hp]), List.filter_cons_of_neg (by simp [hp]), ih]
theorem want_erase {ns R : List Spt} (hn : ns.Nodup) (hR : R.Nodup) {x : Spt} (hx : x ∈ R) : wantN ns (R.erase x) = if x ∈ ns then wantN ns R - 1 else wantN ns R := by
  have h := filter_ne (fun n => R.contains n) x ns hn
  have e : (ns.filter fun n => (R.erase x).contains n) = ns.filter fun n => decide (n ≠ x) && R.contains n := by
    apply List.filter_congr
    intro n _
    rw [Bool.eq_iff_iff]
    simp [hR.mem_erase_iff]
  unfold wantN
  rw [e]
  by_cases hxn : x ∈ ns
  · rw [if_pos ⟨hxn, by simpa using hx⟩] at h
    rw [if_pos hxn]; omega
  · rw [if_neg (fun q => hxn q.1)] at h
    rw [if_neg hxn]; omega
theorem want_zero {ns R : List Spt} : wantN ns R = 0 ↔ waits ns R = false := by
  unfold wantN waits
  rw [List.length_eq_zero_iff, List.filter_eq_nil_iff, List.any_eq_false]
theorem filter_sub : ∀ {R F : List Spt}, F.Nodup → R.Sublist F → (F.filter fun s => R.contains s) = R
  | _, [], _, h => by cases h; rfl
  | R, f :: F, hd, h => by
    have hd1 := (List.nodup_cons.1 hd).1
    have hd2 := (List.nodup_cons.1 hd).2
    cases h with
    | cons _ h =>
      have hf : f ∉ R := fun q => hd1 (h.mem q)
      rw [List.filter_cons_of_neg (by simpa using hf)]
      exact filter_sub hd2 h
    | cons_cons _ h =>
      rename_i R
      rw [List.filter_cons_of_pos (by simp)]
      congr 1
      have e : (F.filter fun s => (f :: R).contains s) = F.filter fun s => R.contains s := by
        apply List.filter_congr
        intro s hs
        have : s ≠ f := fun q => hd1 (q ▸ hs)
        simp [this]
      rw [e]
      exact filter_sub hd2 h
/-- between two rounds -/
structure OInv (nd : Spt → List Spt) (F R : List Spt) (c : Spt → Nat) (q : List Spt) : Prop where
  sub : R.Sublist F
  ris : Ris F
  nod : ∀ s ∈ F, (nd s).Nodup
  cnt : ∀ s ∈ F, c s = wantN (nd s) R
  gone : ∀ s ∈ F, s ∉ R → c s = 0
  up : Up q q.length
  perm : q.Perm (R.filter fun s => decide (c s = 0))
theorem OInv.risR {nd : Spt → List Spt} {F R : List Spt} {c : Spt → Nat} {q : List Spt} (I : OInv nd F R c q) : Ris R := I.ris.sub I.sub
theorem OInv.filter {nd : Spt → List Spt} {F R : List Spt} {c : Spt → Nat} {q : List Spt} (I : OInv nd F R c q) : (R.filter fun s => decide (c s = 0)) = R.filter fun s => !waits (nd s) R := by
  apply List.filter_congr
  intro s hs
  have h := I.cnt s (I.sub.mem hs)
  rw [h, Bool.eq_iff_iff, decide_eq_true_iff, want_zero]
  simp
theorem OInv.pick {nd : Spt → List Spt} {F R : List Spt} {c : Spt → Nat} {q : List Spt} (I : OInv nd F R c q) {x : Spt} (hx : q[0]? = some x) : pickR nd R = some x ∧ x ∈ R ∧ c x = 0 := by
  have hm := (hpop_heap I.up hx).2.2
  have hxq : x ∈ q := List.mem_of_getElem? hx
  have hxf := I.perm.mem_iff.1 hxq
  have hall : ∀ y ∈ R.filter (fun s => decide (c s = 0)), spLe x y := fun y hy => hm y (I.perm.mem_iff.2 hy)
  have hx2 : x ∈ R ∧ c x = 0 := by simpa using hxf
  refine ⟨?_, hx2⟩
  unfold pickR
  rw [← List.head?_filter, ← I.filter]
  have hs : Ris (R.filter fun s => decide (c s = 0)) := I.risR.sub List.filter_sublist
  revert hxf hall hs
  generalize R.filter (fun s => decide (c s = 0)) = f
  intro hxf hall hs
  cases f with
  | nil => cases hxf
  | cons y t =>
    rcases List.mem_cons.1 hxf with rfl | hxt
    · rfl
    · have h1 := (List.pairwise_cons.1 hs).1 x hxt
      have h2 := hall y (by simp)
      unfold spLe at h2
      rw [h1] at h2
      cases h2
theorem OInv.step {nd : Spt → List Spt} {F R : List Spt} {c : Spt → Nat} {q : List Spt} (I : OInv nd F R c q) {x : Spt} (hx : q[0]? = some x) :
    OInv nd F (R.erase x) (relax (usersR nd F x) c (hpopL q)).1 (relax (usersR nd F x) c (hpopL q)).2 := by
  obtain ⟨_, hxR, hx0⟩ := I.pick hx
  obtain ⟨hu, hp, _⟩ := hpop_heap I.up hx
  have hRn := I.risR.nodup
  have hFn := I.ris.nodup
  have hun : (usersR nd F x).Nodup := hFn.filter _
  obtain ⟨h1, h2, h3⟩ := relax_ok (usersR nd F x) c (hpopL q) hun hu
  have hmem : ∀ u, u ∈ usersR nd F x ↔ u ∈ F ∧ x ∈ nd u := fun u => by unfold usersR; simp
  -- users are left, and wait
  have huR : ∀ u ∈ usersR nd F x, u ∈ R ∧ u ≠ x ∧ 1 ≤ c u := fun u hu => by
    obtain ⟨h4, h5⟩ := (hmem u).1 hu
    have h6 : 1 ≤ c u := by
      rw [I.cnt u h4]
      unfold wantN
      have : x ∈ (nd u).filter fun n => R.contains n := by simp [h5, hxR]
      exact List.length_pos_of_mem this
    refine ⟨?_, fun e => ?_, h6⟩
    · by_cases h7 : u ∈ R
      · exact h7
      · have := I.gone u h4 h7; omega
    · subst e; omega
  have hcnt : ∀ s ∈ F, (relax (usersR nd F x) c (hpopL q)).1 s = wantN (nd s) (R.erase x) := fun s hs => by
    rw [h1, want_erase (I.nod s hs) hRn hxR, I.cnt s hs]
    by_cases h4 : x ∈ nd s
    · rw [if_pos ((hmem s).2 ⟨hs, h4⟩), if_pos h4]
    · rw [if_neg (fun h => h4 ((hmem s).1 h).2), if_neg h4]
  refine ⟨List.erase_sublist.trans I.sub, I.ris, I.nod, hcnt, fun s hs hsR => ?_, h2, ?_⟩
  · rw [h1]
    rw [hRn.mem_erase_iff] at hsR
    by_cases hsx : s = x
    · subst hsx
      split <;> omega
    · have h4 : s ∉ R := fun h => hsR ⟨hsx, h⟩
      have := I.gone s hs h4
      split <;> omega
  · -- the heap
    refine h3.trans ?_
    have hqn : q.Nodup := I.perm.nodup_iff.2 (hRn.filter _)
    have hxn : (x :: hpopL q).Nodup := hp.nodup_iff.2 hqn
    have hx1 := (List.nodup_cons.1 hxn).1
    have hmq : ∀ a, a ∈ hpopL q ↔ a ≠ x ∧ a ∈ R ∧ c a = 0 := fun a => by
      have h4 : a ∈ q ↔ a = x ∨ a ∈ hpopL q := by rw [← hp.mem_iff, List.mem_cons]
      have h5 : a ∈ q ↔ a ∈ R ∧ c a = 0 := by rw [I.perm.mem_iff]; simp
      constructor
      · intro h
        exact ⟨fun e => hx1 (e ▸ h), h5.1 (h4.2 (.inr h))⟩
      · rintro ⟨h6, h7⟩
        rcases h4.1 (h5.2 h7) with h8 | h8
        · exact absurd h8 h6
        · exact h8
    refine (List.perm_ext_iff_of_nodup ?_ ?_).2 fun a => ?_
    · refine List.nodup_append.2 ⟨(List.nodup_cons.1 hxn).2, hun.filter _, fun a ha b hb e => ?_⟩
      subst e
      have h4 := ((hmq a).1 ha).2.2
      have h5 := (huR a (List.mem_filter.1 hb).1).2.2
      omega
    · exact (hRn.erase x).filter _
    · rw [List.mem_append, hmq, List.mem_filter, List.mem_filter, hRn.mem_erase_iff, h1]
      simp only [decide_eq_true_iff]
      by_cases hau : a ∈ usersR nd F x
      · obtain ⟨h4, h5, h6⟩ := huR a hau
        rw [if_pos hau]
        constructor
        · rintro (⟨_, _, h7⟩ | ⟨_, h7⟩)
          · omega
          · exact ⟨⟨h5, h4⟩, h7⟩
        · rintro ⟨_, h7⟩
          exact .inr ⟨hau, h7⟩
      · rw [if_neg hau]
        constructor
        · rintro (⟨h7, h8, h9⟩ | ⟨h7, _⟩)
          · exact ⟨⟨h7, h8⟩, h9⟩
          · exact absurd h7 hau
        · rintro ⟨⟨h7, h8⟩, h9⟩
          exact .inl ⟨h7, h8, h9⟩
theorem OInv.stop {nd : Spt → List Spt} {F R : List Spt} {c : Spt → Nat} (I : OInv nd F R c []) : pickR nd R = none ∧ (F.filter fun s => decide (0 < c s)) = R := by
  have hnil : (R.filter fun s => decide (c s = 0)) = [] := List.Perm.eq_nil I.perm.symm
  refine ⟨?_, ?_⟩
  · unfold pickR
    rw [← List.head?_filter, ← I.filter, hnil]
    rfl
  · have hall : ∀ s ∈ R, 0 < c s := fun s hs => by
      have := List.filter_eq_nil_iff.1 hnil s hs
      simp only [decide_eq_true_iff] at this
      omega
    have e1 : (F.filter fun s => decide (0 < c s)) = F.filter fun s => R.contains s := by
      apply List.filter_congr
      intro s hs
      rw [Bool.eq_iff_iff, decide_eq_true_iff]
      simp only [List.contains_iff_mem]
      constructor
      · intro h
        by_cases h2 : s ∈ R
        · exact h2
        · have := I.gone s hs h2; omega
      · exact hall s
    rw [e1]
    exact filter_sub I.ris.nodup I.sub
/-- the whole -/
theorem OInv.start {nd : Spt → List Spt} {F : List Spt} (hF : Ris F) (hn : ∀ s ∈ F, (nd s).Nodup) {q : List Spt} (hu : Up q q.length) (hp : q.Perm (F.filter fun s => decide (wantN (nd s) F = 0))) : OInv nd F F (fun s => wantN (nd s) F) q :=
  ⟨List.Sublist.refl _, hF, hn, fun _ _ => rfl, fun s hs h => absurd hs h, hu, hp⟩
theorem orderR_some {nd : Spt → List Spt} {f : Nat} {R : List Spt} {x : Spt} (h : pickR nd R = some x) : orderR nd (f + 1) R = (x :: (orderR nd f (R.erase x)).1, (orderR nd f (R.erase x)).2) := by rw [orderR, h]
theorem orderR_none {nd : Spt → List Spt} {f : Nat} {R : List Spt} (h : pickR nd R = none) : orderR nd f R = ([], R) := by
  cases f with
  | zero => rfl
  | succ f => rw [orderR, h]
theorem pickR_mem {nd : Spt → List Spt} {R : List Spt} {x : Spt} (h : pickR nd R = some x) : x ∈ R := List.mem_of_find?_eq_some h
/-- more rounds than cells change nothing -/
theorem orderR_more {nd : Spt → List Spt} : ∀ (f g : Nat) (R : List Spt), R.length ≤ f → R.length ≤ g → orderR nd f R = orderR nd g R
  | 0, g, R, hf, _ => by
    have : R = [] := List.length_eq_zero_iff.1 (by omega)
    subst this
    rw [orderR_none (f := g) rfl]; rfl
  | f + 1, 0, R, _, hg => by
    have : R = [] := List.length_eq_zero_iff.1 (by omega)
    subst this
    rw [orderR_none (f := f + 1) rfl]; rfl
  | f + 1, g + 1, R, hf, hg => by
    cases h : pickR nd R with
    | none => rw [orderR_none h, orderR_none h]
    | some x =>
      have hx := pickR_mem h
      have hl := List.length_erase_of_mem hx
      have hp := List.length_pos_of_mem hx
      rw [orderR_some h, orderR_some h, orderR_more f g (R.erase x) (by omega) (by omega)]
end Go.Proofs.YtlllhhjlfmhmlaaGreatDoor.VM
namespace Go.Proofs.YtlllhhjlfmhmlaaGreatDoor.VM
open Go
set_option linter.unusedVariables false
theorem ris_ext : ∀ {l m : List Spt}, Ris l → Ris m → (∀ a, a ∈ l ↔ a ∈ m) → l = m
  | [], [], _, _, _ => rfl
  | [], b :: m, _, _, h => by have := (h b).2 (by simp); cases this
  | a :: l, [], _, _, h => by have := (h a).1 (by simp); cases this
  | a :: l, b :: m, hl, hm, h => by
    have h1 := List.pairwise_cons.1 hl
    have h2 := List.pairwise_cons.1 hm
    have hab : a = b := by
      rcases List.mem_cons.1 ((h a).1 (by simp)) with e | ha
      · exact e
      · rcases List.mem_cons.1 ((h b).2 (by simp)) with e | hb
        · exact e.symm
        · have k1 := h2.1 a ha
          have k2 := h1.1 b hb
          have := spLt_trans k1 k2
          rw [spLt_irr] at this; cases this
    subst hab
    congr 1
    refine ris_ext h1.2 h2.2 fun x => ?_
    have hx := h x
    simp only [List.mem_cons] at hx
    constructor
    · intro k
      have : x ≠ a := fun e => by subst e; have := h1.1 x k; rw [spLt_irr] at this; cases this
      rcases hx.1 (.inr k) with e | e
      · exact absurd e this
      · exact e
    · intro k
      have : x ≠ a := fun e => by subst e; have := h2.1 x k; rw [spLt_irr] at this; cases this
      rcases hx.2 (.inr k) with e | e
      · exact absurd e this
      · exact e
/-- alike ones side by side once -/
def compL : List Spt → List Spt
  | [] => []
  | [a] => [a]
  | a :: b :: l => if a = b then compL (b :: l) else a :: compL (b :: l)
theorem compL_mem : ∀ (l : List Spt) (x : Spt), x ∈ compL l ↔ x ∈ l
  | [], x => Iff.rfl
  | [a], x => Iff.rfl
  | a :: b :: l, x => by
    rw [compL]
    split
    · rename_i h
      subst h
      rw [compL_mem (a :: l) x]
      simp
    · rw [List.mem_cons, compL_mem (b :: l) x]
      simp
theorem compL_ris : ∀ (l : List Spt), l.Pairwise spLe → Ris (compL l)
  | [], _ => List.Pairwise.nil
  | [a], _ => List.pairwise_singleton _ _
  | a :: b :: l, h => by
    have h1 := List.pairwise_cons.1 h
    rw [compL]
    split
    · exact compL_ris (b :: l) h1.2
    · rename_i hab
      refine List.pairwise_cons.2 ⟨fun x hx => ?_, compL_ris (b :: l) h1.2⟩
      rw [compL_mem] at hx
      have hle := h1.1 x hx
      have hab2 := (h1.1 b (by simp)).cases
      rcases hab2 with e | hlt
      · exact absurd e hab
      · rcases List.mem_cons.1 hx with rfl | hx
        · exact hlt
        · have h3 := (List.pairwise_cons.1 h1.2).1 x hx
          rcases h3.cases with e | h3
          · exact e ▸ hlt
          · exact spLt_trans hlt h3
/-! ### books -/
structure Sht where
  name : List Nat
  cols : Nat
  rows : List (List (List Nat))
abbrev Bok := List Sht
def rowSpots (nm : List Nat) (r : Nat) (row : List (List Nat)) : List Spt := (List.range row.length).map fun c => ⟨nm, r, c⟩
def rowsSpots (nm : List Nat) : Nat → List (List (List Nat)) → List Spt
  | _, [] => []
  | r, row :: rows => rowSpots nm r row ++ rowsSpots nm (r + 1) rows
def allSpots : Bok → List Spt
  | [] => []
  | s :: b => rowsSpots s.name 0 s.rows ++ allSpots b
theorem rowSpots_mem {nm : List Nat} {r : Nat} {row : List (List Nat)} {x : Spt} : x ∈ rowSpots nm r row ↔ x.s = nm ∧ x.r = r ∧ x.c < row.length := by
  unfold rowSpots
  rw [List.mem_map]
  constructor
  · rintro ⟨c, hc, rfl⟩
    exact ⟨rfl, rfl, List.mem_range.1 hc⟩
  · rintro ⟨h1, h2, h3⟩
    obtain ⟨a, b, c⟩ := x
    simp only at h1 h2 h3
    subst h1; subst h2
    exact ⟨c, List.mem_range.2 h3, rfl⟩
theorem rowsSpots_mem {nm : List Nat} {x : Spt} : ∀ {rows : List (List (List Nat))} {r : Nat}, x ∈ rowsSpots nm r rows ↔ x.s = nm ∧ r ≤ x.r ∧ ∃ row, rows[x.r - r]? = some row ∧ x.c < row.length
  | [], r => by simp [rowsSpots]
  | row :: rows, r => by
    rw [rowsSpots, List.mem_append, rowSpots_mem, rowsSpots_mem (rows := rows) (r := r + 1)]
    constructor
    · rintro (⟨h1, h2, h3⟩ | ⟨h1, h2, row', h3, h4⟩)
      · exact ⟨h1, by omega, row, by rw [show x.r - r = 0 by omega]; rfl, h3⟩
      · exact ⟨h1, by omega, row', by rw [show x.r - r = (x.r - (r + 1)) + 1 by omega]; exact h3, h4⟩
    · rintro ⟨h1, h2, row', h3, h4⟩
      by_cases he : x.r = r
      · rw [show x.r - r = 0 by omega] at h3
        cases h3
        exact .inl ⟨h1, he, h4⟩
      · rw [show x.r - r = (x.r - (r + 1)) + 1 by omega] at h3
        exact .inr ⟨h1, by omega, row', h3, h4⟩
theorem allSpots_mem {x : Spt} : ∀ {b : Bok}, x ∈ allSpots b ↔ ∃ s ∈ b, x.s = s.name ∧ ∃ row, s.rows[x.r]? = some row ∧ x.c < row.length
  | [] => by simp [allSpots]
  | s :: b => by
    rw [allSpots, List.mem_append, rowsSpots_mem, allSpots_mem (b := b)]
    simp only [List.mem_cons, Nat.sub_zero, Nat.zero_le, true_and]
    constructor
    · rintro (h | ⟨t, h, k⟩)
      · exact ⟨s, .inl rfl, h⟩
      · exact ⟨t, .inr h, k⟩
    · rintro ⟨t, rfl | h, k⟩
      · exact .inl k
      · exact .inr ⟨t, h, k⟩
/-- names rise -/
def Rises (b : Bok) : Prop := b.Pairwise fun s t => slt s.name t.name = true
theorem rowSpots_ris (nm : List Nat) (r : Nat) (row : List (List Nat)) : Ris (rowSpots nm r row) := by
  unfold rowSpots Ris
  rw [List.pairwise_map]
  refine List.Pairwise.imp (fun {a b} h => ?_) List.pairwise_lt_range
  rw [spLt_iff]
  exact .inr ⟨rfl, .inr ⟨rfl, h⟩⟩
theorem rowsSpots_ris (nm : List Nat) : ∀ (rows : List (List (List Nat))) (r : Nat), Ris (rowsSpots nm r rows)
  | [], r => List.Pairwise.nil
  | row :: rows, r => by
    rw [rowsSpots]
    refine List.pairwise_append.2 ⟨rowSpots_ris nm r row, rowsSpots_ris nm rows (r + 1), fun a ha b hb => ?_⟩
    obtain ⟨h1, h2, _⟩ := rowSpots_mem.1 ha
    obtain ⟨h3, h4, _⟩ := rowsSpots_mem.1 hb
    rw [spLt_iff]
    exact .inr ⟨by rw [h1, h3], .inl (by omega)⟩
theorem allSpots_ris : ∀ {b : Bok}, Rises b → Ris (allSpots b)
  | [], _ => List.Pairwise.nil
  | s :: b, h => by
    have h1 := List.pairwise_cons.1 h
    rw [allSpots]
    refine List.pairwise_append.2 ⟨rowsSpots_ris _ _ _, allSpots_ris h1.2, fun a ha x hx => ?_⟩
    obtain ⟨h3, _⟩ := rowsSpots_mem.1 ha
    obtain ⟨t, ht, h4, _⟩ := allSpots_mem.1 hx
    rw [spLt_iff, h3, h4]
    exact .inl (h1.1 t ht)
/-! ### rectangles -/
structure Rct where
  s : List Nat
  r0 : Nat
  c0 : Nat
  r1 : Nat
  c1 : Nat
def Rct.has (k : Rct) (x : Spt) : Bool := decide (k.s = x.s) && decide (k.r0 ≤ x.r) && decide (x.r ≤ k.r1) && decide (k.c0 ≤ x.c) && decide (x.c ≤ k.c1)
def named (ks : List Rct) (x : Spt) : Bool := ks.any fun k => k.has x
def needsR (ks : List Rct) (b : Bok) : List Spt := (allSpots b).filter (named ks)
def findR (b : Bok) (nm : List Nat) : Option Sht := b.find? fun s => decide (s.name = nm)
/-- a rectangle gone through, row by row -/
def colsL (nm : List Nat) (r c0 c1 : Nat) : List Spt := (List.range (c1 - c0)).map fun i => ⟨nm, r, c0 + i⟩
def rowsL (k : Rct) (rows : List (List (List Nat))) : Nat → Nat → List Spt
  | 0, _ => []
  | n + 1, r => colsL k.s r k.c0 (min (k.c1 + 1) ((rows[r]?).getD []).length) ++ rowsL k rows n (r + 1)
def rectL (b : Bok) (k : Rct) : List Spt := match findR b k.s with
  | none => []
  | some s => rowsL k s.rows (min (k.r1 + 1) s.rows.length - k.r0) k.r0
theorem colsL_mem {nm : List Nat} {r c0 c1 : Nat} {x : Spt} : x ∈ colsL nm r c0 c1 ↔ x.s = nm ∧ x.r = r ∧ c0 ≤ x.c ∧ x.c < c1 := by
  unfold colsL
  rw [List.mem_map]
  constructor
  · rintro ⟨i, hi, rfl⟩
    have := List.mem_range.1 hi
    exact ⟨rfl, rfl, by simp, by simp only; omega⟩
  · rintro ⟨h1, h2, h3, h4⟩
    obtain ⟨a, b, c⟩ := x
    simp only at h1 h2 h3 h4
    subst h1; subst h2
    exact ⟨c - c0, List.mem_range.2 (by omega), by congr 1; omega⟩
theorem rowsL_mem {k : Rct} {rows : List (List (List Nat))} {x : Spt} : ∀ {n r : Nat}, x ∈ rowsL k rows n r ↔ x.s = k.s ∧ r ≤ x.r ∧ x.r < r + n ∧ k.c0 ≤ x.c ∧ x.c < min (k.c1 + 1) ((rows[x.r]?).getD []).length
  | 0, r => by
    simp only [rowsL, List.not_mem_nil, false_iff]
    rintro ⟨_, h1, h2, _⟩
    omega
  | n + 1, r => by
    rw [rowsL, List.mem_append, colsL_mem, rowsL_mem (n := n) (r := r + 1)]
    constructor
    · rintro (⟨h1, h2, h3, h4⟩ | ⟨h1, h2, h3, h4⟩)
      · subst h2; exact ⟨h1, by omega, by omega, h3, h4⟩
      · exact ⟨h1, by omega, by omega, h4⟩
    · rintro ⟨h1, h2, h3, h4, h5⟩
      by_cases he : x.r = r
      · exact .inl ⟨h1, he, h4, he ▸ h5⟩
      · exact .inr ⟨h1, by omega, by omega, h4, h5⟩
theorem findR_some {b : Bok} (hb : Rises b) {s : Sht} (hs : s ∈ b) : findR b s.name = some s := by
  induction b with
  | nil => cases hs
  | cons t b ih =>
    have h1 := List.pairwise_cons.1 hb
    unfold findR
    rw [List.find?_cons]
    rcases List.mem_cons.1 hs with rfl | hs
    · simp
    · have : t.name ≠ s.name := fun e => by
        have := h1.1 s hs
        rw [e, slt_irr] at this; cases this
      simp only [this, decide_false]
      exact ih h1.2 hs
theorem rectL_mem {b : Bok} (hb : Rises b) {k : Rct} {x : Spt} : x ∈ rectL b k ↔ k.has x = true ∧ x ∈ allSpots b := by
  have hh : k.has x = true ↔ k.s = x.s ∧ k.r0 ≤ x.r ∧ x.r ≤ k.r1 ∧ k.c0 ≤ x.c ∧ x.c ≤ k.c1 := by simp [Rct.has, and_assoc]
  rw [hh, allSpots_mem]
  unfold rectL
  cases hf : findR b k.s with
  | none =>
    simp only [List.not_mem_nil, false_iff]
    rintro ⟨⟨h1, _⟩, s, hs, h2, _⟩
    have := findR_some hb hs
    rw [← h2, ← h1, hf] at this
    cases this
  | some s =>
    have hs : s ∈ b := List.mem_of_find?_eq_some hf
    have hn : s.name = k.s := by have := List.find?_some hf; simpa using this
    simp only [rowsL_mem]
    constructor
    · rintro ⟨h1, h2, h3, h4, h5⟩
      have hr : x.r < s.rows.length := by omega
      obtain ⟨row, hrow⟩ : ∃ row, s.rows[x.r]? = some row := ⟨_, List.getElem?_eq_getElem hr⟩
      rw [hrow] at h5
      simp only [Option.getD_some] at h5
      exact ⟨⟨h1.symm, h2, by omega, h4, by omega⟩, s, hs, by rw [h1, hn], row, hrow, by omega⟩
    · rintro ⟨⟨h1, h2, h3, h4, h5⟩, t, ht, h6, row, h7, h8⟩
      have e : t = s := by
        have := findR_some hb ht
        rw [← h6, ← h1, hf] at this
        exact (Option.some.inj this).symm
      subst e
      have := (List.getElem?_eq_some_iff.1 h7).1
      rw [h7]
      simp only [Option.getD_some]
      exact ⟨h1.symm, h2, by omega, h4, by omega⟩
/-- what is walked, put in order, is what is named -/
theorem needs_law {b : Bok} (hb : Rises b) (ks : List Rct) {l : List Spt} (hp : l.Perm (ks.flatMap (rectL b))) (hs : l.Pairwise spLe) : compL l = needsR ks b := by
  refine ris_ext (compL_ris l hs) ((allSpots_ris hb).sub List.filter_sublist) fun x => ?_
  rw [compL_mem, hp.mem_iff, List.mem_flatMap]
  unfold needsR named
  rw [List.mem_filter, List.any_eq_true]
  constructor
  · rintro ⟨k, hk, hx⟩
    obtain ⟨h1, h2⟩ := (rectL_mem hb).1 hx
    exact ⟨h2, k, hk, h1⟩
  · rintro ⟨h2, k, hk, h1⟩
    exact ⟨k, hk, (rectL_mem hb).2 ⟨h1, h2⟩⟩
theorem needsR_nodup {b : Bok} (hb : Rises b) (ks : List Rct) : (needsR ks b).Nodup := ((allSpots_ris hb).sub List.filter_sublist).nodup
theorem needsR_sub {b : Bok} {ks : List Rct} {x : Spt} (h : x ∈ needsR ks b) : x ∈ allSpots b := (List.mem_filter.1 h).1
end Go.Proofs.YtlllhhjlfmhmlaaGreatDoor.VM
namespace Go.Proofs.YtlllhhjlfmhmlaaGreatDoor.VM
open Go
set_option linter.unusedVariables false
section
variable {nd : Spt → List Spt}
theorem orderR_perm : ∀ (f : Nat) (R : List Spt), R.length ≤ f → ((orderR nd f R).1 ++ (orderR nd f R).2).Perm R
  | 0, R, _ => by simp [orderR]
  | f + 1, R, hf => by
    cases h : pickR nd R with
    | none => rw [orderR_none h]; simp
    | some x =>
      have hx := pickR_mem h
      have hl := List.length_erase_of_mem hx
      have hp := List.length_pos_of_mem hx
      rw [orderR_some h]
      simp only [List.cons_append]
      exact ((orderR_perm f (R.erase x) (by omega)).cons x).trans (List.perm_cons_erase hx).symm
theorem orderR_sub : ∀ (f : Nat) (R : List Spt), (orderR nd f R).2.Sublist R
  | 0, R => List.Sublist.refl _
  | f + 1, R => by
    cases h : pickR nd R with
    | none => rw [orderR_none h]; exact List.Sublist.refl _
    | some x => rw [orderR_some h]; exact (orderR_sub f _).trans List.erase_sublist
theorem orderR_left : ∀ (f : Nat) (R : List Spt), R.length ≤ f → ∀ s ∈ (orderR nd f R).2, waits (nd s) (orderR nd f R).2 = true
  | 0, R, hf, s, hs => by
    have : R = [] := List.length_eq_zero_iff.1 (by omega)
    subst this
    cases hs
  | f + 1, R, hf, s, hs => by
    cases h : pickR nd R with
    | none =>
      rw [orderR_none h] at hs ⊢
      have := List.find?_eq_none.1 h s hs
      simpa using this
    | some x =>
      have hx := pickR_mem h
      have hl := List.length_erase_of_mem hx
      have hp := List.length_pos_of_mem hx
      rw [orderR_some h] at hs ⊢
      exact orderR_left f (R.erase x) (by omega) s hs
theorem orderR_pre : ∀ (f : Nat) (R : List Spt) (i : Nat) (s : Spt), (orderR nd f R).1[i]? = some s → ∀ n ∈ nd s, n ∈ R → n ∈ (orderR nd f R).1.take i
  | 0, R, i, s, hs, n, _, _ => by simp [orderR] at hs
  | f + 1, R, i, s, hs, n, hn, hnR => by
    cases h : pickR nd R with
    | none => rw [orderR_none h] at hs; simp at hs
    | some x =>
      rw [orderR_some h] at hs ⊢
      cases i with
      | zero =>
        simp only [List.getElem?_cons_zero, Option.some.injEq] at hs
        subst hs
        have := List.find?_some h
        simp only [Bool.not_eq_true'] at this
        unfold waits at this
        rw [List.any_eq_false] at this
        exact absurd (by simpa using hnR) (this n hn)
      | succ i =>
        simp only [List.getElem?_cons_succ] at hs
        rw [List.take_succ_cons, List.mem_cons]
        by_cases e : n = x
        · exact .inl e
        · exact .inr (orderR_pre f (R.erase x) i s hs n hn ((List.mem_erase_of_ne e).2 hnR))
/-- the place of a cell in a list -/
def atR : List Spt → Spt → Nat → Option Nat
  | [], _, _ => none
  | a :: l, s, i => if a = s then some i else atR l s (i + 1)
theorem atR_none {s : Spt} : ∀ {l : List Spt} {i : Nat}, atR l s i = none ↔ s ∉ l
  | [], i => by simp [atR]
  | a :: l, i => by
    rw [atR]
    split
    · rename_i h; simp [h]
    · rename_i h
      rw [atR_none (l := l) (i := i + 1)]
      simp [Ne.symm h]
theorem atR_lt {s : Spt} : ∀ {l : List Spt} {i k : Nat}, s ∈ l.take k → ∃ j, atR l s i = some (i + j) ∧ j < k
  | [], i, k, h => by simp at h
  | a :: l, i, 0, h => by simp at h
  | a :: l, i, k + 1, h => by
    rw [atR]
    by_cases e : a = s
    · rw [if_pos e]; exact ⟨0, rfl, by omega⟩
    · rw [if_neg e]
      rw [List.take_succ_cons, List.mem_cons] at h
      rcases h with h | h
      · exact absurd h.symm e
      · obtain ⟨j, h1, h2⟩ := atR_lt (i := i + 1) h
        exact ⟨j + 1, by rw [h1]; congr 1; omega, by omega⟩
theorem atR_self {s : Spt} : ∀ {l : List Spt} {i k : Nat}, l.Nodup → l[k]? = some s → atR l s i = some (i + k)
  | [], i, k, _, h => by simp at h
  | a :: l, i, 0, _, h => by
    simp only [List.getElem?_cons_zero, Option.some.injEq] at h
    rw [atR, if_pos h]; rfl
  | a :: l, i, k + 1, hd, h => by
    simp only [List.getElem?_cons_succ] at h
    have h1 := List.nodup_cons.1 hd
    have : a ≠ s := fun e => h1.1 (e ▸ List.mem_of_getElem? h)
    rw [atR, if_neg this, atR_self h1.2 h]
    congr 1; omega
theorem atR_some {s : Spt} {l : List Spt} (h : s ∈ l) (i : Nat) : ∃ j, atR l s i = some j := by
  cases e : atR l s i with
  | some j => exact ⟨j, rfl⟩
  | none => exact absurd h (atR_none.1 e)
end
end Go.Proofs.YtlllhhjlfmhmlaaGreatDoor.VM
namespace Go.Proofs.YtlllhhjlfmhmlaaGreatDoor.VM
open Go
set_option linter.unusedVariables false
set_option linter.unusedSimpArgs false
noncomputable section
attribute [local instance] syZ
variable {E : Env}
/-! ### elements -/
theorem rdCells_out {h : Hp} {b : Nat} {vs : List V} (hb : rdCells h b = some vs) : ∃ e ro, h.t.get b = some (.cells vs e ro) := by
  unfold rdCells at hb
  split at hb
  · rename_i us e ro heq
    cases hb
    exact ⟨e, ro, heq⟩
  · cases hb
theorem rd_get1 {h : Hp} {v : V} {len : Nat} {cs : List V} (r : Rd h 1 v len cs) {t e : TypeId} (ht : IsSl E t e) {z : List V} (he : El E e 1 z false) {i : Nat} {x : V} (hx : cs[i]? = some x) :
    ∃ b o, (∀ (k : IntKind) (q : V → Prop), (Pu E).iaddr t v (.int k i) q ↔ q (.ptr b o)) ∧ (∀ q : V → Prop, (Pu E).load h e (.ptr b o) q ↔ q x) ∧ blkOf v = some b := by
  have hi : i < len := by have := (List.getElem?_eq_some_iff.1 hx).1; have := r.sized; omega
  obtain ⟨b, o, h0, h1, h2, _⟩ := rd_at r ht he (fun _ => rfl) (by omega) hi
  refine ⟨b, o, h1, fun q => (h2 q).trans ?_, h0⟩
  unfold elemAt
  rw [hx]
  rfl
theorem rd_getS {h : Hp} {sz : Nat} {v : V} {len : Nat} {cs : List V} (r : Rd h sz v len cs) {t e : TypeId} (ht : IsSl E t e) {z : List V} (he : El E e sz z true) (hpos : 0 < sz) {i : Nat} (hi : i < len) {l : List V} (hl : (cs.drop (i * sz)).take sz = l) :
    ∃ b o, (∀ (k : IntKind) (q : V → Prop), (Pu E).iaddr t v (.int k i) q ↔ q (.ptr b o)) ∧ (∀ q : V → Prop, (Pu E).load h e (.ptr b o) q ↔ q (.agg l)) ∧ blkOf v = some b ∧
      ∃ vs f ro, h.t.get b = some (.cells vs f ro) ∧ sub vs o sz = some l ∧ ∀ (k : Nat) (x : V), l[k]? = some x → vs[o + k]? = some x := by
  obtain ⟨b, o, h0, h1, h2, vs, h3, h4, h5⟩ := rd_at r ht he (fun e => by cases e) hpos hi
  obtain ⟨f, ro, h6⟩ := rdCells_out h3
  subst hl
  refine ⟨b, o, h1, fun q => (h2 q).trans ?_, h0, vs, f, ro, h6, ?_, fun k x hx => ?_⟩
  · unfold elemAt
    rw [if_pos rfl]
  · unfold sub
    have : ((cs.drop (i * sz)).take sz).length = sz := by
      rw [← h4]
      simp only [List.length_take, List.length_drop]
      omega
    simp only [h4, this, Nat.beq_refl, cond_true]
  · rw [← h4, List.getElem?_take] at hx
    split at hx
    · rw [← hx, List.getElem?_drop]
    · cases hx
theorem Rd.nil (h : Hp) (sz : Nat) : Rd h sz .nils 0 [] := ⟨by simp, .inl ⟨.inl rfl, rfl⟩⟩
theorem Rd.len0 {h : Hp} {sz : Nat} {v : V} {cs : List V} (r : Rd h sz v 0 cs) : cs = [] := by have := r.sized; simpa using this
/-! ### cells in order -/
def spC (s : Spt) : List V := [.str s.s, .int .i64 s.r, .int .i64 s.c]
def spV (s : Spt) : V := .agg (spC s)
def spCs (l : List Spt) : List V := l.flatMap spC
theorem spCs_len (l : List Spt) : (spCs l).length = l.length * 3 := by
  unfold spCs
  induction l with
  | nil => rfl
  | cons a l ih => rw [List.flatMap_cons, List.length_append, ih]; simp [spC]; omega
theorem spCs_app (l m : List Spt) : spCs (l ++ m) = spCs l ++ spCs m := by simp [spCs]
theorem spCs_cells (l : List Spt) : allCells (spCs l) = true := by
  unfold spCs
  induction l with
  | nil => rfl
  | cons a l ih => rw [List.flatMap_cons]; simpa [spC, allCells, V.isCell] using ih
theorem spCs_at : ∀ (l : List Spt) (i : Nat) (s : Spt), l[i]? = some s → ((spCs l).drop (i * 3)).take 3 = spC s
  | [], i, s, h => by simp at h
  | a :: l, 0, s, h => by
    simp only [List.getElem?_cons_zero, Option.some.injEq] at h
    subst h
    simp [spCs, spC]
  | a :: l, i + 1, s, h => by
    simp only [List.getElem?_cons_succ] at h
    have := spCs_at l i s h
    have e : (spCs (a :: l)).drop ((i + 1) * 3) = (spCs l).drop (i * 3) := by
      have : (i + 1) * 3 = 3 + i * 3 := by omega
      rw [this]
      unfold spCs
      rw [List.flatMap_cons, ← List.drop_drop]
      congr 1
    rw [e, this]
/-- a slice of cells -/
def Sps (h : Hp) (v : V) (l : List Spt) : Prop := Rd h 3 v l.length (spCs l)
theorem Sps.ext {N : Nat} {h h' : Hp} {v : V} {l : List Spt} (s : Sps h v l) (x : Ext N h h') (hi : In N v) : Sps h' v l := Rd.ext s x hi
theorem sps_get {h : Hp} {v : V} {l : List Spt} (s : Sps h v l) {t e : TypeId} (ht : IsSl E t e) {z : List V} (he : El E e 3 z true) {i : Nat} {x : Spt} (hx : l[i]? = some x) :
    ∃ b o, (∀ (k : IntKind) (q : V → Prop), (Pu E).iaddr t v (.int k i) q ↔ q (.ptr b o)) ∧ (∀ q : V → Prop, (Pu E).load h e (.ptr b o) q ↔ q (spV x)) ∧ blkOf v = some b ∧
      ∃ vs f ro, h.t.get b = some (.cells vs f ro) ∧ sub vs o 3 = some (spC x) ∧ ∀ (k : Nat) (y : V), (spC x)[k]? = some y → vs[o + k]? = some y :=
  rd_getS s ht he (by omega) (List.getElem?_eq_some_iff.1 hx).1 (spCs_at l i x hx)
/-! ### books -/
def RowAt (N : Nat) (h : Hp) (v : V) (r : List (List Nat)) : Prop := Rd h 1 v r.length (r.map V.str) ∧ In N v
def RowsAt (N : Nat) (h : Hp) (v : V) (rs : List (List (List Nat))) : Prop := ∃ vs : List V, Rd h 1 v rs.length vs ∧ In N v ∧ ∀ (i : Nat) (r : List (List Nat)), rs[i]? = some r → ∃ w, vs[i]? = some w ∧ RowAt N h w r
def shtC (s : Sht) (rv : V) : List V := [.str s.name, .int .i64 s.cols, rv]
def ShsAt (N : Nat) (h : Hp) (v : V) (b : Bok) : Prop := ∃ cs : List V, Rd h 3 v b.length cs ∧ In N v ∧ ∀ (i : Nat) (s : Sht), b[i]? = some s → ∃ rv, (cs.drop (i * 3)).take 3 = shtC s rv ∧ RowsAt N h rv s.rows
def BokAt (N : Nat) (h : Hp) (v : V) (b : Bok) : Prop := ∃ sv, v = .agg [sv] ∧ ShsAt N h sv b
section
variable {N : Nat} {h h' : Hp}
theorem RowAt.ext {v : V} {r : List (List Nat)} (a : RowAt N h v r) (x : Ext N h h') : RowAt N h' v r := ⟨a.1.ext x a.2, a.2⟩
theorem RowsAt.ext {v : V} {rs : List (List (List Nat))} (a : RowsAt N h v rs) (x : Ext N h h') : RowsAt N h' v rs := by
  obtain ⟨vs, h1, h2, h3⟩ := a
  exact ⟨vs, h1.ext x h2, h2, fun i r hr => by obtain ⟨w, h4, h5⟩ := h3 i r hr; exact ⟨w, h4, h5.ext x⟩⟩
theorem ShsAt.ext {v : V} {b : Bok} (a : ShsAt N h v b) (x : Ext N h h') : ShsAt N h' v b := by
  obtain ⟨cs, h1, h2, h3⟩ := a
  exact ⟨cs, h1.ext x h2, h2, fun i s hs => by obtain ⟨rv, h4, h5⟩ := h3 i s hs; exact ⟨rv, h4, h5.ext x⟩⟩
theorem BokAt.ext {v : V} {b : Bok} (a : BokAt N h v b) (x : Ext N h h') : BokAt N h' v b := by
  obtain ⟨sv, h1, h2⟩ := a; exact ⟨sv, h1, h2.ext x⟩
theorem RowAt.mono {M : Nat} {v : V} {r : List (List Nat)} (a : RowAt N h v r) (hm : N ≤ M) : RowAt M h v r := ⟨a.1, a.2.mono hm⟩
theorem RowsAt.mono {M : Nat} {v : V} {rs : List (List (List Nat))} (a : RowsAt N h v rs) (hm : N ≤ M) : RowsAt M h v rs := by
  obtain ⟨vs, h1, h2, h3⟩ := a
  exact ⟨vs, h1, h2.mono hm, fun i r hr => by obtain ⟨w, h4, h5⟩ := h3 i r hr; exact ⟨w, h4, h5.mono hm⟩⟩
theorem ShsAt.mono {M : Nat} {v : V} {b : Bok} (a : ShsAt N h v b) (hm : N ≤ M) : ShsAt M h v b := by
  obtain ⟨cs, h1, h2, h3⟩ := a
  exact ⟨cs, h1, h2.mono hm, fun i s hs => by obtain ⟨rv, h4, h5⟩ := h3 i s hs; exact ⟨rv, h4, h5.mono hm⟩⟩
theorem BokAt.mono {M : Nat} {v : V} {b : Bok} (a : BokAt N h v b) (hm : N ≤ M) : BokAt M h v b := by
  obtain ⟨sv, h1, h2⟩ := a; exact ⟨sv, h1, h2.mono hm⟩
theorem ShsAt.rd {v : V} {b : Bok} (a : ShsAt N h v b) : ∃ cs, Rd h 3 v b.length cs := by obtain ⟨cs, h1, _⟩ := a; exact ⟨cs, h1⟩
theorem RowsAt.rd {v : V} {rs : List (List (List Nat))} (a : RowsAt N h v rs) : ∃ vs, Rd h 1 v rs.length vs := by obtain ⟨cs, h1, _⟩ := a; exact ⟨cs, h1⟩
/-- a text of a row -/
theorem row_get {v : V} {r : List (List Nat)} (a : RowAt N h v r) {t e : TypeId} (ht : IsSl E t e) {z : List V} (he : El E e 1 z false) {i : Nat} {s : List Nat} (hs : r[i]? = some s) :
    ∃ b o, (∀ (k : IntKind) (q : V → Prop), (Pu E).iaddr t v (.int k i) q ↔ q (.ptr b o)) ∧ (∀ q : V → Prop, (Pu E).load h e (.ptr b o) q ↔ q (.str s)) := by
  obtain ⟨b, o, h1, h2, _⟩ := rd_get1 a.1 ht he (i := i) (x := .str s) (by rw [List.getElem?_map, hs]; rfl)
  exact ⟨b, o, h1, h2⟩
/-- a row of rows -/
theorem rows_get {v : V} {rs : List (List (List Nat))} (a : RowsAt N h v rs) {t e : TypeId} (ht : IsSl E t e) {z : List V} (he : El E e 1 z false) {i : Nat} {r : List (List Nat)} (hr : rs[i]? = some r) :
    ∃ b o w, (∀ (k : IntKind) (q : V → Prop), (Pu E).iaddr t v (.int k i) q ↔ q (.ptr b o)) ∧ (∀ q : V → Prop, (Pu E).load h e (.ptr b o) q ↔ q w) ∧ RowAt N h w r := by
  obtain ⟨vs, h1, h2, h3⟩ := a
  obtain ⟨w, h4, h5⟩ := h3 i r hr
  obtain ⟨b, o, h6, h7, _⟩ := rd_get1 h1 ht he h4
  exact ⟨b, o, w, h6, h7, h5⟩
/-- a sheet of a book -/
theorem sht_get {v : V} {b : Bok} (a : ShsAt N h v b) {t e : TypeId} (ht : IsSl E t e) {z : List V} (he : El E e 3 z true) {i : Nat} {s : Sht} (hs : b[i]? = some s) :
    ∃ b o rv, (∀ (k : IntKind) (q : V → Prop), (Pu E).iaddr t v (.int k i) q ↔ q (.ptr b o)) ∧ (∀ q : V → Prop, (Pu E).load h e (.ptr b o) q ↔ q (.agg (shtC s rv))) ∧ RowsAt N h rv s.rows ∧
      ∃ vs f ro, h.t.get b = some (.cells vs f ro) ∧ ∀ (k : Nat) (x : V), (shtC s rv)[k]? = some x → vs[o + k]? = some x := by
  obtain ⟨cs, h1, h2, h3⟩ := a
  obtain ⟨rv, h4, h5⟩ := h3 i s hs
  obtain ⟨b, o, h6, h7, _, vs, f, ro, h8, _, h9⟩ := rd_getS h1 ht he (by omega) (List.getElem?_eq_some_iff.1 hs).1 h4
  exact ⟨b, o, rv, h6, h7, h5, vs, f, ro, h8, h9⟩
end
end
end Go.Proofs.YtlllhhjlfmhmlaaGreatDoor.VM
namespace Go.Proofs.YtlllhhjlfmhmlaaGreatDoor.VM
open Go
set_option maxRecDepth 20000
set_option linter.unusedVariables false
noncomputable section
/-! ### texts by numbers -/
def txt (n : Nat) : List Nat :=
  match n % 13 with
  | 0 => []
  | 1 => []
  | 2 => []
  | 3 => [48 + n / 13 % 9]
  | 4 => [48 + n / 13 % 9]
  | 5 => [39, 97 + n / 13 % 5]
  | 6 => [61, 65, 49 + n / 13 % 5]
  | 7 => [61, 66, 49 + n / 13 % 4, 43, 49]
  | 8 => [61, 83, 85, 77, 40, 65, 49, 58, 66, 49 + n / 13 % 5, 41]
  | 9 => [61, 66, 33, 65 + n / 13 % 4, 50, 42, 50]
  | 10 => [61, 73, 70, 40, 36, 65, 36, 49, 62, 50, 44, 67, 49 + n / 13 % 4, 44, 34, 120, 34, 41]
  | 11 => [61, 67, 33, 65, 49, 38, 34, 121, 34]
  | _ => [61, 49, 47, 48 + n / 13 % 2]
def txOK (n : Nat) : Bool :=
  match look [] 400 (callOf Ed (exec Ed 3000) 34 [.int .i64 (Int.ofNat n)] ⟨.leaf, 0⟩) with
  | some (.str s, []) => seq s (txt n)
  | _ => false
def allB (a n : Nat) : Bool := Nat.rec (motive := fun _ => Bool) true (fun k ih => txOK (a + k) && ih) n
theorem allB_get : ∀ {n a k : Nat}, allB a n = true → k < n → txOK (a + k) = true
  | 0, _, _, _, hk => by omega
  | n + 1, a, k, h, hk => by
    have h2 : txOK (a + n) = true ∧ allB a n = true := by
      have : (txOK (a + n) && allB a n) = true := h
      simpa using this
    by_cases e : k = n
    · subst e; exact h2.1
    · exact allB_get h2.2 (by omega)
theorem tx0 : allB 0 64 = true := by kernel_rfl
theorem tx1 : allB 64 64 = true := by kernel_rfl
theorem tx2 : allB 128 64 = true := by kernel_rfl
theorem tx3 : allB 192 64 = true := by kernel_rfl
theorem txOK_all {n : Nat} (h : n < 256) : txOK n = true := by
  rcases (by omega : n < 64 ∨ (64 ≤ n ∧ n < 128) ∨ (128 ≤ n ∧ n < 192) ∨ 192 ≤ n) with k | k | k | k
  · have := allB_get tx0 k; rwa [Nat.zero_add] at this
  · have := allB_get tx1 (k := n - 64) (by omega); rwa [show 64 + (n - 64) = n by omega] at this
  · have := allB_get tx2 (k := n - 128) (by omega); rwa [show 128 + (n - 128) = n by omega] at this
  · have := allB_get tx3 (k := n - 192) (by omega); rwa [show 192 + (n - 192) = n by omega] at this
def txMemo (n : Nat) : Memo := ⟨[.int .i64 (Int.ofNat n)], .str (txt n), []⟩
def txM : List Memo := (List.range 256).map txMemo
theorem txMemo_ok [Sy] (hg : GlobOK Tryz.prog Sy.tab globs) {n : Nat} (h : n < 256) : MemoOK Tryz.prog 34 (txMemo n) := by
  have hr := txOK_all h
  unfold txOK at hr
  split at hr
  · rename_i s heq
    rw [seq_dec, decide_eq_true_iff] at hr
    subst hr
    exact @memoOK_of _ Tryz.prog (Ed) (envD hg) (@idleD _) (@hooksD _) nameOK 34 3000 400 [] (txMemo n) (by unfold txMemo; rw [heq]; simp [V.ren]) rfl rfl (by decide)
  · cases hr
theorem txM_ok [Sy] (hg : GlobOK Tryz.prog Sy.tab globs) : ∀ m ∈ txM, MemoOK Tryz.prog 34 m := fun m hm => by
  unfold txM at hm
  obtain ⟨n, h1, rfl⟩ := List.mem_map.1 hm
  exact txMemo_ok hg (List.mem_range.1 h1)
def hkD : List (Nat × Hook) := (34, memoH txM) :: (8, memoH [awakeMemo]) :: (46, memoH dpM) :: (29, memoH dpF) :: (16, memoH dpR) :: hkB
def EE : Env := Env.of Tryz.prog (hooksOf hkD) idles (soG globs)
theorem awake_ok (h : Hp) : Ans EE 8 [] h fun v h' => v = .bool true ∧ h' = h.app [] :=
  ⟨_, _, Cs.hook (g := memoH [awakeMemo]) (by kernel_rfl) rfl, rfl, rfl⟩
theorem hkD_ok [Sy] (hg : GlobOK Tryz.prog Sy.tab globs) : ∀ p ∈ hkD, HookOK p.1 p.2 := fun p hp => by
  simp only [hkD, List.mem_cons] at hp
  rcases hp with rfl | rfl | rfl | rfl | rfl | hp
  · exact memos_ok (txM_ok hg)
  · exact memos_ok fun m hm => by rw [List.mem_singleton.1 hm]; exact awakeMemo_ok
  · exact memos_ok (dpM_ok hg)
  · exact memos_ok (dpF_ok hg)
  · exact memos_ok (dpR_ok hg)
  · exact hkB_ok p hp
theorem hooksEE [Sy] (hg : GlobOK Tryz.prog Sy.tab globs) : HooksOK Tryz.prog EE := fun f g hf => hooksOf_ok (l := hkD) (hkD_ok hg) hf
theorem envEE [Sy] (hg : GlobOK Tryz.prog Sy.tab globs) : EnvOK Tryz.prog EE := soG_ok hg _ _
theorem idleEE [Sy] : IdleOK Tryz.prog EE := @idleOK _
theorem calls_of_ans [Sy] (hg : GlobOK Tryz.prog Sy.tab globs) {f : Nat} {fn : Func} (hf : Tryz.prog.funcs[f]? = some fn) (hb : fn.body.isNone = false) {al : List V} {h : Hp} {Q : V → Hp → Prop} (hc : Ans EE f al h Q) {N : Nat} {σ : Mp} {w : World} {xs : List Value} (R : Rel N σ h w) (hr : RepL σ al xs) :
    Calls Tryz.prog f xs.toArray w fun e w'' => ∃ v h' x, Q v h' ∧ e = .returned x ∧ Does N σ h w v h' x w'' := by
  obtain ⟨v, h', ⟨n, hn⟩, hq⟩ := hc
  refine (@runs _ Tryz.prog EE (envEE hg) (@idleEE _) (@hooksEE _ hg) nameOK f fn hf hb al h h' v n hn N σ w xs R hr).mono ?_
  rintro e w2 ⟨x, h1, h2⟩
  exact ⟨v, h', x, hq, h1, h2⟩
end
end Go.Proofs.YtlllhhjlfmhmlaaGreatDoor.VM
namespace Go.Proofs.YtlllhhjlfmhmlaaGreatDoor
open Go.RowKit

theorem block_of_add (a : Addr) (n : Nat) : (a.add n).block = a.block := by unfold Addr.add; split <;> rfl
theorem add_of_add (a : Addr) (i j : Nat) : (a.add i).add j = a.add (i + j) := by
  unfold Addr.add
  by_cases hi : i = 0 <;> by_cases hj : j = 0 <;> simp [hi, hj, Nat.add_assoc]
theorem add_zero_ (a : Addr) : a.add 0 = a := by unfold Addr.add; simp

/-- The slice '.slice A l.length _' reads as l, a cell an element, each stored as 'f x'. -/
def At1 {α : Type} (f : α → Value) (w : World) (A : Option Addr) (l : List α) : Prop :=
  l.length ≤ 9223372036854775807 ∧ (0 < l.length → ∃ ad, A = some ad ∧ ∀ i x, l[i]? = some x → w.cell? (ad.add i) = some (f x))

abbrev vInt : Int → Value := Value.int .i64
abbrev vByte : UInt8 → Value := fun c => Value.int .u8 (c.toNat : Int)
abbrev vStr : ByteArray → Value := Value.string

section
variable {α : Type} {f : α → Value} {w w' : World} {A : Option Addr} {l : List α}

theorem At1.nil (f : α → Value) (w : World) (A : Option Addr) : At1 f w A [] := ⟨by simp, fun h => absurd h (by simp)⟩
theorem At1.keep (h : At1 f w A l) (hk : ∀ p : Addr, p.block < w.heap.size → w'.cell? p = w.cell? p) : At1 f w' A l :=
  ⟨h.1, fun hn => by
    obtain ⟨ad, e, hc⟩ := h.2 hn
    exact ⟨ad, e, fun i x hx => (hk _ (World.block_lt_of_cell? w _ (hc i x hx))).trans (hc i x hx)⟩⟩
theorem At1.below (h : At1 f w A l) (hb : Below w.heap.size w w') : At1 f w' A l := h.keep fun _ hp => hb.cell hp
theorem At1.drewN (h : At1 f w A l) (n : Nat) : At1 f (w.drewN n) A l := h
theorem At1.drew (h : At1 f w A l) : At1 f w.drew A l := h
theorem At1.alloc (h : At1 f w A l) (o : Obj) : At1 f (w.alloc o) A l := h.keep fun p hp => World.cell?_alloc_lt w o p hp
theorem At1.at_ (h : At1 f w A l) {k : Nat} (hk : k < l.length) : ∃ ad, A = some ad ∧ w.cell? (ad.add k) = some (f l[k]) := by
  obtain ⟨ad, e, hc⟩ := h.2 (by omega)
  exact ⟨ad, e, hc k _ (List.getElem?_eq_getElem hk)⟩
theorem At1.cut (h : At1 f w A l) {k cap : Nat} (hk : k ≤ l.length) (hc : l.length ≤ cap) :
    At1 f w (if cap = k then A else A.map (·.add k)) (l.drop k) := by
  refine ⟨by have := h.1; simp; omega, fun hn => ?_⟩
  have hn' : k < l.length := by simp at hn; omega
  obtain ⟨ad, rfl, hcell⟩ := h.2 (by omega)
  rw [if_neg (by omega)]
  refine ⟨ad.add k, rfl, fun j u hu => ?_⟩
  rw [add_of_add]
  exact hcell _ u (by rw [← hu, List.getElem?_drop])
theorem At1.take (h : At1 f w A l) (k : Nat) : At1 f w A (l.take k) := by
  refine ⟨by have := h.1; simp; omega, fun hn => ?_⟩
  have hn' : 0 < l.length := by simp at hn; omega
  obtain ⟨ad, rfl, hcell⟩ := h.2 hn'
  refine ⟨ad, rfl, fun j u hu => hcell j u ?_⟩
  rw [List.getElem?_take] at hu
  split at hu
  · exact hu
  · cases hu
/-- What the call owns reads as a list. -/
theorem At1.of_own {base : Nat} {e : TypeId} {c n : Nat} (h : w.ownsRow base e 1 (.slice A n c) n (l.map f)) (hm : l.length ≤ 9223372036854775807) : At1 f w A l := by
  refine ⟨hm, fun hn => ?_⟩
  have hl : l.length = n := by simpa using h.1
  obtain ⟨g, cap, hv, _, hlt⟩ := h.form (by omega)
  have hA : A = some ⟨g, 0, none⟩ := by injection hv
  subst hA
  exact ⟨_, rfl, fun i x hx => h.cells (g := g) rfl i _ (by rw [List.getElem?_map, hx]; rfl)⟩
end

/-- a slice over a block whose cells are known -/
theorem at1_lit {α : Type} {f : α → Value} {w : World} {g : Nat} {cs : Array Value} {e : TypeId} {fr : Nat × Nat} {l : List α} (hl : l.length ≤ 9223372036854775807) (h : w.heap[g]? = some (.cells cs e fr)) (hc : ∀ (i : Nat) (x : α), l[i]? = some x → cs[i]? = some (f x)) :
    At1 f w (some ⟨g, 0, none⟩) l := by
  refine ⟨hl, fun _ => ⟨_, rfl, fun i x hx => ?_⟩⟩
  have e : (⟨g, 0, none⟩ : Addr).add i = ⟨g, i, none⟩ := by unfold Addr.add; split <;> simp_all
  rw [e]
  simp [World.cell?, h, hc i x hx]

theorem below_drewN {B : Nat} {a w : World} (h : Below B a w) (n : Nat) : Below B a (w.drewN n) := ⟨h.os, h.tape, h.output, h.size, h.block⟩
theorem below_of_drewN {B : Nat} (w : World) (n : Nat) : Below B w (w.drewN n) := below_drewN (Below.refl _ _) n

/-- a slice value that the call owns has this form -/
theorem own_form {w : World} {base : Nat} {e : TypeId} {size n : Nat} {v : Value} {xs : List Value} (h : w.ownsRow base e size v n xs) : ∃ A c, v = .slice A n c ∧ n ≤ c ∧ c ≤ maxLen := by
  rcases h.2 with ⟨rfl, rfl⟩ | ⟨g, cap, cur, rfl, _, _, h1, h2, _⟩
  · exact ⟨none, 0, rfl, Nat.le_refl _, by simp [maxLen]⟩
  · exact ⟨_, cap, rfl, h1, h2⟩

theorem take_snoc {α : Type} {l : List α} {k : Nat} (h : k < l.length) : l.take (k + 1) = l.take k ++ [l[k]] := by rw [List.take_succ_eq_append_getElem h]
theorem map_take_snoc {α β : Type} (f : α → β) {l : List α} {k : Nat} (h : k < l.length) : (l.take (k + 1)).map f = (l.take k).map f ++ [f l[k]] := by rw [take_snoc h, List.map_append]; rfl

theorem run_max2 {P : Program} (ts : Array TypeId) (t : TypeId) (k k' : IntKind) (x y : Int) (w : World) : (Builtin.max_ ts t #[.int k x, .int k' y]).run P w = .ok (.int k (max x y)) w := by
  rw [run_max_int2]
  congr 2
  split <;> omega

theorem toList_inj {a b : ByteArray} (h : a.toList = b.toList) : a = b := by
  rw [ByteArray.toList_eq, ByteArray.toList_eq] at h
  cases a; cases b
  congr 1
  exact Array.toList_inj.1 h
theorem str_eq_true {a b : ByteArray} (h : a = b) : (a.toList == b.toList) = true := by rw [h]; simp
theorem str_eq_false {a b : ByteArray} (h : a ≠ b) : (a.toList == b.toList) = false := by
  rw [beq_eq_false_iff_ne]
  exact fun e => h (toList_inj e)

/-- 'string([]byte{c})' -/
theorem run_str1 {P : Program} {src dst e : TypeId} (hs : P.underlying src = some (.slice e)) (he : P.underlying e = some (.int .u8)) (hd : P.underlying dst = some .string) (w : World) (x : UInt8) (n : Int) (hn : n = (x.toNat : Int)) :
    (convert src dst (.slice (some ⟨w.heap.size, 0, none⟩) 1 1)).run P (w.alloc (.cells #[.int .u8 n] e)) = .ok (.string ⟨#[x]⟩) (w.alloc (.cells #[.int .u8 n] e)) := by
  subst hn
  refine run_convert_bytes_back (P := P) _ src dst e ⟨w.heap.size, 0, none⟩ 1 [x] hs he hd fun j hj => ?_
  have : j = 0 := by simpa using hj
  subst this
  rw [add_zero_, World.cell?_alloc_mark]
  rfl

/-! ## append of one element, of a list, onto a row of the call's own -/
/-- What the program's table says of a slice type T with elements e. -/
def EInfo (P : Program) (T e : TypeId) (z : Value) (size bytes : Nat) : Prop :=
  P.underlying T = some (.slice e) ∧ (P.info? e).map (fun i => (i.zero, i.size, i.bytes)) = some (some z, size, bytes) ∧ z.cells.size = size ∧ 0 < size ∧ 0 < bytes

theorem grown_trans' {a b c : World} {row : Option Nat} (h : a.grownBy b row) (k : b.grownBy c row) : a.grownBy c row :=
  ⟨k.os.trans h.os, k.tape.trans h.tape, k.output.trans h.output, Nat.le_trans h.size k.size, fun i hi hn => (k.block i (Nat.lt_of_lt_of_le hi h.size) hn).trans (h.block i hi hn)⟩
theorem grown_alloc (w : World) (o : Obj) (row : Option Nat) : w.grownBy (w.alloc o) row := World.grownBy_alloc w o row
theorem below_grown {B base : Nat} {w w0 w' : World} {e : TypeId} {size n : Nat} {v : Value} {xs : List Value} (hb : Below B w w0) (hown : w0.ownsRow base e size v n xs) (hg : w0.grownBy w' v.ownBlock) (hB : B ≤ base) (hs : B ≤ w0.heap.size) : Below B w w' :=
  hb.grown hg hs fun k hk => Nat.le_trans hB (hown.lt k hk).1

theorem len_of_bytes {n bytes : Nat} (hb : 0 < bytes) (h : n * bytes ≤ 140737488355328) : n ≤ maxLen := by
  have : n ≤ n * bytes := Nat.le_mul_of_pos_right n hb
  unfold maxLen; omega

section
variable {P : Program} {T e : TypeId} {z : Value} {size bytes : Nat}
/-- 'out = append(out, u)' -/
theorem wpList_app1 {ops : Array Oper} {rest : List Oper} {o : Oper} {a : Act} {Q : Exit → Act → World → Prop} {w0 : World} {s x : Operand} {v u : Value} {n base G : Nat} {xs : List Value} (E : EInfo P T e z 1 bytes) (hgd : o.guard = none)
    (ho : o.op = .call { callee := .builtin .append, args := #[s, x], argTypes := #[T, T] }) (hown : w0.ownsRow base e 1 v n xs) (hs : a.eval s = v)
    (hx : a.eval x = .slice (some ⟨G, 0, none⟩) 1 1) (hG : w0.heap.size = G) (h1 : u.oneCell' = true) (hbytes : (n + 1) * bytes ≤ 140737488355328) (hbase : base ≤ w0.heap.size)
    (h : ∀ v' w', w'.ownsRow base e 1 v' (n + 1) (xs ++ [u]) → w0.grownBy w' v.ownBlock → (v'.ownBlock = v.ownBlock ∨ v'.ownBlock = some (w0.heap.size + 1)) → wpList P ops Q rest (a.put o.dst v') w') :
    wpList P ops Q (o :: rest) a (w0.alloc (.cells #[u] e)) := by
  obtain ⟨ht, hinfo, hzs, hsz, hby0⟩ := E
  obtain ⟨i, hi, hz, hsize, hby⟩ := info_parts hinfo
  subst hG
  refine wpList_append_own_at (P := P) _ hgd s x T ho base e i z 1 bytes ht hi hz hsize hby hzs hsz v n xs hs (hown.alloc _) ⟨w0.heap.size, 0, none⟩ 1 1 [u] hx rfl (cell_one_new _ _ _) (fun y hy => by simp at hy; subst hy; exact h1)
    (len_of_bytes hby0 hbytes) hbytes (by simp; omega) fun v' w' h2 h3 _ h5 => h v' w' h2 (grown_trans' (grown_alloc _ _ _) h3) (by simpa using h5)

/-- 'out = append(out, xs...)' where xs reads as a list -/
theorem wpList_appAll {ops : Array Oper} {rest : List Oper} {o : Oper} {a : Act} {Q : Exit → Act → World → Prop} {w0 : World} {s x : Operand} {v : Value} {n base : Nat} {xs : List Value} {α : Type} {f : α → Value} {A : Option Addr} {c m : Nat} {l : List α}
    (E : EInfo P T e z 1 bytes) (hgd : o.guard = none) (ho : o.op = .call { callee := .builtin .append, args := #[s, x], argTypes := #[T, T] }) (hown : w0.ownsRow base e 1 v n xs) (hs : a.eval s = v)
    (hx : a.eval x = .slice A m c) (hm : m = l.length) (hl : At1 f w0 A l) (h1 : ∀ y, (f y).oneCell' = true) (hbytes : (n + l.length) * bytes ≤ 140737488355328) (hbase : base ≤ w0.heap.size)
    (h : ∀ v' w', w'.ownsRow base e 1 v' (n + l.length) (xs ++ l.map f) → w0.grownBy w' v.ownBlock → (v'.ownBlock = v.ownBlock ∨ v'.ownBlock = some w0.heap.size) → wpList P ops Q rest (a.put o.dst v') w') :
    wpList P ops Q (o :: rest) a w0 := by
  obtain ⟨ht, hinfo, hzs, hsz, hby0⟩ := E
  obtain ⟨i, hi, hz, hsize, hby⟩ := info_parts hinfo
  subst hm
  by_cases hn : l = []
  · subst hn
    rcases A with _ | ad
    · refine wpList_plain hgd fun K hK => ?_
      unfold Oper.wp execOp
      have hrun : (Builtin.append_ #[T, T] o.type #[v, .slice none 0 c]).run P w0 = .ok v w0 := by
        rcases hown.2 with ⟨rfl, rfl⟩ | ⟨g, cap, cur, rfl, _, _, hnc, _⟩
        · simp [Builtin.append_, run_underlying ht, sizeOf, typeInfo, hi, Builtin.lenOf, Builtin.firstCells]
        · simp [Builtin.append_, run_underlying ht, sizeOf, typeInfo, hi, Builtin.lenOf, Builtin.firstCells, hnc, storeCells]
      simp only [List.length_nil] at hx
      simp only [ho, resolve, invoke, builtin, Sem.run_bind, Sem.run_pure, Result.andThen_ok, List.map_toArray, List.map_cons, List.map_nil, hs, hx, hrun]
      exact hK _ _ (h v w0 (by simpa using hown) (World.grownBy.refl _ _) (.inl rfl))
    · exact wpList_append_own_at (P := P) _ hgd s x T ho base e i z 1 bytes ht hi hz hsize hby hzs hsz v n xs hs hown ad 0 c [] hx rfl (fun j u hu => by simp at hu) (fun y hy => by simp at hy)
        (len_of_bytes hby0 hbytes) hbytes hbase fun v' w' h2 h3 _ h5 => h v' w' h2 h3 h5
  · obtain ⟨ad, rfl, hc⟩ := hl.2 (List.length_pos_iff.2 hn)
    refine wpList_append_own_at (P := P) _ hgd s x T ho base e i z 1 bytes ht hi hz hsize hby hzs hsz v n xs hs hown ad l.length c (l.map f) hx (by simp) (fun j u hu => ?_) (fun y hy => ?_)
      (len_of_bytes hby0 hbytes) hbytes hbase fun v' w' h2 h3 _ h5 => h v' w' h2 h3 h5
    · rw [List.getElem?_map] at hu
      cases hj : l[j]? with
      | none => rw [hj] at hu; cases hu
      | some y => rw [hj] at hu; injection hu with hu; rw [← hu]; exact hc j y hj
    · obtain ⟨y', _, rfl⟩ := List.mem_map.1 hy
      exact h1 y'
end

theorem own_base {w : World} {base base' : Nat} {e : TypeId} {size n : Nat} {v : Value} {xs : List Value} (h : w.ownsRow base e size v n xs) (hb : base' ≤ base) : w.ownsRow base' e size v n xs := by
  refine ⟨h.1, ?_⟩
  rcases h.2 with h | ⟨g, cap, cur, hv, hg, r⟩
  · exact .inl h
  · exact .inr ⟨g, cap, cur, hv, Nat.le_trans hb hg, r⟩

/-! ## two rows of the call's own -/
def Apart (v u : Value) : Prop := ∀ k, v.ownBlock = some k → u.ownBlock ≠ some k
theorem Apart.nil (u : Value) : Apart (.slice none 0 0) u := fun k h => by simp [Value.ownBlock] at h
theorem Apart.symm {v u : Value} (h : Apart v u) : Apart u v := fun k h1 h2 => h k h2 h1
/-- behind 'x = append(x, ..)': the other row is as it was -/
theorem own_other {w0 w1 : World} {e' : TypeId} {base' s' m : Nat} {x y : Value} {ys : List Value} (hy : w0.ownsRow base' e' s' y m ys) (hap : Apart x y) (g1 : w0.grownBy w1 x.ownBlock) : w1.ownsRow base' e' s' y m ys := by
  refine hy.kept g1 ?_
  cases hk : y.ownBlock with
  | none => exact .inl rfl
  | some k => exact .inr (fun e => hap k e.symm hk)
theorem apart_grown {w0 : World} {e' : TypeId} {base' s' m : Nat} {x x' y : Value} {ys : List Value} (hy : w0.ownsRow base' e' s' y m ys) (hap : Apart x y) {G : Nat} (b1 : x'.ownBlock = x.ownBlock ∨ x'.ownBlock = some G) (hG : w0.heap.size ≤ G) : Apart x' y := by
  intro k hk hy'
  rcases b1 with b | b
  · exact hap k (by rw [← b]; exact hk) hy'
  · have h1 := (hy.lt k hy').2
    rw [b] at hk
    injection hk with hk
    omega

end Go.Proofs.YtlllhhjlfmhmlaaGreatDoor
namespace Go.Proofs.YtlllhhjlfmhmlaaGreatDoor.VM
open Go Go.RowKit
set_option linter.unusedVariables false
set_option linter.unusedSectionVars false
variable [Sy]
noncomputable section
/-- what a cell is told as -/
structure Told (v : V) (x : Value) : Prop where
  rep : ∀ σ, Rep σ v x
  int : ∀ k n, x = .int k n → v = .int k n
  str : ∀ s, x = .string s → v = .str (strOf s)
theorem exL {l : List Value} (hl : ∀ y ∈ l, ∃ v : V, Told v y) : ∃ vs : List V, (∀ σ, RepL σ vs l) ∧ ∀ (i : Nat) (x : Value), l[i]? = some x → ∃ v, vs[i]? = some v ∧ Told v x := by
  induction l with
  | nil => exact ⟨[], fun _ => .nil, fun i x h => by simp at h⟩
  | cons y l ih =>
    obtain ⟨v, hv⟩ := hl y (by simp)
    obtain ⟨vs, hvs, h2⟩ := ih fun z hz => hl z (by simp [hz])
    refine ⟨v :: vs, fun σ => .cons _ _ _ _ (hv.rep σ) (hvs σ), fun i x h => ?_⟩
    cases i with
    | zero => simp at h; subst h; exact ⟨v, rfl, hv⟩
    | succ i => simpa using h2 i x (by simpa using h)
theorem exV (y : Value) : ∃ v : V, Told v y := by
  obtain ⟨x, hx⟩ : ∃ x, x = y := ⟨_, rfl⟩
  rw [← hx]
  by_cases h : x.oneCell' = true
  · by_cases hi : ∃ k n, x = .int k n
    · obtain ⟨k, n, rfl⟩ := hi
      exact ⟨.int k n, fun _ => .int k n, fun _ _ e => (by cases e; rfl), fun _ e => (by cases e)⟩
    · by_cases hs : ∃ s, x = .string s
      · obtain ⟨s, rfl⟩ := hs
        refine ⟨.str (strOf s), fun σ => ?_, fun _ _ e => (by cases e), fun _ e => (by cases e; rfl)⟩
        have := Rep.str (σ := σ) (strOf s) (strOf_lt s)
        rwa [bytesOf_strOf] at this
      · exact ⟨.any, fun _ => .any x h, fun k n e => absurd ⟨k, n, e⟩ hi, fun s e => absurd ⟨s, e⟩ hs⟩
  · match x, hx, h with
    | .agg cs, hx, _ =>
      have hm : ∀ z ∈ cs.toList, ∃ v : V, Told v z := fun z hz => by
        have hz' : z ∈ cs := by simpa using hz
        have h1 := Array.sizeOf_lt_of_mem hz'
        have h2 : SizeOf.sizeOf z < SizeOf.sizeOf y := by rw [← hx]; simp; omega
        exact exV z
      obtain ⟨vs, hvs, _⟩ := exL hm
      exact ⟨.agg vs, fun σ => .agg vs cs.toList (hvs σ), fun _ _ e => (by cases e), fun _ e => (by cases e)⟩
    | .tuple cs, hx, _ =>
      have hm : ∀ z ∈ cs.toList, ∃ v : V, Told v z := fun z hz => by
        have hz' : z ∈ cs := by simpa using hz
        have h1 := Array.sizeOf_lt_of_mem hz'
        have h2 : SizeOf.sizeOf z < SizeOf.sizeOf y := by rw [← hx]; simp; omega
        exact exV z
      obtain ⟨vs, hvs, _⟩ := exL hm
      exact ⟨.tup vs, fun σ => .tup vs cs.toList (hvs σ), fun _ _ e => (by cases e), fun _ e => (by cases e)⟩
  termination_by SizeOf.sizeOf y
/-- a slice that reads as a list of cells -/
def RdO (h : Hp) (v : V) (len : Nat) (cs : List V) : Prop := (v = .emp ∧ len = 0) ∨ ∃ b off vs, rdCells h b = some vs ∧ sub vs off len = some cs ∧ ∃ cap, v = .sl b off len cap
def V.block? : V → Option Nat
  | .sl b _ _ _ => some b
  | _ => none
theorem Hp.n_new' (h : Hp) (b : Blk) : (h.new b).n = h.n + 1 := rfl
/-- memory that tells some blocks -/
structure Opened (w : World) (bs : List Nat) (h : Hp) (σ : Mp) : Prop where
  rel : Rel w.heap.size σ h w
  n : h.n = bs.length
  at_ : ∀ (i b : Nat) (arr : Array Value) (e : TypeId) (fz : Nat × Nat), bs[i]? = some b → w.heap[b]? = some (.cells arr e fz) → σ i = some (b, arr.size) ∧ ∃ vs : List V, rdCells h i = some vs ∧ ∀ (j : Nat) (x : Value), arr[j]? = some x → ∃ v, vs[j]? = some v ∧ Told v x
  only : ∀ i b m, σ i = some (b, m) → bs[i]? = some b
theorem opened_nil (w : World) (ht : ∀ p ∈ Sy.tab, p.1 < w.heap.size ∧ w.heap[p.1]? = some p.2) : Opened w [] ⟨.leaf, 0⟩ (fun _ => none) := ⟨Rel.none w ht, rfl, fun i b _ _ _ h => (by simp at h), fun _ _ _ h => (by cases h)⟩
theorem opened_snoc {w : World} {bs : List Nat} {h : Hp} {σ : Mp} (O : Opened w bs h σ) {b : Nat} (hb : b ∉ bs) {arr : Array Value} {e : TypeId} {fz : Nat × Nat} (hw : w.heap[b]? = some (.cells arr e fz)) : ∃ h' σ', Opened w (bs ++ [b]) h' σ' := by
  obtain ⟨vs, hvs, hv2⟩ := exL (l := arr.toList) fun y _ => exV y
  have hbl := (Array.getElem?_eq_some_iff.1 hw).1
  have hfree : ∀ C m, σ C ≠ some (b, m) := fun C m hC => hb (List.mem_of_getElem? (O.only C b m hC))
  have hn := O.n
  have hnone : σ h.n = Option.none := O.rel.free
  have R := O.rel.more (.cells vs e true)
  have hle : Mp.le σ (σ.put h.n (b, arr.size)) := Mp.le_put hnone
  have key : ∀ C c m, (σ.put h.n (b, arr.size)) C = some (c, m) → (C = h.n ∧ c = b ∧ m = arr.size) ∨ σ C = some (c, m) := fun C c m hC => by
    unfold Mp.put at hC
    split at hC
    · rename_i e; cases hC; exact .inl ⟨e, rfl, rfl⟩
    · exact .inr hC
  have hnew : (h.new (.cells vs e true)).t.get h.n = some (.cells vs e true) := by rw [Hp.get_new, if_pos rfl]
  refine ⟨h.new (.cells vs e true), σ.put h.n (b, arr.size), ⟨⟨fun C c m hC => ?_, fun C D c m q hC hD => ?_, fun C c m hC hlt => ?_, O.rel.base, O.rel.tab⟩, by simp [Hp.n_new', hn], fun i b' arr' e' fz' hi hw' => ?_, fun C c m hC => ?_⟩⟩
  · rcases key C c m hC with ⟨rfl, rfl, rfl⟩ | h1
    · refine ⟨Nat.lt_succ_self _, hbl, _, hnew, fun o ho => ?_⟩
      rw [hw] at ho; cases ho
      exact ⟨arr.toList, [], fz, by simp, hvs _, by simp, fun h => by cases h⟩
    · obtain ⟨h2, h3, k2, h4, h5⟩ := R.has C c m h1
      exact ⟨h2, h3, k2, h4, fun o ho => (h5 o ho).mono hle⟩
  · rcases key C c m hC with ⟨rfl, rfl, rfl⟩ | h1 <;> rcases key D c q hD with ⟨e1, e2, e3⟩ | h2
    · exact .inl e1.symm
    · exact absurd h2 (hfree _ _)
    · subst e2; exact absurd h1 (hfree _ _)
    · exact R.inj C D c m q h1 h2
  · rcases key C c m hC with ⟨rfl, rfl, rfl⟩ | h1
    · exact .inl ⟨vs, e, hnew⟩
    · exact R.old C c m h1 hlt
  · by_cases hil : i < bs.length
    · rw [List.getElem?_append_left hil] at hi
      obtain ⟨h1, us, h2, h3⟩ := O.at_ i b' arr' e' fz' hi hw'
      refine ⟨hle _ _ h1, us, ?_, h3⟩
      unfold rdCells at h2 ⊢
      rw [Hp.get_new, if_neg (by omega)]
      exact h2
    · rw [List.getElem?_append_right (by omega)] at hi
      have h0 : i = bs.length := by
        have := (List.getElem?_eq_some_iff.1 hi).1
        simp at this; omega
      subst h0
      simp at hi
      subst hi
      rw [hw] at hw'; cases hw'
      rw [← hn]
      refine ⟨Mp.put_same _ _ _, vs, by unfold rdCells; rw [hnew], fun j x hx => hv2 j x (by simpa using hx)⟩
  · rcases key C c m hC with ⟨rfl, rfl, rfl⟩ | h1
    · rw [hn]; simp
    · have := O.only C c m h1
      rw [List.getElem?_append_left (List.getElem?_eq_some_iff.1 this).1]
      exact this
theorem opened_all (w : World) (ht : ∀ p ∈ Sy.tab, p.1 < w.heap.size ∧ w.heap[p.1]? = some p.2) : ∀ (bs : List Nat), (∀ b ∈ bs, ∃ arr e fz, w.heap[b]? = some (.cells arr e fz)) → ∃ cs h σ, (∀ b ∈ bs, b ∈ cs) ∧ Opened w cs h σ
  | [], _ => ⟨[], _, _, fun _ h => h, opened_nil w ht⟩
  | b :: bs, hb => by
    obtain ⟨cs, h, σ, h1, O⟩ := opened_all w ht bs fun c hc => hb c (by simp [hc])
    by_cases hm : b ∈ cs
    · refine ⟨cs, h, σ, fun c hc => ?_, O⟩
      rcases List.mem_cons.1 hc with rfl | hc
      · exact hm
      · exact h1 c hc
    · obtain ⟨arr, e, fz, hw⟩ := hb b (by simp)
      obtain ⟨h', σ', O'⟩ := opened_snoc O hm hw
      refine ⟨cs ++ [b], h', σ', fun c hc => ?_, O'⟩
      rcases List.mem_cons.1 hc with rfl | hc
      · simp
      · simp [h1 c hc]
/-- a list that reads in the world reads in the machine -/
def blocksOf {α : Type} (A : Option Addr) (l : List α) : List Nat := match A, l with
  | some a, _ :: _ => [a.block]
  | _, _ => []
theorem blocks_ok {α : Type} {f : α → Value} {w : World} {A : Option Addr} {l : List α} (h : At1 f w A l) : ∀ b ∈ blocksOf A l, ∃ arr e fz, w.heap[b]? = some (.cells arr e fz) := by
  intro b hb
  unfold blocksOf at hb
  split at hb
  · rename_i a x l'
    simp at hb; subst hb
    obtain ⟨ad, e, hc⟩ := h.2 (by simp)
    cases e
    have := hc 0 x rfl
    unfold World.cell? at this
    rw [block_of_add] at this
    split at this
    · rename_i c t f hh; exact ⟨_, _, _, hh⟩
    · cases this
  · simp at hb
theorem opened_list {α : Type} {f : α → Value} {g : α → V} (hfg : ∀ x v, Told v (f x) → v = g x) {w : World} {cs : List Nat} {h : Hp} {σ : Mp} (O : Opened w cs h σ) {A : Option Addr} {l : List α} {c : Nat} (hA : At1 f w A l) (hb : ∀ b ∈ blocksOf A l, b ∈ cs) :
    ∃ v, Rep σ v (.slice A l.length c) ∧ RdO h v l.length (l.map g) ∧ ∀ b, v.block? = some b → b < h.n := by
  cases l with
  | nil => exact ⟨.emp, .emp _ _, .inl ⟨rfl, rfl⟩, fun b h => by cases h⟩
  | cons x l =>
    obtain ⟨ad, rfl, hc⟩ := hA.2 (by simp)
    obtain ⟨i, hi⟩ := List.mem_iff_getElem?.1 (hb ad.block (by simp [blocksOf]))
    have h0 := hc 0 x rfl
    have hsp : ad.spot = none ∧ ∃ arr e fz, w.heap[ad.block]? = some (.cells arr e fz) := by
      unfold World.cell? at h0
      rw [block_of_add] at h0
      split at h0
      · rename_i arr e fz hh
        split at h0
        · cases h0
        · rename_i hs
          refine ⟨?_, arr, e, fz, hh⟩
          unfold Addr.add at hs
          split at hs <;> simp_all
      · cases h0
    obtain ⟨hs, arr, e, fz, hw⟩ := hsp
    obtain ⟨b, o, s⟩ := ad
    simp only at hs hw hi
    subst hs
    obtain ⟨h1, vs, h2, h3⟩ := O.at_ i b arr e fz hi hw
    have hin := (List.getElem?_eq_some_iff.1 hi).1
    refine ⟨.sl i o (x :: l).length c, .sl _ _ _ _ _ _ h1, .inr ⟨i, o, vs, h2, ?_, _, rfl⟩, fun b' hb' => by cases hb'; rw [O.n]; exact hin⟩
    have key : (vs.drop o).take (x :: l).length = (x :: l).map g := by
      apply List.ext_getElem?
      intro j
      rw [List.getElem?_take, List.getElem?_map]
      split
      · rename_i hj
        have hl : (x :: l)[j]? = some (x :: l)[j] := List.getElem?_eq_getElem hj
        have hcj := hc j _ hl
        rw [addr_add] at hcj
        simp only [World.cell?, hw, Option.isSome_none, Bool.false_eq_true, if_false] at hcj
        obtain ⟨v, g1, g2⟩ := h3 _ _ hcj
        rw [List.getElem?_drop, g1, hl, Option.map_some, hfg _ _ g2]
      · rw [List.getElem?_eq_none (by omega)]; rfl
    unfold sub
    rw [key]
    simp
end
end Go.Proofs.YtlllhhjlfmhmlaaGreatDoor.VM
namespace Go.Proofs.YtlllhhjlfmhmlaaGreatDoor
open Go Go.RowKit VM
set_option linter.unusedVariables false
set_option maxRecDepth 20000
/-- what strconv reads of its globals -/
def Tabs (W : World) : Prop := ∃ u v ty fz, W.heap[0]? = some (.cells #[.iface u v] ty fz)
/-- a listed variable that holds an interface -/
theorem iface_at (W : World) {s : String} {d : DataW Unit} (hL : laidMet Tryz.prog [("strconv.ErrSyntax", .iface s d)] W) : ∃ u v ty fz, W.heap[0]? = some (.cells #[.iface u v] ty fz) := by
  obtain ⟨ps, ⟨g, t, cs, fuel, p, q, h1, h2, h3, h4, _⟩, _⟩ := hL
  have e1 : Tryz.prog.globalNamed "strconv.ErrSyntax" = some 0 := by kernel_rfl
  have e2 : (Tryz.prog.globals[0]?).map (·.type) = some 133 := by kernel_rfl
  rw [e1] at h1
  cases h1
  rw [e2] at h2
  cases h2
  cases fuel with
  | zero => cases h4
  | succ fuel =>
    obtain ⟨ms, hu⟩ : ∃ ms, Tryz.prog.underlying 133 = some (.interface ms) := ⟨_, Tryz.underlying133⟩
    have key : ∃ u v, cs.toList = [.iface u v] := by
      generalize cs.toList = l at h4 ⊢
      unfold DataW.trod at h4
      simp only [hu] at h4
      rcases l with _ | ⟨x, _ | ⟨y, r⟩⟩
      · cases h4
      · cases x <;> first | exact ⟨_, _, rfl⟩ | (cases h4; done)
      · cases x <;> (cases h4; done)
    obtain ⟨u, v, hcs⟩ := key
    obtain rfl : cs = #[.iface u v] := Array.toList_inj.1 (by rw [hcs])
    unfold World.var? at h3
    rw [e1] at h3
    simp only [Option.bind_some] at h3
    split at h3
    · rename_i cs2 ty fz hh
      cases h3
      exact ⟨u, v, ty, fz, hh⟩
    · cases h3
/-- one table stands: the error's -/
@[reducible] def syE (o2 : Obj) : Sy := ⟨fun _ => 0, fun _ => [], [(0, o2)], fun g => (g, 0)⟩
theorem globOK_of {o2 : Obj} {u : TypeId} {v : Value} {ty : TypeId} {fz : Nat × Nat} (he : o2 = .cells #[.iface u v] ty fz) : GlobOK Tryz.prog (syE o2).tab globs := by
  intro p hp w hw
  have hp2 := List.mem_singleton.1 hp
  subst hp2
  have h1 := hw (0, o2) (List.mem_singleton.2 rfl)
  simp only [he] at h1
  refine ⟨.iface u v, ?_, rfl⟩
  have e3 : (isAgg 133).run Tryz.prog w = .ok false w := by
    letI := syE o2
    rw [run_isAgg Tryz.underlying133]
    rfl
  simp only [loadVar, Sem.run_bind, e3, Result.andThen_ok, Bool.false_eq_true, if_false]
  simp [World.cell?, h1]
theorem told_byte [Sy] (x : UInt8) (v : V) (t : VM.Told v (vByte x)) : v = .int .u8 (x.toNat : Int) := t.int _ _ rfl
theorem rd_of {h : Hp} {v : V} {l : List UInt8} (r : RdO h v l.length (l.map fun x => V.int .u8 (x.toNat : Int))) : Rd h 1 v (l.map UInt8.toNat).length ((l.map UInt8.toNat).map fun (n : Nat) => V.int .u8 (n : Int)) := by
  have e : ((l.map UInt8.toNat).map fun (n : Nat) => V.int .u8 (n : Int)) = l.map fun x => V.int .u8 (x.toNat : Int) := by rw [List.map_map]; rfl
  rcases r with ⟨rfl, h0⟩ | ⟨b, off, vs, h1, h2, c, rfl⟩
  · exact ⟨by simp, .inl ⟨.inr rfl, by simpa using h0⟩⟩
  · exact ⟨by simp, .inr ⟨b, off, vs, h1, by rw [List.length_map, Nat.mul_one]; exact h2.trans (by rw [← e]), .inl ⟨c, by rw [List.length_map]⟩⟩⟩
theorem in_of {n : Nat} {v : V} {h : Hp} {len : Nat} {cs : List V} (r : RdO h v len cs) (hv : ∀ b, v.block? = some b → b < n) : In n v := by
  intro b hb
  rcases r with ⟨rfl, _⟩ | ⟨b', off, vs, h1, h2, c, rfl⟩
  · cases hb
  · exact hv b hb
theorem u8_lt (l : List UInt8) : ∀ x ∈ l.map UInt8.toNat, x < 256 := fun x hx => by
  obtain ⟨y, _, rfl⟩ := List.mem_map.1 hx
  exact y.toNat_lt
end Go.Proofs.YtlllhhjlfmhmlaaGreatDoor
namespace Go.Proofs.YtlllhhjlfmhmlaaGreatDoor.VM
open Go
set_option linter.unusedVariables false
set_option maxRecDepth 100000
noncomputable section
noncomputable def c_r7_AllSpots : Code := match Tryz.f15.body with | some c => c | none => .skip
theorem b_r7_AllSpots : Tryz.f15.body = some c_r7_AllSpots := by kernel_rfl
theorem e_r7_AllSpots : EE.fn.get 15 = some Tryz.f15 := by kernel_rfl
noncomputable def L_r7_AllSpots_1 (Q : V → Hp → Prop) (v1 v3 v4 : V) (h : Hp) : Prop := ∀ s : List V, s.length = (Tryz.f15).ntmps → nth s 1 = v1 ∧ nth s 3 = v3 ∧ nth s 4 = v4 → Lab EE Tryz.f15 c_r7_AllSpots Q [false, true, false, true, true] s h []
noncomputable def L_r7_AllSpots_2 (Q : V → Hp → Prop) (v1 v3 v4 v5 : V) (h : Hp) : Prop := ∀ s : List V, s.length = (Tryz.f15).ntmps → nth s 1 = v1 ∧ nth s 3 = v3 ∧ nth s 4 = v4 ∧ nth s 5 = v5 → Lab EE Tryz.f15 c_r7_AllSpots Q [false, true, false, false, true, false, false, true, false, true, true] s h []
noncomputable def L_r7_AllSpots_3 (Q : V → Hp → Prop) (v1 v3 v4 v5 v6 : V) (h : Hp) : Prop := ∀ s : List V, s.length = (Tryz.f15).ntmps → nth s 1 = v1 ∧ nth s 3 = v3 ∧ nth s 4 = v4 ∧ nth s 5 = v5 ∧ nth s 6 = v6 → Lab EE Tryz.f15 c_r7_AllSpots Q [false, true, false, false, true, false, false, true, false, false, true, false, false, true, false, true, true] s h []
noncomputable def X_r7_AllSpots (l1 : V → V → V → Hp → Prop) (l2 : V → V → V → V → Hp → Prop) (l3 : V → V → V → V → V → Hp → Prop) : Lb := fun π s h d => match d with
  | [] => bif eqB [false, true, false, true, true] π then l1 (nth s 1) (nth s 3) (nth s 4) h else bif eqB [false, true, false, false, true, false, false, true, false, true, true] π then l2 (nth s 1) (nth s 3) (nth s 4) (nth s 5) h else bif eqB [false, true, false, false, true, false, false, true, false, false, true, false, false, true, false, true, true] π then l3 (nth s 1) (nth s 3) (nth s 4) (nth s 5) (nth s 6) h else False
  | _ => False
theorem o_r7_AllSpots (Q : V → Hp → Prop) : ∀ π s h d, X_r7_AllSpots (L_r7_AllSpots_1 Q) (L_r7_AllSpots_2 Q) (L_r7_AllSpots_3 Q) π s h d → s.length = (Tryz.f15).ntmps → Lab EE Tryz.f15 c_r7_AllSpots Q π s h d := by
  intro π s h d hx hl
  cases d with
  | cons _ _ => exact hx.elim
  | nil =>
    simp only [X_r7_AllSpots] at hx
    cases hk : eqB [false, true, false, true, true] π with
    | true => rw [hk, cond_true] at hx; rw [← eqB_eq hk]; exact hx s hl ⟨rfl, rfl, rfl⟩
    | false =>
    rw [hk, cond_false] at hx
    cases hk : eqB [false, true, false, false, true, false, false, true, false, true, true] π with
    | true => rw [hk, cond_true] at hx; rw [← eqB_eq hk]; exact hx s hl ⟨rfl, rfl, rfl, rfl⟩
    | false =>
    rw [hk, cond_false] at hx
    cases hk : eqB [false, true, false, false, true, false, false, true, false, false, true, false, false, true, false, true, true] π with
    | true => rw [hk, cond_true] at hx; rw [← eqB_eq hk]; exact hx s hl ⟨rfl, rfl, rfl, rfl, rfl⟩
    | false =>
    rw [hk, cond_false] at hx
    exact hx.elim
noncomputable def t_r7_AllSpots_0 (p : Pr) (l1 : V → V → V → Hp → Prop) (l2 : V → V → V → V → Hp → Prop) (l3 : V → V → V → V → V → Hp → Prop) (Q : V → Hp → Prop) (v0 : V) (h : Hp) : Prop :=
  p.box h 24 v0 fun x1 h2 b3 =>
  l1 x1 .nils (.int .i64 0) h2
theorem q_r7_AllSpots_0 (p : Pr) (l1 : V → V → V → Hp → Prop) (l2 : V → V → V → V → Hp → Prop) (l3 : V → V → V → V → V → Hp → Prop) (Q : V → Hp → Prop) (v0 : V) (h : Hp) : t_r7_AllSpots_0 p l1 l2 l3 Q v0 h = KAt p EE (cutOf [[false, true, false, true, true], [false, true, false, false, true, false, false, true, false, true, true], [false, true, false, false, true, false, false, true, false, false, true, false, false, true, false, true, true]]) (X_r7_AllSpots l1 l2 l3) c_r7_AllSpots [] [] (finK p Tryz.f15 Q) ([v0] ++ List.replicate 51 u0) h [] := by kernel_rfl
theorem a_r7_AllSpots {Q : V → Hp → Prop} {v0 : V} {h : Hp} (H : t_r7_AllSpots_0 (Pu EE) (L_r7_AllSpots_1 Q) (L_r7_AllSpots_2 Q) (L_r7_AllSpots_3 Q) Q v0 h) : Ans EE 15 [v0] h Q :=
  ans_of (by kernel_rfl) e_r7_AllSpots b_r7_AllSpots (by kernel_rfl) (lab_ofX (o_r7_AllSpots Q) [] (cast (q_r7_AllSpots_0 (Pu EE) (L_r7_AllSpots_1 Q) (L_r7_AllSpots_2 Q) (L_r7_AllSpots_3 Q) Q v0 h) H))
noncomputable def t_r7_AllSpots_1 (p : Pr) (l1 : V → V → V → Hp → Prop) (l2 : V → V → V → V → Hp → Prop) (l3 : V → V → V → V → V → Hp → Prop) (Q : V → Hp → Prop) (v1 v3 v4 : V) (h : Hp) : Prop :=
  p.faddr 24 v1 0 fun x1 =>
  p.load h 22 x1 fun x2 =>
  p.lbui h #[22] .len [x2] fun x3 =>
  p.bin .lss 3 false false v4 x3 fun x4 =>
  p.cond x4
  (fun _ =>
   l2 v1 v3 v4 (.int .i64 0) h)
  (fun _ =>
   Q v3 h)
theorem q_r7_AllSpots_1 (p : Pr) (l1 : V → V → V → Hp → Prop) (l2 : V → V → V → V → Hp → Prop) (l3 : V → V → V → V → V → Hp → Prop) (Q : V → Hp → Prop) (s : List V) (h : Hp) : t_r7_AllSpots_1 p l1 l2 l3 Q (nth s 1) (nth s 3) (nth s 4) h = KAt p EE (cutOf [[false, true, false, true, true], [false, true, false, false, true, false, false, true, false, true, true], [false, true, false, false, true, false, false, true, false, false, true, false, false, true, false, true, true]]) (X_r7_AllSpots l1 l2 l3) c_r7_AllSpots [] [true, true, false, true, false] (finK p Tryz.f15 Q) (nths s 52 0) h [] := by kernel_rfl
theorem r_r7_AllSpots_1 {Q : V → Hp → Prop} {v1 v3 v4 : V} {h : Hp} (H : t_r7_AllSpots_1 (Pu EE) (L_r7_AllSpots_1 Q) (L_r7_AllSpots_2 Q) (L_r7_AllSpots_3 Q) Q v1 v3 v4 h) : L_r7_AllSpots_1 Q v1 v3 v4 h := by
  intro s hl ⟨e1, e3, e4⟩
  subst e1 e3 e4
  have hl : s.length = 52 := hl
  rw [nth_all hl]
  exact lab_ofX (o_r7_AllSpots Q) [true, true, false, true, false] (cast (q_r7_AllSpots_1 (Pu EE) (L_r7_AllSpots_1 Q) (L_r7_AllSpots_2 Q) (L_r7_AllSpots_3 Q) Q s h) H)
noncomputable def t_r7_AllSpots_2 (p : Pr) (l1 : V → V → V → Hp → Prop) (l2 : V → V → V → V → Hp → Prop) (l3 : V → V → V → V → V → Hp → Prop) (Q : V → Hp → Prop) (v1 v3 v4 v5 : V) (h : Hp) : Prop :=
  p.faddr 24 v1 0 fun x1 =>
  p.load h 22 x1 fun x2 =>
  p.iaddr 22 x2 v4 fun x3 =>
  p.faddr 48 x3 2 fun x4 =>
  p.load h 46 x4 fun x5 =>
  p.lbui h #[46] .len [x5] fun x6 =>
  p.bin .lss 3 false false v5 x6 fun x7 =>
  p.cond x7
  (fun _ =>
   l3 v1 v3 v4 v5 (.int .i64 0) h)
  (fun _ =>
   p.bin .add 3 false true v4 (.int .i64 1) fun x8 =>
   l1 v1 v3 x8 h)
theorem q_r7_AllSpots_2 (p : Pr) (l1 : V → V → V → Hp → Prop) (l2 : V → V → V → V → Hp → Prop) (l3 : V → V → V → V → V → Hp → Prop) (Q : V → Hp → Prop) (s : List V) (h : Hp) : t_r7_AllSpots_2 p l1 l2 l3 Q (nth s 1) (nth s 3) (nth s 4) (nth s 5) h = KAt p EE (cutOf [[false, true, false, true, true], [false, true, false, false, true, false, false, true, false, true, true], [false, true, false, false, true, false, false, true, false, false, true, false, false, true, false, true, true]]) (X_r7_AllSpots l1 l2 l3) c_r7_AllSpots [] [true, true, false, true, false, false, true, false, false, true, false] (finK p Tryz.f15 Q) (nths s 52 0) h [] := by kernel_rfl
theorem r_r7_AllSpots_2 {Q : V → Hp → Prop} {v1 v3 v4 v5 : V} {h : Hp} (H : t_r7_AllSpots_2 (Pu EE) (L_r7_AllSpots_1 Q) (L_r7_AllSpots_2 Q) (L_r7_AllSpots_3 Q) Q v1 v3 v4 v5 h) : L_r7_AllSpots_2 Q v1 v3 v4 v5 h := by
  intro s hl ⟨e1, e3, e4, e5⟩
  subst e1 e3 e4 e5
  have hl : s.length = 52 := hl
  rw [nth_all hl]
  exact lab_ofX (o_r7_AllSpots Q) [true, true, false, true, false, false, true, false, false, true, false] (cast (q_r7_AllSpots_2 (Pu EE) (L_r7_AllSpots_1 Q) (L_r7_AllSpots_2 Q) (L_r7_AllSpots_3 Q) Q s h) H)
noncomputable def t_r7_AllSpots_3 (p : Pr) (l1 : V → V → V → Hp → Prop) (l2 : V → V → V → V → Hp → Prop) (l3 : V → V → V → V → V → Hp → Prop) (Q : V → Hp → Prop) (v1 v3 v4 v5 v6 : V) (h : Hp) : Prop :=
  p.faddr 24 v1 0 fun x1 =>
  p.load h 22 x1 fun x2 =>
  p.iaddr 22 x2 v4 fun x3 =>
  p.faddr 48 x3 2 fun x4 =>
  p.load h 46 x4 fun x5 =>
  p.iaddr 46 x5 v5 fun x6 =>
  p.load h 49 x6 fun x7 =>
  p.lbui h #[49] .len [x7] fun x8 =>
  p.bin .lss 3 false false v6 x8 fun x9 =>
  p.cond x9
  (fun _ =>
   p.faddr 24 v1 0 fun x10 =>
   p.load h 22 x10 fun x11 =>
   p.iaddr 22 x11 v4 fun x12 =>
   p.faddr 48 x12 0 fun x13 =>
   p.load h 9 x13 fun x14 =>
   p.build 26 [(0, x14), (1, v5), (2, v6)] fun x15 =>
   p.bsl h 29 1 [(0, x15)] fun x16 h17 b18 =>
   p.ebui h17 #[29, 29] .append [v3, x16] fun x19 h20 =>
   p.bin .add 3 false true v6 (.int .i64 1) fun x21 =>
   l3 v1 x19 v4 v5 x21 h20)
  (fun _ =>
   p.bin .add 3 false true v5 (.int .i64 1) fun x22 =>
   l2 v1 v3 v4 x22 h)
theorem q_r7_AllSpots_3 (p : Pr) (l1 : V → V → V → Hp → Prop) (l2 : V → V → V → V → Hp → Prop) (l3 : V → V → V → V → V → Hp → Prop) (Q : V → Hp → Prop) (s : List V) (h : Hp) : t_r7_AllSpots_3 p l1 l2 l3 Q (nth s 1) (nth s 3) (nth s 4) (nth s 5) (nth s 6) h = KAt p EE (cutOf [[false, true, false, true, true], [false, true, false, false, true, false, false, true, false, true, true], [false, true, false, false, true, false, false, true, false, false, true, false, false, true, false, true, true]]) (X_r7_AllSpots l1 l2 l3) c_r7_AllSpots [] [true, true, false, true, false, false, true, false, false, true, false, false, true, false, false, true, false] (finK p Tryz.f15 Q) (nths s 52 0) h [] := by kernel_rfl
theorem r_r7_AllSpots_3 {Q : V → Hp → Prop} {v1 v3 v4 v5 v6 : V} {h : Hp} (H : t_r7_AllSpots_3 (Pu EE) (L_r7_AllSpots_1 Q) (L_r7_AllSpots_2 Q) (L_r7_AllSpots_3 Q) Q v1 v3 v4 v5 v6 h) : L_r7_AllSpots_3 Q v1 v3 v4 v5 v6 h := by
  intro s hl ⟨e1, e3, e4, e5, e6⟩
  subst e1 e3 e4 e5 e6
  have hl : s.length = 52 := hl
  rw [nth_all hl]
  exact lab_ofX (o_r7_AllSpots Q) [true, true, false, true, false, false, true, false, false, true, false, false, true, false, false, true, false] (cast (q_r7_AllSpots_3 (Pu EE) (L_r7_AllSpots_1 Q) (L_r7_AllSpots_2 Q) (L_r7_AllSpots_3 Q) Q s h) H)
noncomputable def c_r7_GetCell : Code := match Tryz.f17.body with | some c => c | none => .skip
theorem b_r7_GetCell : Tryz.f17.body = some c_r7_GetCell := by kernel_rfl
theorem e_r7_GetCell : EE.fn.get 17 = some Tryz.f17 := by kernel_rfl
noncomputable def t_r7_GetCell_0 (p : Pr) (Q : V → Hp → Prop) (v0 v1 : V) (h : Hp) : Prop :=
  p.box h 24 v0 fun x1 h2 b3 =>
  p.box h2 26 v1 fun x4 h5 b6 =>
  p.load h5 24 x1 fun x7 =>
  p.faddr 26 x4 0 fun x8 =>
  p.load h5 9 x8 fun x9 =>
  p.call 37 [x7, x9] h5 fun x10 h11 =>
  p.bin .lss 3 false true x10 (.int .i64 0) fun x12 =>
  p.gval x12 false (fun k13 =>
   p.faddr 24 x1 0 fun x14 =>
   k13 x14) fun x15 =>
  p.gval x12 false (fun k16 =>
   p.load h11 22 x15 fun x17 =>
   k16 x17) fun x18 =>
  p.gval x12 false (fun k19 =>
   k19 x10) fun x20 =>
  p.gval x12 false (fun k21 =>
   p.iaddr 22 x18 x20 fun x22 =>
   k21 x22) fun x23 =>
  p.gval x12 false (fun k24 =>
   p.load h11 48 x23 fun x25 =>
   k24 x25) fun x26 =>
  p.gval x12 false (fun k27 =>
   p.faddr 26 x4 1 fun x28 =>
   k27 x28) fun x29 =>
  p.gval x12 false (fun k30 =>
   p.load h11 3 x29 fun x31 =>
   k30 x31) fun x32 =>
  p.gval x12 false (fun k33 =>
   p.faddr 26 x4 2 fun x34 =>
   k33 x34) fun x35 =>
  p.gval x12 false (fun k36 =>
   p.load h11 3 x35 fun x37 =>
   k36 x37) fun x38 =>
  p.geff x12 false (fun k39 =>
   p.call 38 [x26, x32, x38] h11 fun x40 h41 =>
   k39 x40 h41) h11 fun x42 h43 =>
  p.gval x12 false (fun k44 =>
   p.un .not x42 fun x45 =>
   k44 x45) fun x46 =>
  p.pick x12 (some (.bool true)) (some x46) fun x47 =>
  p.cond x47
  (fun _ =>
   Q (.str []) h43)
  (fun _ =>
   p.faddr 24 x1 0 fun x48 =>
   p.load h43 22 x48 fun x49 =>
   p.iaddr 22 x49 x10 fun x50 =>
   p.faddr 48 x50 2 fun x51 =>
   p.load h43 46 x51 fun x52 =>
   p.faddr 26 x4 1 fun x53 =>
   p.load h43 3 x53 fun x54 =>
   p.iaddr 46 x52 x54 fun x55 =>
   p.load h43 49 x55 fun x56 =>
   p.faddr 26 x4 2 fun x57 =>
   p.load h43 3 x57 fun x58 =>
   p.iaddr 49 x56 x58 fun x59 =>
   p.load h43 9 x59 fun x60 =>
   Q x60 h43)
theorem q_r7_GetCell_0 (p : Pr) (Q : V → Hp → Prop) (v0 v1 : V) (h : Hp) : t_r7_GetCell_0 p Q v0 v1 h = KAt p EE (cutOf []) (fun _ _ _ _ => False) c_r7_GetCell [] [] (finK p Tryz.f17 Q) ([v0, v1] ++ List.replicate 37 u0) h [] := by kernel_rfl
theorem a_r7_GetCell {Q : V → Hp → Prop} {v0 v1 : V} {h : Hp} (H : t_r7_GetCell_0 (Pu EE) Q v0 v1 h) : Ans EE 17 [v0, v1] h Q :=
  ans_of (by kernel_rfl) e_r7_GetCell b_r7_GetCell (by kernel_rfl) (lab_ofX (fun _ _ _ _ h => h.elim) [] (cast (q_r7_GetCell_0 (Pu EE) Q v0 v1 h) H))
noncomputable def c_r7_Find : Code := match Tryz.f37.body with | some c => c | none => .skip
theorem b_r7_Find : Tryz.f37.body = some c_r7_Find := by kernel_rfl
theorem e_r7_Find : EE.fn.get 37 = some Tryz.f37 := by kernel_rfl
noncomputable def L_r7_Find_1 (Q : V → Hp → Prop) (v1 v2 v5 : V) (h : Hp) : Prop := ∀ s : List V, s.length = (Tryz.f37).ntmps → nth s 1 = v1 ∧ nth s 2 = v2 ∧ nth s 5 = v5 → Lab EE Tryz.f37 c_r7_Find Q [false, true, false, true] s h []
noncomputable def X_r7_Find (l1 : V → V → V → Hp → Prop) : Lb := fun π s h d => match d with
  | [] => bif eqB [false, true, false, true] π then l1 (nth s 1) (nth s 2) (nth s 5) h else False
  | _ => False
theorem o_r7_Find (Q : V → Hp → Prop) : ∀ π s h d, X_r7_Find (L_r7_Find_1 Q) π s h d → s.length = (Tryz.f37).ntmps → Lab EE Tryz.f37 c_r7_Find Q π s h d := by
  intro π s h d hx hl
  cases d with
  | cons _ _ => exact hx.elim
  | nil =>
    simp only [X_r7_Find] at hx
    cases hk : eqB [false, true, false, true] π with
    | true => rw [hk, cond_true] at hx; rw [← eqB_eq hk]; exact hx s hl ⟨rfl, rfl, rfl⟩
    | false =>
    rw [hk, cond_false] at hx
    exact hx.elim
noncomputable def t_r7_Find_0 (p : Pr) (l1 : V → V → V → Hp → Prop) (Q : V → Hp → Prop) (v0 v1 : V) (h : Hp) : Prop :=
  p.box h 24 v0 fun x1 h2 b3 =>
  l1 v1 x1 (.int .i64 0) h2
theorem q_r7_Find_0 (p : Pr) (l1 : V → V → V → Hp → Prop) (Q : V → Hp → Prop) (v0 v1 : V) (h : Hp) : t_r7_Find_0 p l1 Q v0 v1 h = KAt p EE (cutOf [[false, true, false, true]]) (X_r7_Find l1) c_r7_Find [] [] (finK p Tryz.f37 Q) ([v0, v1] ++ List.replicate 20 u0) h [] := by kernel_rfl
theorem a_r7_Find {Q : V → Hp → Prop} {v0 v1 : V} {h : Hp} (H : t_r7_Find_0 (Pu EE) (L_r7_Find_1 Q) Q v0 v1 h) : Ans EE 37 [v0, v1] h Q :=
  ans_of (by kernel_rfl) e_r7_Find b_r7_Find (by kernel_rfl) (lab_ofX (o_r7_Find Q) [] (cast (q_r7_Find_0 (Pu EE) (L_r7_Find_1 Q) Q v0 v1 h) H))
noncomputable def t_r7_Find_1 (p : Pr) (l1 : V → V → V → Hp → Prop) (Q : V → Hp → Prop) (v1 v2 v5 : V) (h : Hp) : Prop :=
  p.faddr 24 v2 0 fun x1 =>
  p.load h 22 x1 fun x2 =>
  p.lbui h #[22] .len [x2] fun x3 =>
  p.bin .lss 3 false false v5 x3 fun x4 =>
  p.cond x4
  (fun _ =>
   p.faddr 24 v2 0 fun x5 =>
   p.load h 22 x5 fun x6 =>
   p.iaddr 22 x6 v5 fun x7 =>
   p.faddr 48 x7 0 fun x8 =>
   p.load h 9 x8 fun x9 =>
   p.bin .eql 9 false false x9 v1 fun x10 =>
   p.cond x10
   (fun _ =>
    Q v5 h)
   (fun _ =>
    p.bin .add 3 false true v5 (.int .i64 1) fun x11 =>
    l1 v1 v2 x11 h))
  (fun _ =>
   Q (.int .i64 (-1)) h)
theorem q_r7_Find_1 (p : Pr) (l1 : V → V → V → Hp → Prop) (Q : V → Hp → Prop) (s : List V) (h : Hp) : t_r7_Find_1 p l1 Q (nth s 1) (nth s 2) (nth s 5) h = KAt p EE (cutOf [[false, true, false, true]]) (X_r7_Find l1) c_r7_Find [] [true, false, true, false] (finK p Tryz.f37 Q) (nths s 22 0) h [] := by kernel_rfl
theorem r_r7_Find_1 {Q : V → Hp → Prop} {v1 v2 v5 : V} {h : Hp} (H : t_r7_Find_1 (Pu EE) (L_r7_Find_1 Q) Q v1 v2 v5 h) : L_r7_Find_1 Q v1 v2 v5 h := by
  intro s hl ⟨e1, e2, e5⟩
  subst e1 e2 e5
  have hl : s.length = 22 := hl
  rw [nth_all hl]
  exact lab_ofX (o_r7_Find Q) [true, false, true, false] (cast (q_r7_Find_1 (Pu EE) (L_r7_Find_1 Q) Q s h) H)
noncomputable def c_r7_inside : Code := match Tryz.f38.body with | some c => c | none => .skip
theorem b_r7_inside : Tryz.f38.body = some c_r7_inside := by kernel_rfl
theorem e_r7_inside : EE.fn.get 38 = some Tryz.f38 := by kernel_rfl
noncomputable def t_r7_inside_0 (p : Pr) (Q : V → Hp → Prop) (v0 v1 v2 : V) (h : Hp) : Prop :=
  p.box h 48 v0 fun x1 h2 b3 =>
  p.bin .geq 3 false true v1 (.int .i64 0) fun x4 =>
  p.gval x4 true (fun k5 =>
   k5 v1) fun x6 =>
  p.gval x4 true (fun k7 =>
   p.faddr 48 x1 2 fun x8 =>
   k7 x8) fun x9 =>
  p.gval x4 true (fun k10 =>
   p.load h2 46 x9 fun x11 =>
   k10 x11) fun x12 =>
  p.gval x4 true (fun k13 =>
   p.lbui h2 #[46] .len [x12] fun x14 =>
   k13 x14) fun x15 =>
  p.gval x4 true (fun k16 =>
   p.bin .lss 3 false false x6 x15 fun x17 =>
   k16 x17) fun x18 =>
  p.pick x4 (some x18) (some (.bool false)) fun x19 =>
  p.gval x19 true (fun k20 =>
   k20 v2) fun x21 =>
  p.gval x19 true (fun k22 =>
   p.bin .geq 3 false true x21 (.int .i64 0) fun x23 =>
   k22 x23) fun x24 =>
  p.pick x19 (some x24) (some (.bool false)) fun x25 =>
  p.gval x25 true (fun k26 =>
   k26 v2) fun x27 =>
  p.gval x25 true (fun k28 =>
   p.faddr 48 x1 2 fun x29 =>
   k28 x29) fun x30 =>
  p.gval x25 true (fun k31 =>
   p.load h2 46 x30 fun x32 =>
   k31 x32) fun x33 =>
  p.gval x25 true (fun k34 =>
   k34 v1) fun x35 =>
  p.gval x25 true (fun k36 =>
   p.iaddr 46 x33 x35 fun x37 =>
   k36 x37) fun x38 =>
  p.gval x25 true (fun k39 =>
   p.load h2 49 x38 fun x40 =>
   k39 x40) fun x41 =>
  p.gval x25 true (fun k42 =>
   p.lbui h2 #[49] .len [x41] fun x43 =>
   k42 x43) fun x44 =>
  p.gval x25 true (fun k45 =>
   p.bin .lss 3 false false x27 x44 fun x46 =>
   k45 x46) fun x47 =>
  p.pick x25 (some x47) (some (.bool false)) fun x48 =>
  Q x48 h2
theorem q_r7_inside_0 (p : Pr) (Q : V → Hp → Prop) (v0 v1 v2 : V) (h : Hp) : t_r7_inside_0 p Q v0 v1 v2 h = KAt p EE (cutOf []) (fun _ _ _ _ => False) c_r7_inside [] [] (finK p Tryz.f38 Q) ([v0, v1, v2] ++ List.replicate 27 u0) h [] := by kernel_rfl
theorem a_r7_inside {Q : V → Hp → Prop} {v0 v1 v2 : V} {h : Hp} (H : t_r7_inside_0 (Pu EE) Q v0 v1 v2 h) : Ans EE 38 [v0, v1, v2] h Q :=
  ans_of (by kernel_rfl) e_r7_inside b_r7_inside (by kernel_rfl) (lab_ofX (fun _ _ _ _ h => h.elim) [] (cast (q_r7_inside_0 (Pu EE) Q v0 v1 v2 h) H))
noncomputable def c_r7_Spots : Code := match Tryz.f11.body with | some c => c | none => .skip
theorem b_r7_Spots : Tryz.f11.body = some c_r7_Spots := by kernel_rfl
theorem e_r7_Spots : EE.fn.get 11 = some Tryz.f11 := by kernel_rfl
noncomputable def L_r7_Spots_1 (Q : V → Hp → Prop) (v0 v1 v5 : V) (h : Hp) : Prop := ∀ s : List V, s.length = (Tryz.f11).ntmps → nth s 0 = v0 ∧ nth s 1 = v1 ∧ nth s 5 = v5 → Lab EE Tryz.f11 c_r7_Spots Q [false, true, false, true, true] s h []
noncomputable def X_r7_Spots (l1 : V → V → V → Hp → Prop) : Lb := fun π s h d => match d with
  | [] => bif eqB [false, true, false, true, true] π then l1 (nth s 0) (nth s 1) (nth s 5) h else False
  | _ => False
theorem o_r7_Spots (Q : V → Hp → Prop) : ∀ π s h d, X_r7_Spots (L_r7_Spots_1 Q) π s h d → s.length = (Tryz.f11).ntmps → Lab EE Tryz.f11 c_r7_Spots Q π s h d := by
  intro π s h d hx hl
  cases d with
  | cons _ _ => exact hx.elim
  | nil =>
    simp only [X_r7_Spots] at hx
    cases hk : eqB [false, true, false, true, true] π with
    | true => rw [hk, cond_true] at hx; rw [← eqB_eq hk]; exact hx s hl ⟨rfl, rfl, rfl⟩
    | false =>
    rw [hk, cond_false] at hx
    exact hx.elim
noncomputable def t_r7_Spots_0 (p : Pr) (l1 : V → V → V → Hp → Prop) (Q : V → Hp → Prop) (v0 v1 : V) (h : Hp) : Prop :=
  p.lbui h #[29] .len [v0] fun x1 =>
  p.lbui h #[29] .len [v1] fun x2 =>
  p.bin .neq 3 false false x1 x2 fun x3 =>
  p.cond x3
  (fun _ =>
   Q (.bool false) h)
  (fun _ =>
   l1 v0 v1 (.int .i64 0) h)
theorem q_r7_Spots_0 (p : Pr) (l1 : V → V → V → Hp → Prop) (Q : V → Hp → Prop) (v0 v1 : V) (h : Hp) : t_r7_Spots_0 p l1 Q v0 v1 h = KAt p EE (cutOf [[false, true, false, true, true]]) (X_r7_Spots l1) c_r7_Spots [] [] (finK p Tryz.f11 Q) ([v0, v1] ++ List.replicate 24 u0) h [] := by kernel_rfl
theorem a_r7_Spots {Q : V → Hp → Prop} {v0 v1 : V} {h : Hp} (H : t_r7_Spots_0 (Pu EE) (L_r7_Spots_1 Q) Q v0 v1 h) : Ans EE 11 [v0, v1] h Q :=
  ans_of (by kernel_rfl) e_r7_Spots b_r7_Spots (by kernel_rfl) (lab_ofX (o_r7_Spots Q) [] (cast (q_r7_Spots_0 (Pu EE) (L_r7_Spots_1 Q) Q v0 v1 h) H))
noncomputable def t_r7_Spots_1 (p : Pr) (l1 : V → V → V → Hp → Prop) (Q : V → Hp → Prop) (v0 v1 v5 : V) (h : Hp) : Prop :=
  p.lbui h #[29] .len [v0] fun x1 =>
  p.bin .lss 3 false false v5 x1 fun x2 =>
  p.cond x2
  (fun _ =>
   p.iaddr 29 v0 v5 fun x3 =>
   p.load h 26 x3 fun x4 =>
   p.iaddr 29 v1 v5 fun x5 =>
   p.load h 26 x5 fun x6 =>
   p.bin .neq 26 false false x4 x6 fun x7 =>
   p.cond x7
   (fun _ =>
    Q (.bool false) h)
   (fun _ =>
    p.bin .add 3 false true v5 (.int .i64 1) fun x8 =>
    l1 v0 v1 x8 h))
  (fun _ =>
   Q (.bool true) h)
theorem q_r7_Spots_1 (p : Pr) (l1 : V → V → V → Hp → Prop) (Q : V → Hp → Prop) (s : List V) (h : Hp) : t_r7_Spots_1 p l1 Q (nth s 0) (nth s 1) (nth s 5) h = KAt p EE (cutOf [[false, true, false, true, true]]) (X_r7_Spots l1) c_r7_Spots [] [true, true, false, true, false] (finK p Tryz.f11 Q) (nths s 26 0) h [] := by kernel_rfl
theorem r_r7_Spots_1 {Q : V → Hp → Prop} {v0 v1 v5 : V} {h : Hp} (H : t_r7_Spots_1 (Pu EE) (L_r7_Spots_1 Q) Q v0 v1 v5 h) : L_r7_Spots_1 Q v0 v1 v5 h := by
  intro s hl ⟨e0, e1, e5⟩
  subst e0 e1 e5
  have hl : s.length = 26 := hl
  rw [nth_all hl]
  exact lab_ofX (o_r7_Spots Q) [true, true, false, true, false] (cast (q_r7_Spots_1 (Pu EE) (L_r7_Spots_1 Q) Q s h) H)
noncomputable def c_r7_waits : Code := match Tryz.f28.body with | some c => c | none => .skip
theorem b_r7_waits : Tryz.f28.body = some c_r7_waits := by kernel_rfl
theorem e_r7_waits : EE.fn.get 28 = some Tryz.f28 := by kernel_rfl
noncomputable def L_r7_waits_1 (Q : V → Hp → Prop) (v0 v1 v5 : V) (h : Hp) : Prop := ∀ s : List V, s.length = (Tryz.f28).ntmps → nth s 0 = v0 ∧ nth s 1 = v1 ∧ nth s 5 = v5 → Lab EE Tryz.f28 c_r7_waits Q [false, true, false, true] s h []
noncomputable def L_r7_waits_2 (Q : V → Hp → Prop) (v0 v1 v5 v6 : V) (h : Hp) : Prop := ∀ s : List V, s.length = (Tryz.f28).ntmps → nth s 0 = v0 ∧ nth s 1 = v1 ∧ nth s 5 = v5 ∧ nth s 6 = v6 → Lab EE Tryz.f28 c_r7_waits Q [false, true, false, false, true, false, false, true, false, true] s h []
noncomputable def X_r7_waits (l1 : V → V → V → Hp → Prop) (l2 : V → V → V → V → Hp → Prop) : Lb := fun π s h d => match d with
  | [] => bif eqB [false, true, false, true] π then l1 (nth s 0) (nth s 1) (nth s 5) h else bif eqB [false, true, false, false, true, false, false, true, false, true] π then l2 (nth s 0) (nth s 1) (nth s 5) (nth s 6) h else False
  | _ => False
theorem o_r7_waits (Q : V → Hp → Prop) : ∀ π s h d, X_r7_waits (L_r7_waits_1 Q) (L_r7_waits_2 Q) π s h d → s.length = (Tryz.f28).ntmps → Lab EE Tryz.f28 c_r7_waits Q π s h d := by
  intro π s h d hx hl
  cases d with
  | cons _ _ => exact hx.elim
  | nil =>
    simp only [X_r7_waits] at hx
    cases hk : eqB [false, true, false, true] π with
    | true => rw [hk, cond_true] at hx; rw [← eqB_eq hk]; exact hx s hl ⟨rfl, rfl, rfl⟩
    | false =>
    rw [hk, cond_false] at hx
    cases hk : eqB [false, true, false, false, true, false, false, true, false, true] π with
    | true => rw [hk, cond_true] at hx; rw [← eqB_eq hk]; exact hx s hl ⟨rfl, rfl, rfl, rfl⟩
    | false =>
    rw [hk, cond_false] at hx
    exact hx.elim
noncomputable def t_r7_waits_0 (p : Pr) (l1 : V → V → V → Hp → Prop) (l2 : V → V → V → V → Hp → Prop) (Q : V → Hp → Prop) (v0 v1 : V) (h : Hp) : Prop :=
  l1 v0 v1 (.int .i64 0) h
theorem q_r7_waits_0 (p : Pr) (l1 : V → V → V → Hp → Prop) (l2 : V → V → V → V → Hp → Prop) (Q : V → Hp → Prop) (v0 v1 : V) (h : Hp) : t_r7_waits_0 p l1 l2 Q v0 v1 h = KAt p EE (cutOf [[false, true, false, true], [false, true, false, false, true, false, false, true, false, true]]) (X_r7_waits l1 l2) c_r7_waits [] [] (finK p Tryz.f28 Q) ([v0, v1] ++ List.replicate 26 u0) h [] := by kernel_rfl
theorem a_r7_waits {Q : V → Hp → Prop} {v0 v1 : V} {h : Hp} (H : t_r7_waits_0 (Pu EE) (L_r7_waits_1 Q) (L_r7_waits_2 Q) Q v0 v1 h) : Ans EE 28 [v0, v1] h Q :=
  ans_of (by kernel_rfl) e_r7_waits b_r7_waits (by kernel_rfl) (lab_ofX (o_r7_waits Q) [] (cast (q_r7_waits_0 (Pu EE) (L_r7_waits_1 Q) (L_r7_waits_2 Q) Q v0 v1 h) H))
noncomputable def t_r7_waits_1 (p : Pr) (l1 : V → V → V → Hp → Prop) (l2 : V → V → V → V → Hp → Prop) (Q : V → Hp → Prop) (v0 v1 v5 : V) (h : Hp) : Prop :=
  p.lbui h #[29] .len [v0] fun x1 =>
  p.bin .lss 3 false false v5 x1 fun x2 =>
  p.cond x2
  (fun _ =>
   l2 v0 v1 v5 (.int .i64 0) h)
  (fun _ =>
   Q (.bool false) h)
theorem q_r7_waits_1 (p : Pr) (l1 : V → V → V → Hp → Prop) (l2 : V → V → V → V → Hp → Prop) (Q : V → Hp → Prop) (s : List V) (h : Hp) : t_r7_waits_1 p l1 l2 Q (nth s 0) (nth s 1) (nth s 5) h = KAt p EE (cutOf [[false, true, false, true], [false, true, false, false, true, false, false, true, false, true]]) (X_r7_waits l1 l2) c_r7_waits [] [true, false, true, false] (finK p Tryz.f28 Q) (nths s 28 0) h [] := by kernel_rfl
theorem r_r7_waits_1 {Q : V → Hp → Prop} {v0 v1 v5 : V} {h : Hp} (H : t_r7_waits_1 (Pu EE) (L_r7_waits_1 Q) (L_r7_waits_2 Q) Q v0 v1 v5 h) : L_r7_waits_1 Q v0 v1 v5 h := by
  intro s hl ⟨e0, e1, e5⟩
  subst e0 e1 e5
  have hl : s.length = 28 := hl
  rw [nth_all hl]
  exact lab_ofX (o_r7_waits Q) [true, false, true, false] (cast (q_r7_waits_1 (Pu EE) (L_r7_waits_1 Q) (L_r7_waits_2 Q) Q s h) H)
noncomputable def t_r7_waits_2 (p : Pr) (l1 : V → V → V → Hp → Prop) (l2 : V → V → V → V → Hp → Prop) (Q : V → Hp → Prop) (v0 v1 v5 v6 : V) (h : Hp) : Prop :=
  p.lbui h #[29] .len [v1] fun x1 =>
  p.bin .lss 3 false false v6 x1 fun x2 =>
  p.cond x2
  (fun _ =>
   p.iaddr 29 v0 v5 fun x3 =>
   p.load h 26 x3 fun x4 =>
   p.iaddr 29 v1 v6 fun x5 =>
   p.load h 26 x5 fun x6 =>
   p.bin .eql 26 false false x4 x6 fun x7 =>
   p.cond x7
   (fun _ =>
    Q (.bool true) h)
   (fun _ =>
    p.bin .add 3 false true v6 (.int .i64 1) fun x8 =>
    l2 v0 v1 v5 x8 h))
  (fun _ =>
   p.bin .add 3 false true v5 (.int .i64 1) fun x9 =>
   l1 v0 v1 x9 h)
theorem q_r7_waits_2 (p : Pr) (l1 : V → V → V → Hp → Prop) (l2 : V → V → V → V → Hp → Prop) (Q : V → Hp → Prop) (s : List V) (h : Hp) : t_r7_waits_2 p l1 l2 Q (nth s 0) (nth s 1) (nth s 5) (nth s 6) h = KAt p EE (cutOf [[false, true, false, true], [false, true, false, false, true, false, false, true, false, true]]) (X_r7_waits l1 l2) c_r7_waits [] [true, false, true, false, false, true, false, false, true, false] (finK p Tryz.f28 Q) (nths s 28 0) h [] := by kernel_rfl
theorem r_r7_waits_2 {Q : V → Hp → Prop} {v0 v1 v5 v6 : V} {h : Hp} (H : t_r7_waits_2 (Pu EE) (L_r7_waits_1 Q) (L_r7_waits_2 Q) Q v0 v1 v5 v6 h) : L_r7_waits_2 Q v0 v1 v5 v6 h := by
  intro s hl ⟨e0, e1, e5, e6⟩
  subst e0 e1 e5 e6
  have hl : s.length = 28 := hl
  rw [nth_all hl]
  exact lab_ofX (o_r7_waits Q) [true, false, true, false, false, true, false, false, true, false] (cast (q_r7_waits_2 (Pu EE) (L_r7_waits_1 Q) (L_r7_waits_2 Q) Q s h) H)
noncomputable def c_r7_named : Code := match Tryz.f33.body with | some c => c | none => .skip
theorem b_r7_named : Tryz.f33.body = some c_r7_named := by kernel_rfl
theorem e_r7_named : EE.fn.get 33 = some Tryz.f33 := by kernel_rfl
noncomputable def L_r7_named_1 (Q : V → Hp → Prop) (v0 v1 v5 v7 : V) (h : Hp) : Prop := ∀ s : List V, s.length = (Tryz.f33).ntmps → nth s 0 = v0 ∧ nth s 1 = v1 ∧ nth s 5 = v5 ∧ nth s 7 = v7 → Lab EE Tryz.f33 c_r7_named Q [false, true, false, true] s h []
noncomputable def L_r7_named_2 (Q : V → Hp → Prop) (v0 v1 v5 v7 v8 v9 : V) (h : Hp) : Prop := ∀ s : List V, s.length = (Tryz.f33).ntmps → nth s 0 = v0 ∧ nth s 1 = v1 ∧ nth s 5 = v5 ∧ nth s 7 = v7 ∧ nth s 8 = v8 ∧ nth s 9 = v9 → Lab EE Tryz.f33 c_r7_named Q [true, true, true, false, false, true, false, false, true, false, true] s h []
noncomputable def L_r7_named_3 (Q : V → Hp → Prop) (v0 v1 v5 v7 v8 v9 v10 : V) (h : Hp) : Prop := ∀ s : List V, s.length = (Tryz.f33).ntmps → nth s 0 = v0 ∧ nth s 1 = v1 ∧ nth s 5 = v5 ∧ nth s 7 = v7 ∧ nth s 8 = v8 ∧ nth s 9 = v9 ∧ nth s 10 = v10 → Lab EE Tryz.f33 c_r7_named Q [true, true, true, true, true, false, false, true, false, false, true, false, true] s h []
noncomputable def X_r7_named (l1 : V → V → V → V → Hp → Prop) (l2 : V → V → V → V → V → V → Hp → Prop) (l3 : V → V → V → V → V → V → V → Hp → Prop) : Lb := fun π s h d => match d with
  | [] => bif eqB [false, true, false, true] π then l1 (nth s 0) (nth s 1) (nth s 5) (nth s 7) h else bif eqB [true, true, true, false, false, true, false, false, true, false, true] π then l2 (nth s 0) (nth s 1) (nth s 5) (nth s 7) (nth s 8) (nth s 9) h else bif eqB [true, true, true, true, true, false, false, true, false, false, true, false, true] π then l3 (nth s 0) (nth s 1) (nth s 5) (nth s 7) (nth s 8) (nth s 9) (nth s 10) h else False
  | _ => False
theorem o_r7_named (Q : V → Hp → Prop) : ∀ π s h d, X_r7_named (L_r7_named_1 Q) (L_r7_named_2 Q) (L_r7_named_3 Q) π s h d → s.length = (Tryz.f33).ntmps → Lab EE Tryz.f33 c_r7_named Q π s h d := by
  intro π s h d hx hl
  cases d with
  | cons _ _ => exact hx.elim
  | nil =>
    simp only [X_r7_named] at hx
    cases hk : eqB [false, true, false, true] π with
    | true => rw [hk, cond_true] at hx; rw [← eqB_eq hk]; exact hx s hl ⟨rfl, rfl, rfl, rfl⟩
    | false =>
    rw [hk, cond_false] at hx
    cases hk : eqB [true, true, true, false, false, true, false, false, true, false, true] π with
    | true => rw [hk, cond_true] at hx; rw [← eqB_eq hk]; exact hx s hl ⟨rfl, rfl, rfl, rfl, rfl, rfl⟩
    | false =>
    rw [hk, cond_false] at hx
    cases hk : eqB [true, true, true, true, true, false, false, true, false, false, true, false, true] π with
    | true => rw [hk, cond_true] at hx; rw [← eqB_eq hk]; exact hx s hl ⟨rfl, rfl, rfl, rfl, rfl, rfl, rfl⟩
    | false =>
    rw [hk, cond_false] at hx
    exact hx.elim
noncomputable def t_r7_named_0 (p : Pr) (l1 : V → V → V → V → Hp → Prop) (l2 : V → V → V → V → V → V → Hp → Prop) (l3 : V → V → V → V → V → V → V → Hp → Prop) (Q : V → Hp → Prop) (v0 v1 v2 : V) (h : Hp) : Prop :=
  p.box h 26 v2 fun x1 h2 b3 =>
  l1 v0 v1 x1 (.int .i64 0) h2
theorem q_r7_named_0 (p : Pr) (l1 : V → V → V → V → Hp → Prop) (l2 : V → V → V → V → V → V → Hp → Prop) (l3 : V → V → V → V → V → V → V → Hp → Prop) (Q : V → Hp → Prop) (v0 v1 v2 : V) (h : Hp) : t_r7_named_0 p l1 l2 l3 Q v0 v1 v2 h = KAt p EE (cutOf [[false, true, false, true], [true, true, true, false, false, true, false, false, true, false, true], [true, true, true, true, true, false, false, true, false, false, true, false, true]]) (X_r7_named l1 l2 l3) c_r7_named [] [] (finK p Tryz.f33 Q) ([v0, v1, v2] ++ List.replicate 75 u0) h [] := by kernel_rfl
theorem a_r7_named {Q : V → Hp → Prop} {v0 v1 v2 : V} {h : Hp} (H : t_r7_named_0 (Pu EE) (L_r7_named_1 Q) (L_r7_named_2 Q) (L_r7_named_3 Q) Q v0 v1 v2 h) : Ans EE 33 [v0, v1, v2] h Q :=
  ans_of (by kernel_rfl) e_r7_named b_r7_named (by kernel_rfl) (lab_ofX (o_r7_named Q) [] (cast (q_r7_named_0 (Pu EE) (L_r7_named_1 Q) (L_r7_named_2 Q) (L_r7_named_3 Q) Q v0 v1 v2 h) H))
noncomputable def t_r7_named_1 (p : Pr) (l1 : V → V → V → V → Hp → Prop) (l2 : V → V → V → V → V → V → Hp → Prop) (l3 : V → V → V → V → V → V → V → Hp → Prop) (Q : V → Hp → Prop) (v0 v1 v5 v7 : V) (h : Hp) : Prop :=
  p.lbui h #[39] .len [v0] fun x1 =>
  p.bin .lss 3 false false v7 x1 fun x2 =>
  p.cond x2
  (fun _ =>
   p.iaddr 39 v0 v7 fun x3 =>
   p.load h 66 x3 fun x4 =>
   p.alloc h 66 fun x5 h6 b7 =>
   p.store h6 66 x5 x4 fun h8 =>
   p.faddr 66 x5 3 fun x9 =>
   p.faddr 63 x9 0 fun x10 =>
   p.load h8 9 x10 fun x11 =>
   p.bin .eql 9 false true x11 (.str []) fun x12 =>
   p.cond x12
   (fun _ =>
    l2 v0 v1 v5 v7 x5 v1 h8)
   (fun _ =>
    l2 v0 v1 v5 v7 x5 x11 h8))
  (fun _ =>
   Q (.bool false) h)
theorem q_r7_named_1 (p : Pr) (l1 : V → V → V → V → Hp → Prop) (l2 : V → V → V → V → V → V → Hp → Prop) (l3 : V → V → V → V → V → V → V → Hp → Prop) (Q : V → Hp → Prop) (s : List V) (h : Hp) : t_r7_named_1 p l1 l2 l3 Q (nth s 0) (nth s 1) (nth s 5) (nth s 7) h = KAt p EE (cutOf [[false, true, false, true], [true, true, true, false, false, true, false, false, true, false, true], [true, true, true, true, true, false, false, true, false, false, true, false, true]]) (X_r7_named l1 l2 l3) c_r7_named [] [true, false, true, false] (finK p Tryz.f33 Q) (nths s 78 0) h [] := by kernel_rfl
theorem r_r7_named_1 {Q : V → Hp → Prop} {v0 v1 v5 v7 : V} {h : Hp} (H : t_r7_named_1 (Pu EE) (L_r7_named_1 Q) (L_r7_named_2 Q) (L_r7_named_3 Q) Q v0 v1 v5 v7 h) : L_r7_named_1 Q v0 v1 v5 v7 h := by
  intro s hl ⟨e0, e1, e5, e7⟩
  subst e0 e1 e5 e7
  have hl : s.length = 78 := hl
  rw [nth_all hl]
  exact lab_ofX (o_r7_named Q) [true, false, true, false] (cast (q_r7_named_1 (Pu EE) (L_r7_named_1 Q) (L_r7_named_2 Q) (L_r7_named_3 Q) Q s h) H)
noncomputable def t_r7_named_2 (p : Pr) (l1 : V → V → V → V → Hp → Prop) (l2 : V → V → V → V → V → V → Hp → Prop) (l3 : V → V → V → V → V → V → V → Hp → Prop) (Q : V → Hp → Prop) (v0 v1 v5 v7 v8 v9 : V) (h : Hp) : Prop :=
  p.faddr 66 v8 4 fun x1 =>
  p.load h 63 x1 fun x2 =>
  p.alloc h 63 fun x3 h4 b5 =>
  p.store h4 63 x3 x2 fun h6 =>
  p.faddr 66 v8 0 fun x7 =>
  p.load h6 3 x7 fun x8 =>
  p.bin .eql 3 false true x8 (.int .i64 5) fun x9 =>
  p.cond x9
  (fun _ =>
   p.faddr 66 v8 3 fun x10 =>
   p.load h6 63 x10 fun x11 =>
   p.store h6 63 x3 x11 fun h12 =>
   l3 v0 v1 v5 v7 v8 v9 x3 h12)
  (fun _ =>
   l3 v0 v1 v5 v7 v8 v9 x3 h6)
theorem q_r7_named_2 (p : Pr) (l1 : V → V → V → V → Hp → Prop) (l2 : V → V → V → V → V → V → Hp → Prop) (l3 : V → V → V → V → V → V → V → Hp → Prop) (Q : V → Hp → Prop) (s : List V) (h : Hp) : t_r7_named_2 p l1 l2 l3 Q (nth s 0) (nth s 1) (nth s 5) (nth s 7) (nth s 8) (nth s 9) h = KAt p EE (cutOf [[false, true, false, true], [true, true, true, false, false, true, false, false, true, false, true], [true, true, true, true, true, false, false, true, false, false, true, false, true]]) (X_r7_named l1 l2 l3) c_r7_named [] [true, false, true, false, false, true, false, false, true, true, true] (finK p Tryz.f33 Q) (nths s 78 0) h [] := by kernel_rfl
theorem r_r7_named_2 {Q : V → Hp → Prop} {v0 v1 v5 v7 v8 v9 : V} {h : Hp} (H : t_r7_named_2 (Pu EE) (L_r7_named_1 Q) (L_r7_named_2 Q) (L_r7_named_3 Q) Q v0 v1 v5 v7 v8 v9 h) : L_r7_named_2 Q v0 v1 v5 v7 v8 v9 h := by
  intro s hl ⟨e0, e1, e5, e7, e8, e9⟩
  subst e0 e1 e5 e7 e8 e9
  have hl : s.length = 78 := hl
  rw [nth_all hl]
  exact lab_ofX (o_r7_named Q) [true, false, true, false, false, true, false, false, true, true, true] (cast (q_r7_named_2 (Pu EE) (L_r7_named_1 Q) (L_r7_named_2 Q) (L_r7_named_3 Q) Q s h) H)
noncomputable def t_r7_named_3 (p : Pr) (l1 : V → V → V → V → Hp → Prop) (l2 : V → V → V → V → V → V → Hp → Prop) (l3 : V → V → V → V → V → V → V → Hp → Prop) (Q : V → Hp → Prop) (v0 v1 v5 v7 v8 v9 v10 : V) (h : Hp) : Prop :=
  p.faddr 66 v8 0 fun x1 =>
  p.load h 3 x1 fun x2 =>
  p.bin .eql 3 false true x2 (.int .i64 5) fun x3 =>
  p.gval x3 false (fun k4 =>
   p.faddr 66 v8 0 fun x5 =>
   k4 x5) fun x6 =>
  p.gval x3 false (fun k7 =>
   p.load h 3 x6 fun x8 =>
   k7 x8) fun x9 =>
  p.gval x3 false (fun k10 =>
   p.bin .eql 3 false true x9 (.int .i64 6) fun x11 =>
   k10 x11) fun x12 =>
  p.pick x3 (some (.bool true)) (some x12) fun x13 =>
  p.gval x13 true (fun k14 =>
   k14 v9) fun x15 =>
  p.gval x13 true (fun k16 =>
   p.faddr 26 v5 0 fun x17 =>
   k16 x17) fun x18 =>
  p.gval x13 true (fun k19 =>
   p.load h 9 x18 fun x20 =>
   k19 x20) fun x21 =>
  p.gval x13 true (fun k22 =>
   p.bin .eql 9 false false x15 x21 fun x23 =>
   k22 x23) fun x24 =>
  p.pick x13 (some x24) (some (.bool false)) fun x25 =>
  p.gval x25 true (fun k26 =>
   p.faddr 26 v5 1 fun x27 =>
   k26 x27) fun x28 =>
  p.gval x25 true (fun k29 =>
   p.load h 3 x28 fun x30 =>
   k29 x30) fun x31 =>
  p.gval x25 true (fun k32 =>
   p.faddr 66 v8 3 fun x33 =>
   k32 x33) fun x34 =>
  p.gval x25 true (fun k35 =>
   p.faddr 63 x34 2 fun x36 =>
   k35 x36) fun x37 =>
  p.gval x25 true (fun k38 =>
   p.load h 3 x37 fun x39 =>
   k38 x39) fun x40 =>
  p.gval x25 true (fun k41 =>
   p.bin .geq 3 false false x31 x40 fun x42 =>
   k41 x42) fun x43 =>
  p.pick x25 (some x43) (some (.bool false)) fun x44 =>
  p.gval x44 true (fun k45 =>
   p.faddr 26 v5 1 fun x46 =>
   k45 x46) fun x47 =>
  p.gval x44 true (fun k48 =>
   p.load h 3 x47 fun x49 =>
   k48 x49) fun x50 =>
  p.gval x44 true (fun k51 =>
   p.faddr 63 v10 2 fun x52 =>
   k51 x52) fun x53 =>
  p.gval x44 true (fun k54 =>
   p.load h 3 x53 fun x55 =>
   k54 x55) fun x56 =>
  p.gval x44 true (fun k57 =>
   p.bin .leq 3 false false x50 x56 fun x58 =>
   k57 x58) fun x59 =>
  p.pick x44 (some x59) (some (.bool false)) fun x60 =>
  p.gval x60 true (fun k61 =>
   p.faddr 26 v5 2 fun x62 =>
   k61 x62) fun x63 =>
  p.gval x60 true (fun k64 =>
   p.load h 3 x63 fun x65 =>
   k64 x65) fun x66 =>
  p.gval x60 true (fun k67 =>
   p.faddr 66 v8 3 fun x68 =>
   k67 x68) fun x69 =>
  p.gval x60 true (fun k70 =>
   p.faddr 63 x69 1 fun x71 =>
   k70 x71) fun x72 =>
  p.gval x60 true (fun k73 =>
   p.load h 3 x72 fun x74 =>
   k73 x74) fun x75 =>
  p.gval x60 true (fun k76 =>
   p.bin .geq 3 false false x66 x75 fun x77 =>
   k76 x77) fun x78 =>
  p.pick x60 (some x78) (some (.bool false)) fun x79 =>
  p.gval x79 true (fun k80 =>
   p.faddr 26 v5 2 fun x81 =>
   k80 x81) fun x82 =>
  p.gval x79 true (fun k83 =>
   p.load h 3 x82 fun x84 =>
   k83 x84) fun x85 =>
  p.gval x79 true (fun k86 =>
   p.faddr 63 v10 1 fun x87 =>
   k86 x87) fun x88 =>
  p.gval x79 true (fun k89 =>
   p.load h 3 x88 fun x90 =>
   k89 x90) fun x91 =>
  p.gval x79 true (fun k92 =>
   p.bin .leq 3 false false x85 x91 fun x93 =>
   k92 x93) fun x94 =>
  p.pick x79 (some x94) (some (.bool false)) fun x95 =>
  p.cond x95
  (fun _ =>
   Q (.bool true) h)
  (fun _ =>
   p.bin .add 3 false true v7 (.int .i64 1) fun x96 =>
   l1 v0 v1 v5 x96 h)
theorem q_r7_named_3 (p : Pr) (l1 : V → V → V → V → Hp → Prop) (l2 : V → V → V → V → V → V → Hp → Prop) (l3 : V → V → V → V → V → V → V → Hp → Prop) (Q : V → Hp → Prop) (s : List V) (h : Hp) : t_r7_named_3 p l1 l2 l3 Q (nth s 0) (nth s 1) (nth s 5) (nth s 7) (nth s 8) (nth s 9) (nth s 10) h = KAt p EE (cutOf [[false, true, false, true], [true, true, true, false, false, true, false, false, true, false, true], [true, true, true, true, true, false, false, true, false, false, true, false, true]]) (X_r7_named l1 l2 l3) c_r7_named [] [true, false, true, false, false, true, false, false, true, true, true, true, true] (finK p Tryz.f33 Q) (nths s 78 0) h [] := by kernel_rfl
theorem r_r7_named_3 {Q : V → Hp → Prop} {v0 v1 v5 v7 v8 v9 v10 : V} {h : Hp} (H : t_r7_named_3 (Pu EE) (L_r7_named_1 Q) (L_r7_named_2 Q) (L_r7_named_3 Q) Q v0 v1 v5 v7 v8 v9 v10 h) : L_r7_named_3 Q v0 v1 v5 v7 v8 v9 v10 h := by
  intro s hl ⟨e0, e1, e5, e7, e8, e9, e10⟩
  subst e0 e1 e5 e7 e8 e9 e10
  have hl : s.length = 78 := hl
  rw [nth_all hl]
  exact lab_ofX (o_r7_named Q) [true, false, true, false, false, true, false, false, true, true, true, true, true] (cast (q_r7_named_3 (Pu EE) (L_r7_named_1 Q) (L_r7_named_2 Q) (L_r7_named_3 Q) Q s h) H)
noncomputable def c_law13_at : Code := match Tryz.f18.body with | some c => c | none => .skip
theorem b_law13_at : Tryz.f18.body = some c_law13_at := by kernel_rfl
theorem e_law13_at : EE.fn.get 18 = some Tryz.f18 := by kernel_rfl
noncomputable def L_law13_at_1 (Q : V → Hp → Prop) (v0 v3 v5 : V) (h : Hp) : Prop := ∀ s : List V, s.length = (Tryz.f18).ntmps → nth s 0 = v0 ∧ nth s 3 = v3 ∧ nth s 5 = v5 → Lab EE Tryz.f18 c_law13_at Q [false, true, false, true] s h []
noncomputable def X_law13_at (l1 : V → V → V → Hp → Prop) : Lb := fun π s h d => match d with
  | [] => bif eqB [false, true, false, true] π then l1 (nth s 0) (nth s 3) (nth s 5) h else False
  | _ => False
theorem o_law13_at (Q : V → Hp → Prop) : ∀ π s h d, X_law13_at (L_law13_at_1 Q) π s h d → s.length = (Tryz.f18).ntmps → Lab EE Tryz.f18 c_law13_at Q π s h d := by
  intro π s h d hx hl
  cases d with
  | cons _ _ => exact hx.elim
  | nil =>
    simp only [X_law13_at] at hx
    cases hk : eqB [false, true, false, true] π with
    | true => rw [hk, cond_true] at hx; rw [← eqB_eq hk]; exact hx s hl ⟨rfl, rfl, rfl⟩
    | false =>
    rw [hk, cond_false] at hx
    exact hx.elim
noncomputable def t_law13_at_0 (p : Pr) (l1 : V → V → V → Hp → Prop) (Q : V → Hp → Prop) (v0 v1 : V) (h : Hp) : Prop :=
  p.box h 26 v1 fun x1 h2 b3 =>
  l1 v0 x1 (.int .i64 0) h2
theorem q_law13_at_0 (p : Pr) (l1 : V → V → V → Hp → Prop) (Q : V → Hp → Prop) (v0 v1 : V) (h : Hp) : t_law13_at_0 p l1 Q v0 v1 h = KAt p EE (cutOf [[false, true, false, true]]) (X_law13_at l1) c_law13_at [] [] (finK p Tryz.f18 Q) ([v0, v1] ++ List.replicate 17 u0) h [] := by kernel_rfl
theorem a_law13_at {Q : V → Hp → Prop} {v0 v1 : V} {h : Hp} (H : t_law13_at_0 (Pu EE) (L_law13_at_1 Q) Q v0 v1 h) : Ans EE 18 [v0, v1] h Q :=
  ans_of (by kernel_rfl) e_law13_at b_law13_at (by kernel_rfl) (lab_ofX (o_law13_at Q) [] (cast (q_law13_at_0 (Pu EE) (L_law13_at_1 Q) Q v0 v1 h) H))
noncomputable def t_law13_at_1 (p : Pr) (l1 : V → V → V → Hp → Prop) (Q : V → Hp → Prop) (v0 v3 v5 : V) (h : Hp) : Prop :=
  p.lbui h #[29] .len [v0] fun x1 =>
  p.bin .lss 3 false false v5 x1 fun x2 =>
  p.cond x2
  (fun _ =>
   p.iaddr 29 v0 v5 fun x3 =>
   p.load h 26 x3 fun x4 =>
   p.load h 26 v3 fun x5 =>
   p.bin .eql 26 false false x4 x5 fun x6 =>
   p.cond x6
   (fun _ =>
    Q v5 h)
   (fun _ =>
    p.bin .add 3 false true v5 (.int .i64 1) fun x7 =>
    l1 v0 v3 x7 h))
  (fun _ =>
   Q (.int .i64 (-1)) h)
theorem q_law13_at_1 (p : Pr) (l1 : V → V → V → Hp → Prop) (Q : V → Hp → Prop) (s : List V) (h : Hp) : t_law13_at_1 p l1 Q (nth s 0) (nth s 3) (nth s 5) h = KAt p EE (cutOf [[false, true, false, true]]) (X_law13_at l1) c_law13_at [] [true, false, true, false] (finK p Tryz.f18 Q) (nths s 19 0) h [] := by kernel_rfl
theorem r_law13_at_1 {Q : V → Hp → Prop} {v0 v3 v5 : V} {h : Hp} (H : t_law13_at_1 (Pu EE) (L_law13_at_1 Q) Q v0 v3 v5 h) : L_law13_at_1 Q v0 v3 v5 h := by
  intro s hl ⟨e0, e3, e5⟩
  subst e0 e3 e5
  have hl : s.length = 19 := hl
  rw [nth_all hl]
  exact lab_ofX (o_law13_at Q) [true, false, true, false] (cast (q_law13_at_1 (Pu EE) (L_law13_at_1 Q) Q s h) H)
end
end Go.Proofs.YtlllhhjlfmhmlaaGreatDoor.VM
namespace Go.Proofs.YtlllhhjlfmhmlaaGreatDoor.VM
open Go
noncomputable section
theorem l_api_Book : El EE 24 1 [.nils] true := el_of (by kernel_rfl) rfl
theorem l_api_Sheet : El EE 48 3 [.str [], .int .i64 0, .nils] true := el_of (by kernel_rfl) rfl
theorem st_string : IsStr EE 9 := isStr_ (by kernel_rfl)
theorem l_string : El EE 9 1 [.str []] false := el_of (by kernel_rfl) rfl
theorem fa_api_Sheet_0 (b o : Nat) (q : V → Prop) : (Pu EE).faddr 48 (.ptr b o) 0 q ↔ q (.ptr b (o + 0)) := fa_of (by kernel_rfl) q
theorem fi_api_Sheet_0 (x0 x1 x2 : V) (q : V → Prop) : (Pu EE).field 48 (.agg [x0, x1, x2]) 0 q ↔ q x0 := fi_of (by kernel_rfl) q
theorem i_int : IsInt EE 3 .i64 := isInt (by kernel_rfl)
theorem l_int : El EE 3 1 [.int .i64 0] false := el_of (by kernel_rfl) rfl
theorem fa_api_Sheet_1 (b o : Nat) (q : V → Prop) : (Pu EE).faddr 48 (.ptr b o) 1 q ↔ q (.ptr b (o + 1)) := fa_of (by kernel_rfl) q
theorem fi_api_Sheet_1 (x0 x1 x2 : V) (q : V → Prop) : (Pu EE).field 48 (.agg [x0, x1, x2]) 1 q ↔ q x1 := fi_of (by kernel_rfl) q
theorem s_sl_string : IsSl EE 49 9 := isSl (by kernel_rfl)
theorem l_sl_string : El EE 49 1 [.nils] false := el_of (by kernel_rfl) rfl
theorem s_sl_sl_string : IsSl EE 46 49 := isSl (by kernel_rfl)
theorem l_sl_sl_string : El EE 46 1 [.nils] false := el_of (by kernel_rfl) rfl
theorem fa_api_Sheet_2 (b o : Nat) (q : V → Prop) : (Pu EE).faddr 48 (.ptr b o) 2 q ↔ q (.ptr b (o + 2)) := fa_of (by kernel_rfl) q
theorem fi_api_Sheet_2 (x0 x1 x2 : V) (q : V → Prop) : (Pu EE).field 48 (.agg [x0, x1, x2]) 2 q ↔ q x2 := fi_of (by kernel_rfl) q
theorem so_api_Sheet : StructOf EE 48 [(0, 1), (1, 1), (2, 1)] [.str [], .int .i64 0, .nils] := structOf (by kernel_rfl)
theorem s_sl_api_Sheet : IsSl EE 22 48 := isSl (by kernel_rfl)
theorem l_sl_api_Sheet : El EE 22 1 [.nils] false := el_of (by kernel_rfl) rfl
theorem fa_api_Book_0 (b o : Nat) (q : V → Prop) : (Pu EE).faddr 24 (.ptr b o) 0 q ↔ q (.ptr b (o + 0)) := fa_of (by kernel_rfl) q
theorem fi_api_Book_0 (x0 : V) (q : V → Prop) : (Pu EE).field 24 (.agg [x0]) 0 q ↔ q x0 := fi_of (by kernel_rfl) q
theorem so_api_Book : StructOf EE 24 [(0, 1)] [.nils] := structOf (by kernel_rfl)
theorem l_api_Spot : El EE 26 3 [.str [], .int .i64 0, .int .i64 0] true := el_of (by kernel_rfl) rfl
theorem fa_api_Spot_0 (b o : Nat) (q : V → Prop) : (Pu EE).faddr 26 (.ptr b o) 0 q ↔ q (.ptr b (o + 0)) := fa_of (by kernel_rfl) q
theorem fi_api_Spot_0 (x0 x1 x2 : V) (q : V → Prop) : (Pu EE).field 26 (.agg [x0, x1, x2]) 0 q ↔ q x0 := fi_of (by kernel_rfl) q
theorem fa_api_Spot_1 (b o : Nat) (q : V → Prop) : (Pu EE).faddr 26 (.ptr b o) 1 q ↔ q (.ptr b (o + 1)) := fa_of (by kernel_rfl) q
theorem fi_api_Spot_1 (x0 x1 x2 : V) (q : V → Prop) : (Pu EE).field 26 (.agg [x0, x1, x2]) 1 q ↔ q x1 := fi_of (by kernel_rfl) q
theorem fa_api_Spot_2 (b o : Nat) (q : V → Prop) : (Pu EE).faddr 26 (.ptr b o) 2 q ↔ q (.ptr b (o + 2)) := fa_of (by kernel_rfl) q
theorem fi_api_Spot_2 (x0 x1 x2 : V) (q : V → Prop) : (Pu EE).field 26 (.agg [x0, x1, x2]) 2 q ↔ q x2 := fi_of (by kernel_rfl) q
theorem so_api_Spot : StructOf EE 26 [(0, 1), (1, 1), (2, 1)] [.str [], .int .i64 0, .int .i64 0] := structOf (by kernel_rfl)
theorem l_api_Node : El EE 66 14 [.int .i64 0, .int .i64 0, .str [], .str [], .int .i64 0, .int .i64 0, .bool false, .bool false, .str [], .int .i64 0, .int .i64 0, .bool false, .bool false, .nils] true := el_of (by kernel_rfl) rfl
theorem fa_api_Node_0 (b o : Nat) (q : V → Prop) : (Pu EE).faddr 66 (.ptr b o) 0 q ↔ q (.ptr b (o + 0)) := fa_of (by kernel_rfl) q
theorem fi_api_Node_0 (x0 x1 x2 x3 x4 x5 x6 x7 x8 x9 x10 x11 x12 x13 : V) (q : V → Prop) : (Pu EE).field 66 (.agg [x0, x1, x2, x3, x4, x5, x6, x7, x8, x9, x10, x11, x12, x13]) 0 q ↔ q x0 := fi_of (by kernel_rfl) q
theorem fa_api_Node_1 (b o : Nat) (q : V → Prop) : (Pu EE).faddr 66 (.ptr b o) 1 q ↔ q (.ptr b (o + 1)) := fa_of (by kernel_rfl) q
theorem fi_api_Node_1 (x0 x1 x2 x3 x4 x5 x6 x7 x8 x9 x10 x11 x12 x13 : V) (q : V → Prop) : (Pu EE).field 66 (.agg [x0, x1, x2, x3, x4, x5, x6, x7, x8, x9, x10, x11, x12, x13]) 1 q ↔ q x1 := fi_of (by kernel_rfl) q
theorem fa_api_Node_2 (b o : Nat) (q : V → Prop) : (Pu EE).faddr 66 (.ptr b o) 2 q ↔ q (.ptr b (o + 2)) := fa_of (by kernel_rfl) q
theorem fi_api_Node_2 (x0 x1 x2 x3 x4 x5 x6 x7 x8 x9 x10 x11 x12 x13 : V) (q : V → Prop) : (Pu EE).field 66 (.agg [x0, x1, x2, x3, x4, x5, x6, x7, x8, x9, x10, x11, x12, x13]) 2 q ↔ q x2 := fi_of (by kernel_rfl) q
theorem l_api_Ref : El EE 63 5 [.str [], .int .i64 0, .int .i64 0, .bool false, .bool false] true := el_of (by kernel_rfl) rfl
theorem fa_api_Ref_0 (b o : Nat) (q : V → Prop) : (Pu EE).faddr 63 (.ptr b o) 0 q ↔ q (.ptr b (o + 0)) := fa_of (by kernel_rfl) q
theorem fi_api_Ref_0 (x0 x1 x2 x3 x4 : V) (q : V → Prop) : (Pu EE).field 63 (.agg [x0, x1, x2, x3, x4]) 0 q ↔ q x0 := fi_of (by kernel_rfl) q
theorem fa_api_Ref_1 (b o : Nat) (q : V → Prop) : (Pu EE).faddr 63 (.ptr b o) 1 q ↔ q (.ptr b (o + 1)) := fa_of (by kernel_rfl) q
theorem fi_api_Ref_1 (x0 x1 x2 x3 x4 : V) (q : V → Prop) : (Pu EE).field 63 (.agg [x0, x1, x2, x3, x4]) 1 q ↔ q x1 := fi_of (by kernel_rfl) q
theorem fa_api_Ref_2 (b o : Nat) (q : V → Prop) : (Pu EE).faddr 63 (.ptr b o) 2 q ↔ q (.ptr b (o + 2)) := fa_of (by kernel_rfl) q
theorem fi_api_Ref_2 (x0 x1 x2 x3 x4 : V) (q : V → Prop) : (Pu EE).field 63 (.agg [x0, x1, x2, x3, x4]) 2 q ↔ q x2 := fi_of (by kernel_rfl) q
theorem l_bool : El EE 4 1 [.bool false] false := el_of (by kernel_rfl) rfl
theorem fa_api_Ref_3 (b o : Nat) (q : V → Prop) : (Pu EE).faddr 63 (.ptr b o) 3 q ↔ q (.ptr b (o + 3)) := fa_of (by kernel_rfl) q
theorem fi_api_Ref_3 (x0 x1 x2 x3 x4 : V) (q : V → Prop) : (Pu EE).field 63 (.agg [x0, x1, x2, x3, x4]) 3 q ↔ q x3 := fi_of (by kernel_rfl) q
theorem fa_api_Ref_4 (b o : Nat) (q : V → Prop) : (Pu EE).faddr 63 (.ptr b o) 4 q ↔ q (.ptr b (o + 4)) := fa_of (by kernel_rfl) q
theorem fi_api_Ref_4 (x0 x1 x2 x3 x4 : V) (q : V → Prop) : (Pu EE).field 63 (.agg [x0, x1, x2, x3, x4]) 4 q ↔ q x4 := fi_of (by kernel_rfl) q
theorem so_api_Ref : StructOf EE 63 [(0, 1), (1, 1), (2, 1), (3, 1), (4, 1)] [.str [], .int .i64 0, .int .i64 0, .bool false, .bool false] := structOf (by kernel_rfl)
theorem fa_api_Node_3 (b o : Nat) (q : V → Prop) : (Pu EE).faddr 66 (.ptr b o) 3 q ↔ q (.ptr b (o + 3)) := fa_of (by kernel_rfl) q
theorem fi_api_Node_3 (x0 x1 x2 x3 x4 x5 x6 x7 x8 x9 x10 x11 x12 x13 : V) (q : V → Prop) : (Pu EE).field 66 (.agg [x0, x1, x2, x3, x4, x5, x6, x7, x8, x9, x10, x11, x12, x13]) 3 q ↔ q (.agg [x3, x4, x5, x6, x7]) := fi_of (by kernel_rfl) q
theorem fa_api_Node_4 (b o : Nat) (q : V → Prop) : (Pu EE).faddr 66 (.ptr b o) 4 q ↔ q (.ptr b (o + 8)) := fa_of (by kernel_rfl) q
theorem fi_api_Node_4 (x0 x1 x2 x3 x4 x5 x6 x7 x8 x9 x10 x11 x12 x13 : V) (q : V → Prop) : (Pu EE).field 66 (.agg [x0, x1, x2, x3, x4, x5, x6, x7, x8, x9, x10, x11, x12, x13]) 4 q ↔ q (.agg [x8, x9, x10, x11, x12]) := fi_of (by kernel_rfl) q
theorem s_sl_int : IsSl EE 64 3 := isSl (by kernel_rfl)
theorem l_sl_int : El EE 64 1 [.nils] false := el_of (by kernel_rfl) rfl
theorem fa_api_Node_5 (b o : Nat) (q : V → Prop) : (Pu EE).faddr 66 (.ptr b o) 5 q ↔ q (.ptr b (o + 13)) := fa_of (by kernel_rfl) q
theorem fi_api_Node_5 (x0 x1 x2 x3 x4 x5 x6 x7 x8 x9 x10 x11 x12 x13 : V) (q : V → Prop) : (Pu EE).field 66 (.agg [x0, x1, x2, x3, x4, x5, x6, x7, x8, x9, x10, x11, x12, x13]) 5 q ↔ q x13 := fi_of (by kernel_rfl) q
theorem so_api_Node : StructOf EE 66 [(0, 1), (1, 1), (2, 1), (3, 5), (8, 5), (13, 1)] [.int .i64 0, .int .i64 0, .str [], .str [], .int .i64 0, .int .i64 0, .bool false, .bool false, .str [], .int .i64 0, .int .i64 0, .bool false, .bool false, .nils] := structOf (by kernel_rfl)
theorem s_sl_api_Spot : IsSl EE 29 26 := isSl (by kernel_rfl)
theorem l_sl_api_Spot : El EE 29 1 [.nils] false := el_of (by kernel_rfl) rfl
theorem s_sl_sl_api_Spot : IsSl EE 61 29 := isSl (by kernel_rfl)
theorem l_sl_sl_api_Spot : El EE 61 1 [.nils] false := el_of (by kernel_rfl) rfl
theorem s_sl_api_Node : IsSl EE 39 66 := isSl (by kernel_rfl)
theorem l_sl_api_Node : El EE 39 1 [.nils] false := el_of (by kernel_rfl) rfl
theorem i_uint8 : IsInt EE 5 .u8 := isInt (by kernel_rfl)
theorem l_uint8 : El EE 5 1 [.int .u8 0] false := el_of (by kernel_rfl) rfl
theorem s_sl_uint8 : IsSl EE 35 5 := isSl (by kernel_rfl)
theorem l_sl_uint8 : El EE 35 1 [.nils] false := el_of (by kernel_rfl) rfl
end
end Go.Proofs.YtlllhhjlfmhmlaaGreatDoor.VM
