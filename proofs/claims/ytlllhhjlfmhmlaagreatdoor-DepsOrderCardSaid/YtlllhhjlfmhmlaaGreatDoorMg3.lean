/- The machine of plain data: operations that change memory are sound. No program in sight. · The machine of plain data: maps are written. No program in sight. · The machine of plain data: operations one after the other, regions whose order is drawn. No program in sight. · The machine of plain data: plans of regions whose order is drawn: what is static. No program in sight. -/
import Derived.Test.YtlllhhjlfmhmlaaGreatDoorMg2
namespace Go.Proofs.YtlllhhjlfmhmlaaGreatDoor.VM
open Go Go.RowKit
set_option linter.unusedSectionVars false
variable [Sy]
/-- one block has changed, or none -/
structure Chg (w w' : World) (b : Nat) : Prop where
  os : w'.os = w.os
  tape : w'.tape = w.tape
  output : w'.output = w.output
  size : w'.heap.size = w.heap.size
  other : ∀ k, k ≠ b → w'.heap[k]? = w.heap[k]?
theorem Chg.refl (w : World) (b : Nat) : Chg w w b := ⟨rfl, rfl, rfl, rfl, fun _ _ => rfl⟩
theorem Chg.trans {w w1 w2 : World} {b : Nat} (h : Chg w w1 b) (k : Chg w1 w2 b) : Chg w w2 b :=
  ⟨k.os.trans h.os, k.tape.trans h.tape, k.output.trans h.output, k.size.trans h.size, fun i hi => (k.other i hi).trans (h.other i hi)⟩
theorem Chg.below {w w' : World} {b N : Nat} (h : Chg w w' b) (hb : N ≤ b) : Below N w w' := ⟨h.os, h.tape, h.output, by rw [h.size]; exact Nat.le_refl _, fun k hk => h.other k (by omega)⟩
def Mp.put (σ : Mp) (B : Nat) (p : Nat × Nat) : Mp := fun C => if C = B then some p else σ C
theorem Mp.put_same (σ : Mp) (B : Nat) (p : Nat × Nat) : (σ.put B p) B = some p := by simp [Mp.put]
theorem Mp.le_put {σ : Mp} {B : Nat} {p : Nat × Nat} (h : σ B = none) : Mp.le σ (σ.put B p) := fun C q hq => by
  unfold Mp.put
  split
  · rename_i e; subst e; rw [h] at hq; cases hq
  · exact hq
section
variable {P : Program} {E : Env} {σ : Mp} {w w' : World} {N : Nat} {h : Hp}
theorem Rel.free (R : Rel N σ h w) : σ h.n = none := by
  cases hc : σ h.n with
  | none => rfl
  | some p => obtain ⟨b, n⟩ := p; have := (R.has _ _ _ hc).1; omega
theorem Hp.get_set (h : Hp) (i j : Nat) (b : Blk) : (h.set i b).t.get j = if j = i then some b else h.t.get j := T.get_put _ _ _ _
theorem Hp.get_new (h : Hp) (j : Nat) (b : Blk) : (h.new b).t.get j = if j = h.n then some b else h.t.get j := T.get_put _ _ _ _
/-- a block that is alive, and its own, is changed -/
theorem Rel.change (R : Rel N σ h w) {B b n : Nat} (e : σ B = some (b, n)) {k k' : Blk} (hk : h.t.get B = some k) (hd : k ≠ .dead) (hro : ∀ vs el, k ≠ .cells vs el true) (hc : Chg w w' b)
    (hb : ∀ o, w'.heap[b]? = some o → RepB σ n k' o) : Rel N σ (h.set B k') w' := by
  have hN : N ≤ b := by
    rcases Nat.lt_or_ge b N with h1 | h1
    · rcases R.old B b n e h1 with ⟨vs, el, h2⟩ | h2
      · rw [hk] at h2; injection h2 with h2; exact absurd h2 (hro vs el)
      · rw [hk] at h2; injection h2 with h2; exact absurd h2 hd
    · exact h1
  refine ⟨fun C c m hC => ?_, fun C D c m q hC hD => ?_, fun C c m hC hlt => ?_, by rw [hc.size]; exact R.base, fun p hp => ⟨(R.tab p hp).1, (hc.other _ (by have := (R.tab p hp).1; omega)).trans (R.tab p hp).2⟩⟩
  · obtain ⟨h1, h2, k2, h3, h4⟩ := R.has C c m hC
    refine ⟨h1, by rw [hc.size]; exact h2, ?_⟩
    by_cases hCB : C = B
    · subst hCB
      rw [e] at hC
      cases hC
      exact ⟨k', by rw [Hp.get_set, if_pos rfl], hb⟩
    · refine ⟨k2, by rw [Hp.get_set, if_neg hCB]; exact h3, fun o ho => ?_⟩
      by_cases hcb : c = b
      · subst hcb
        rcases R.inj C B c m n hC e with h5 | h5 | h5
        · exact absurd h5 hCB
        · rw [h3] at h5; cases h5; trivial
        · rw [hk] at h5; injection h5 with h5; exact absurd h5 hd
      · rw [hc.other c hcb] at ho
        exact h4 o ho
  · rcases R.inj C D c m q hC hD with h5 | h5 | h5
    · exact .inl h5
    · right; left
      rw [Hp.get_set]
      split
      · rename_i h6; subst h6; rw [hk] at h5; injection h5 with h5; exact absurd h5 hd
      · exact h5
    · right; right
      rw [Hp.get_set]
      split
      · rename_i h6; subst h6; rw [hk] at h5; injection h5 with h5; exact absurd h5 hd
      · exact h5
  · rw [Hp.get_set]
    split
    · rename_i h6
      subst h6
      rw [e] at hC
      cases hC
      omega
    · exact R.old C c m hC hlt
/-- the world has changed in what is not told of -/
theorem Rel.world (R : Rel N σ h w) (hb : Below w.heap.size w w') : Rel N σ h w' := by
  refine ⟨fun C c m hC => ?_, R.inj, R.old, Nat.le_trans R.base hb.size, fun p hp => ⟨(R.tab p hp).1, (hb.block _ (Nat.lt_of_lt_of_le (R.tab p hp).1 R.base)).trans (R.tab p hp).2⟩⟩
  obtain ⟨h1, h2, k2, h3, h4⟩ := R.has C c m hC
  exact ⟨h1, Nat.lt_of_lt_of_le h2 hb.size, k2, h3, fun o ho => h4 o (by rw [hb.block c h2] at ho; exact ho)⟩
/-- a block that the machine has already comes up in the world -/
theorem Rel.come (R : Rel N σ h w) {B b n : Nat} {k : Blk} (hB : B < h.n) (hk : h.t.get B = some k) (hσ : σ B = none) (hw : Below w.heap.size w w') (hb : w.heap.size ≤ b) (hb2 : b < w'.heap.size) (hr : ∀ o, w'.heap[b]? = some o → RepB σ n k o) :
    Rel N (σ.put B (b, n)) h w' := by
  have hle : Mp.le σ (σ.put B (b, n)) := Mp.le_put hσ
  have R' := R.world hw
  have key : ∀ C c m, (σ.put B (b, n)) C = some (c, m) → (C = B ∧ c = b ∧ m = n) ∨ σ C = some (c, m) := fun C c m hC => by
    unfold Mp.put at hC
    split at hC
    · rename_i e; cases hC; exact .inl ⟨e, rfl, rfl⟩
    · exact .inr hC
  refine ⟨fun C c m hC => ?_, fun C D c m q hC hD => ?_, fun C c m hC hlt => ?_, R'.base, R'.tab⟩
  · rcases key C c m hC with ⟨rfl, rfl, rfl⟩ | h1
    · exact ⟨hB, hb2, k, hk, fun o ho => (hr o ho).mono hle⟩
    · obtain ⟨h2, h3, k2, h4, h5⟩ := R'.has C c m h1
      exact ⟨h2, h3, k2, h4, fun o ho => (h5 o ho).mono hle⟩
  · rcases key C c m hC with ⟨rfl, rfl, rfl⟩ | h1 <;> rcases key D c q hD with ⟨e1, e2, e3⟩ | h2
    · exact .inl e1.symm
    · exfalso; have := (R.has D c q h2).2.1; omega
    · exfalso; subst e2; have := (R.has C c m h1).2.1; omega
    · exact R.inj C D c m q h1 h2
  · rcases key C c m hC with ⟨rfl, rfl, rfl⟩ | h1
    · exfalso; have := R.base; omega
    · exact R.old C c m h1 hlt
/-- the machine has a block more, of which nothing is told -/
theorem Rel.more (R : Rel N σ h w) (k : Blk) : Rel N σ (h.new k) w := by
  have hne : ∀ C c m, σ C = some (c, m) → C ≠ h.n := fun C c m hC e => by have := (R.has C c m hC).1; omega
  refine ⟨fun C c m hC => ?_, fun C D c m q hC hD => ?_, fun C c m hC hlt => ?_, R.base, R.tab⟩
  · obtain ⟨h1, h2, k2, h3, h4⟩ := R.has C c m hC
    exact ⟨Nat.lt_succ_of_lt h1, h2, k2, by rw [Hp.get_new, if_neg (hne C c m hC)]; exact h3, h4⟩
  · rw [Hp.get_new, Hp.get_new, if_neg (hne C c m hC), if_neg (hne D c q hD)]
    exact R.inj C D c m q hC hD
  · rw [Hp.get_new, if_neg (hne C c m hC)]
    exact R.old C c m hC hlt
/-- a map that goes on: of what the machine had nothing is told that was not -/
structure Mp.Ext (n : Nat) (σ τ : Mp) : Prop where
  le : Mp.le σ τ
  same : ∀ B, B < n → τ B = σ B
theorem Mp.Ext.refl (n : Nat) (σ : Mp) : Mp.Ext n σ σ := ⟨Mp.le.refl σ, fun _ _ => rfl⟩
theorem Mp.Ext.trans {n m : Nat} {a b c : Mp} (h : Mp.Ext n a b) (k : Mp.Ext m b c) (hm : n ≤ m) : Mp.Ext n a c := ⟨h.le.trans k.le, fun B hB => (k.same B (by omega)).trans (h.same B hB)⟩
theorem Mp.Ext.put {σ : Mp} {n B : Nat} {p : Nat × Nat} (h : σ B = none) (hn : n ≤ B) : Mp.Ext n σ (σ.put B p) := ⟨Mp.le_put h, fun C hC => by unfold Mp.put; rw [if_neg (by omega)]⟩
/-- what an operation makes of the world, with a value -/
def Does (N : Nat) (σ : Mp) (h : Hp) (w : World) (v : V) (h' : Hp) (x : Value) (w' : World) : Prop := ∃ σ', Mp.Ext h.n σ σ' ∧ h.n ≤ h'.n ∧ Rep σ' v x ∧ Rel N σ' h' w' ∧ Below N w w'
theorem Does.stay {v : V} {x : Value} {h' : Hp} (hr : Rep σ v x) (R : Rel N σ h' w') (hb : Below N w w') (hn : h.n ≤ h'.n) : Does N σ h w v h' x w' := ⟨σ, Mp.Ext.refl _ _, hn, hr, R, hb⟩
theorem Rel.made (R : Rel N σ h w) {fr : Fr} {blk : Blk} {x : Value} (hm : Made σ w fr blk x w') : Does N σ h w (fr.at h.n) (h.new blk) x w' := by
  obtain ⟨b, n, h1, h2, h3, h4, h5⟩ := hm
  refine ⟨σ.put h.n (b, n), Mp.Ext.put R.free (Nat.le_refl _), Nat.le_succ _, h3 _ _ (Mp.put_same _ _ _), ?_, h5.mono R.base⟩
  exact (R.more blk).come (Nat.lt_succ_self _) (by rw [Hp.get_new, if_pos rfl]) R.free h5 h1 h2 h4

theorem one_of_cell {v : V} {x : Value} (hc : v.isCell = true) (hr : Rep σ v x) : x.oneCell' = true := by
  cases hr <;> first | rfl | assumption | cases hc
theorem allCells_rep : ∀ {l : List V} {xs : List Value}, allCells l = true → RepL σ l xs → ∀ x ∈ xs, x.oneCell' = true
  | [], _, _, .nil => by simp
  | v :: l, _, h, .cons _ x _ xs hr hl => by
    rw [allCells] at h
    cases hc : v.isCell with
    | false => rw [hc] at h; cases h
    | true =>
      rw [hc] at h
      intro y hy
      rcases List.mem_cons.1 hy with rfl | hy
      · exact one_of_cell hc hr
      · exact allCells_rep h hl y hy
theorem store_run {b off el : Nat} {fz : Nat × Nat} : ∀ (ys : List Value) (k : Nat) (xs : List Value) (w : World), w.heap[b]? = some (.cells xs.toArray el fz) → (∀ i, i < xs.length → ¬ (fz.1 ≤ i ∧ i < fz.2)) → (ys = [] ∨ off + k + ys.length ≤ xs.length) → (∀ y ∈ ys, y.oneCell' = true) →
    ∃ w', (storeCells ⟨b, off, none⟩ ys k).run P w = .ok () w' ∧ w'.heap[b]? = some (.cells (putAll off ys k xs).toArray el fz) ∧ Chg w w' b
  | [], k, xs, w, hw, _, _, _ => ⟨w, rfl, hw, Chg.refl _ _⟩
  | y :: ys, k, xs, w, hw, hf, hl, h1 => by
    have hlt : off + k < xs.length := by rcases hl with h | h <;> simp at h; omega
    have hcell : w.cell? ⟨b, off + k, none⟩ = some xs[off + k] := by simp [World.cell?, hw, hlt]
    have hfro : w.frozen? ⟨b, off + k, none⟩ = false := by
      have := hf (off + k) hlt
      simp only [World.frozen?, hw, Bool.and_eq_false_iff, decide_eq_false_iff_not]
      omega
    have hst : (store ((⟨b, off, none⟩ : Addr).add k) y).run P w = .ok () (w.setCell ⟨b, off + k, none⟩ y) := by
      rw [addr_add, run_store P w _ y _ (h1 y (by simp)), hcell]
      simp [hfro]
    have e1 : (w.setCell ⟨b, off + k, none⟩ y).heap[b]? = some (.cells (xs.set (off + k) y).toArray el fz) := by
      simp [World.setCell, Array.getElem?_modify, hw]
    have c1 : Chg w (w.setCell ⟨b, off + k, none⟩ y) b := ⟨rfl, rfl, rfl, by simp [World.setCell], fun i hi => by simp [World.setCell, Array.getElem?_modify, Ne.symm hi]⟩
    have hl' : ys = [] ∨ off + (k + 1) + ys.length ≤ (xs.set (off + k) y).length := by
      rcases hl with h | h
      · simp at h
      · right; simp at h ⊢; omega
    obtain ⟨w', h2, h3, h4⟩ := store_run ys (k + 1) (xs.set (off + k) y) _ e1 (by simpa using hf) hl' (fun z hz => h1 z (by simp [hz]))
    refine ⟨w', ?_, h3, c1.trans h4⟩
    rw [storeCells, Sem.run_bind, hst, Result.andThen_ok]
    exact h2
/-- cells of a block that is alive and its own are written -/
theorem wr_sound (R : Rel N σ h w) {B b n off : Nat} (e : σ B = some (b, n)) {ws : List V} {ys : List Value} (hw : RepL σ ws ys) {h' : Hp} (hh : wrCells h B off ws = some h') :
    ∃ w', (storeCells ⟨b, off, none⟩ ys).run P w = .ok () w' ∧ Rel N σ h' w' ∧ Below N w w' := by
  unfold wrCells at hh
  split at hh
  · rename_i vs el hB
    cases hc : allCells ws with
    | false => rw [hc] at hh; cases hh
    | true =>
      rw [hc] at hh
      simp only [cond_true, Option.bind_eq_some_iff, Option.some.injEq] at hh
      obtain ⟨r, hs, rfl⟩ := hh
      obtain ⟨el', xs, zs, fz, h1, h2, h3, h4⟩ := R.cells e (vs := vs) (by unfold rdCells; rw [hB])
      have hel : el' = el := by
        obtain ⟨_, hb, k, hk, ho⟩ := R.has B b n e
        rw [hB] at hk
        cases hk
        obtain ⟨xs', ys', fz', e1, _⟩ := (ho _ h1).out
        injection e1 with _ e2
      subst hel
      have hlen : ys = [] ∨ off + ys.length ≤ xs.length := by
        rw [← hw.length, ← h2.length]
        rcases spl_len ws hs with h5 | h5
        · left; subst h5; cases hw; rfl
        · exact .inr h5
      obtain ⟨w', h5, h6, h7⟩ := store_run (P := P) (b := b) (off := off) (el := el') (fz := fz) ys 0 (xs ++ zs) w h1 (fun i hi => h4 _ hB i (by rw [← h3]; exact hi)) (hlen.imp id fun h => by simp; omega) (allCells_rep hc hw)
      have hN : N ≤ b := by
        rcases Nat.lt_or_ge b N with h8 | h8
        · rcases R.old B b n e h8 with ⟨vs', el', h9⟩ | h9 <;> rw [hB] at h9 <;> cases h9
        · exact h8
      refine ⟨w', h5, R.change e hB (by simp) (by simp) h7 (fun o ho => ?_), h7.below hN⟩
      rw [h6] at ho
      cases ho
      refine ⟨putAll off ys 0 xs, zs, fz, ?_, spl_rep hw h2 (k := 0) hs, ?_, fun _ => h4 _ hB⟩
      · rcases hlen with h8 | h8
        · subst h8; rfl
        · rw [putAll_append _ _ _ _ _ (by omega)]
      · rw [List.length_append, putAll_length, ← List.length_append, h3]
  · cases hh
theorem wr_n {B off : Nat} {ws : List V} {h' : Hp} (hh : wrCells h B off ws = some h') : h.n ≤ h'.n := by
  unfold wrCells at hh
  split at hh
  · cases hc : allCells ws with
    | false => rw [hc] at hh; cases hh
    | true =>
      rw [hc] at hh
      simp only [cond_true, Option.bind_eq_some_iff, Option.some.injEq] at hh
      obtain ⟨r, _, rfl⟩ := hh
      exact Nat.le_refl _
  · cases hh
theorem store_n {ty : TypeId} {a v : V} {h' : Hp} (hs : vstore E h ty a v = some h') : h.n ≤ h'.n := by
  unfold vstore at hs
  split at hs
  · rw [Option.bind_eq_some_iff] at hs
    obtain ⟨i, _, hs⟩ := hs
    cases hc : Nat.beq v.cells.length i.size with
    | false => rw [hc] at hs; cases hs
    | true => rw [hc] at hs; exact wr_n hs
  · cases hs
theorem store_sound (hE : EnvOK P E) (R : Rel N σ h w) {ty : TypeId} {a v : V} {ax vx : Value} {h' : Hp} (hs : vstore E h ty a v = some h') (ha : Rep σ a ax) (hv : Rep σ v vx) :
    ∃ w', (Instr.storeAt ty ax vx).run P w = .ok () w' ∧ Rel N σ h' w' ∧ Below N w w' := by
  unfold vstore at hs
  split at hs
  · cases ha
    rw [Option.bind_eq_some_iff] at hs
    obtain ⟨i, hi, hs⟩ := hs
    obtain ⟨d, inf, T⟩ := hE.is hi
    cases hc : Nat.beq v.cells.length i.size with
    | false => rw [hc] at hs; cases hs
    | true =>
      rw [hc] at hs
      simp only [cond_true] at hs
      have hlen := Nat.eq_of_beq_eq_true hc
      have hr := hv.cells
      obtain ⟨w', h1, h2, h3⟩ := wr_sound (P := P) R ‹_› hr hs
      refine ⟨w', ?_, h2, h3⟩
      have hsz : ¬ vx.cells.size ≠ inf.size := by
        have := hr.length
        rw [hlen, T.size] at this
        simpa using this.symm
      simp only [Instr.storeAt, Instr.sureAddr, storeVar, Sem.run_bind, Sem.run_pure, Result.andThen_ok, run_sizeOf T.info]
      rw [if_neg hsz]
      exact h1
  · cases hs
/-- the cells of what is appended -/
theorem elems_sound (R : Rel N σ h w) {sz n : Nat} {y : V} {yx : Value} {ws : List V} (he : elemsV h sz y = some (ws, n)) (hy : Rep σ y yx) (hb : (∃ s, y = .str s) → sz = 1) :
    ∃ ys, RepL σ ws ys ∧ (Builtin.firstCells sz n yx).run P w = .ok ys.toArray w ∧ (Builtin.lenOf yx).run P w = .ok n w := by
  cases hy <;> simp only [elemsV] at he <;> (try (cases he; done))
  case str s hs =>
    simp only [Option.some.injEq, Prod.mk.injEq] at he
    obtain ⟨rfl, rfl⟩ := he
    refine ⟨s.map fun (b : Nat) => Value.int .u8 (b : Int), ?_, ?_, by simp [Builtin.lenOf, bytesOf_size]⟩
    · clear hb
      induction s with
      | nil => exact .nil
      | cons b s ih => exact .cons _ _ _ _ (.int _ _) (ih (fun z hz => hs z (by simp [hz])))
    · have : ((bytesOf s).extract 0 s.length).data.map (fun b => Value.int .u8 (b.toNat : Int)) = (s.map fun (b : Nat) => Value.int .u8 (b : Int)).toArray := by
        have e : (bytesOf s).extract 0 s.length = bytesOf s := by
          rw [← bytesOf_size s]; simp
        rw [e]
        apply Array.toList_inj.1
        simp only [bytesOf, Array.toList_map, List.map_map]
        apply List.map_congr_left
        intro b hb
        simp [toUInt8_toNat (hs b hb)]
      simp only [Builtin.firstCells, Sem.run_pure, this]
  case nils =>
    simp only [Option.some.injEq, Prod.mk.injEq] at he
    obtain ⟨rfl, rfl⟩ := he
    exact ⟨[], .nil, rfl, rfl⟩
  case emp aa c =>
    simp only [Option.some.injEq, Prod.mk.injEq] at he
    obtain ⟨rfl, rfl⟩ := he
    refine ⟨[], .nil, ?_, rfl⟩
    cases aa with
    | none => rfl
    | some a => show (loadCells a (0 * sz)).run P w = _; rw [Nat.zero_mul]; rfl
  case sl B off len cap b m hσ =>
    simp only [Option.bind_eq_some_iff, Option.some.injEq, Prod.mk.injEq] at he
    obtain ⟨vs, h1, l, h2, rfl, rfl⟩ := he
    obtain ⟨xs, h3, h4⟩ := (R.at_ hσ h1).cells (P := P) h2
    exact ⟨xs, h3, h4, rfl⟩
  case slo B off len lo z b m c hσ _ _ _ =>
    simp only [Option.bind_eq_some_iff, Option.some.injEq, Prod.mk.injEq] at he
    obtain ⟨vs, h1, l, h2, rfl, rfl⟩ := he
    obtain ⟨xs, h3, h4⟩ := (R.at_ hσ h1).cells (P := P) h2
    exact ⟨xs, h3, h4, rfl⟩
theorem elemsW_sound (hE : EnvOK P E) (R : Rel N σ h w) {sz n : Nat} {y : V} {yx : Value} {ws : List V} (he : elemsW E h sz y = some (ws, n)) (hy : Rep σ y yx) (hb : isStr y = true → sz = 1) :
    ∃ ys, RepL σ ws ys ∧ (Builtin.firstCells sz n yx).run P w = .ok ys.toArray w ∧ (Builtin.lenOf yx).run P w = .ok n w := by
  unfold elemsW at he
  split at he
  · rename_i j
    simp only [Option.bind_eq_some_iff, Option.some.injEq, Prod.mk.injEq] at he
    obtain ⟨r, hr, l, hl, rfl, rfl⟩ := he
    obtain rfl : r = .tup l := by
      cases r <;> first | (cases hl; done) | skip
      cases hl
      rfl
    obtain ⟨s, e1, e2⟩ := hE.so.bytes _ _ hr
    have hlen : l.length = s.length := by
      have := congrArg List.length e2
      simpa [bytesV] using this
    have hy2 := den_rep hy
    rw [e1] at hy2
    obtain ⟨ys, h1, h2, h3⟩ := elems_sound (P := P) R (sz := sz) (n := s.length) (ws := bytesV s) rfl hy2 (fun _ => hb rfl)
    rw [hlen]
    exact ⟨ys, repL_den (by rw [e2]; exact h1), h2, h3⟩
  · exact elems_sound R he hy (fun ⟨s, e⟩ => hb (by rw [e]; rfl))
theorem Rel.kill (R : Rel N σ h w) (B : Nat) : Rel N σ (h.set B .dead) w := by
  refine ⟨fun C c m hC => ?_, fun C D c m q hC hD => ?_, fun C c m hC hlt => ?_, R.base, R.tab⟩
  · obtain ⟨h1, h2, k2, h3, h4⟩ := R.has C c m hC
    rw [Hp.get_set]
    split
    · exact ⟨h1, h2, .dead, rfl, fun _ _ => trivial⟩
    · exact ⟨h1, h2, k2, h3, h4⟩
  · rw [Hp.get_set, Hp.get_set]
    rcases R.inj C D c m q hC hD with h1 | h1 | h1
    · exact .inl h1
    · right; left; split
      · rfl
      · exact h1
    · right; right; split
      · rfl
      · exact h1
  · rw [Hp.get_set]
    split
    · exact .inr rfl
    · exact R.old C c m hC hlt
theorem growBy_le (n : Nat) : ∀ r c, Builtin.growBy n r c ≤ 2 ^ r * (c + 192)
  | 0, c => by simp [Builtin.growBy]
  | r + 1, c => by
    rw [Builtin.growBy]
    have hp : 0 < 2 ^ r := Nat.pow_pos (by omega)
    split
    · have : c + 192 ≤ 2 ^ (r + 1) * (c + 192) := Nat.le_mul_of_pos_left _ (Nat.pow_pos (by omega))
      omega
    · refine Nat.le_trans (growBy_le n r _) ?_
      rw [Nat.pow_succ, Nat.mul_assoc]
      exact Nat.mul_le_mul_left _ (by omega)
theorem next_le {need cap : Nat} (h : cap < need) (h2 : need ≤ 1048576) : Builtin.nextslicecap need cap ≤ 33554432 := by
  unfold Builtin.nextslicecap
  split
  · omega
  · split
    · omega
    · have := growBy_le need 4 cap
      omega
theorem zeroCells_len (z : Array Value) (n : Nat) : (Builtin.zeroCells z n).size = n * z.size := by simp [Builtin.zeroCells]
/-- a new row for what grows -/
theorem grow_run {e : TypeId} {j : TI} {d : TypeDesc} {inf : TypeInfo} (T : TyIs P e j d inf) {ts : Array TypeId} {t u : TypeId} {du : TypeDesc} {ty : TypeId} {yx : Value} {base : Option Addr} {len cap n : Nat} {l ws : List V} {xs ys : List Value}
    (h0 : ts[0]? = some t) (h1 : ts[1]? = some u) (ht : P.underlying t = some (.slice e)) (hu : P.underlying u = some du) (hdu : ∀ k, du ≠ .int k) (hok : appOK j (len + n) = true) (hlt : ¬ len + n ≤ cap)
    (hl : RepL σ l xs) (hw : RepL σ ws ys) (hlen : l.length = len * j.size) (hwl : ws.length = n * j.size) (ho : (Builtin.firstCells j.size len (.slice base len cap)).run P { w with drawn := w.drawn + 1 } = .ok xs.toArray { w with drawn := w.drawn + 1 }) (hn : (Builtin.firstCells j.size n yx).run P { w with drawn := w.drawn + 1 } = .ok ys.toArray { w with drawn := w.drawn + 1 })
    (hno : (Builtin.lenOf yx).run P w = .ok n w) : ∃ x w', (Builtin.append_ ts ty #[.slice base len cap, yx]).run P w = .ok x w' ∧ Made σ w (.slo (len + n) j.size) (.cells (l ++ ws) e false) x w' := by
  simp only [appOK, Bool.and_eq_true, ble_d, beq_d, decide_eq_true_iff, Option.isSome_iff_exists] at hok
  obtain ⟨⟨⟨c1, c2⟩, c3⟩, z, hz⟩ := hok
  rw [hz] at c3
  simp only [Option.getD_some] at c3
  obtain ⟨zv, z1, z2⟩ := zero_rep (σ := σ) T hz
  have hzs : zv.cells.size = j.size := by have := z2.length; rw [c3] at this; simpa using this.symm
  let wd : World := { w with drawn := w.drawn + 1 }
  generalize hcap : Question.cut (.appendCap (len + n) cap e) (w.tape w.drawn (.appendCap (len + n) cap e)) = nc
  have hle : len + n ≤ nc := by rw [← hcap]; simp [Question.cut]
  generalize harr : xs.toArray ++ ys.toArray ++ Builtin.zeroCells zv.cells (nc - (len + n)) = arr
  have hx1 := hl.length
  have hy1 := hw.length
  have hsz : arr.size = nc * j.size := by
    rw [← harr]
    simp only [Array.size_append, List.size_toArray, zeroCells_len, ← hx1, ← hy1, hlen, hwl, hzs]
    rw [← Nat.add_mul, ← Nat.add_mul]
    congr 1
    omega
  refine ⟨.slice (some ⟨w.heap.size, 0, none⟩) (len + n) nc, wd.alloc (.cells arr e), ?_, w.heap.size, nc * j.size, Nat.le_refl _, by simp [wd], fun τ B hB => ?_, fun o ho => ?_, ?_⟩
  · have g1 : ((du matches .int _ : Bool)) = false := by cases du <;> first | rfl | exact absurd rfl (hdu _)
    have g2 : ¬ (((len + n : Nat) : Int) > IntKind.i64.max ∧ (false = true ∨ inf.bytes = 0)) := fun ⟨h, _⟩ => by
      have hm : IntKind.i64.max = 9223372036854775807 := by decide
      rw [hm] at h; omega
    have g3 : ¬ Builtin.nextslicecap (len + n) cap * inf.bytes > 2 ^ 48 := by
      have := next_le (by omega : cap < len + n) c1
      have h5 : Builtin.nextslicecap (len + n) cap * inf.bytes ≤ 33554432 * 65536 := Nat.mul_le_mul this (by rw [← T.bytes]; exact c2)
      omega
    unfold Builtin.append_
    simp only [h0, h1, List.getElem?_toArray, List.getElem?_cons_zero, List.getElem?_cons_succ]
    rw [Sem.run_bind, run_underlying ht, Result.andThen_ok]
    simp only [Sem.run_bind, run_sizeOf T.info, Result.andThen_ok, run_underlying hu, Sem.run_pure]
    rw [← T.size]
    have hz2 : ∀ w2 : World, (zeroValue e).run P w2 = .ok zv w2 := fun w2 => run_zeroValue T.info z1
    have hi2 : ∀ w2 : World, (typeInfo e).run P w2 = .ok inf w2 := fun w2 => run_typeInfo T.info
    simp only [Bool.false_eq_true, if_false, Sem.run_bind, hno, Result.andThen_ok, hlt, hi2, false_or, Bool.not_false, if_true]
    rw [if_neg (by simpa using g2), Sem.run_bind, hi2, Result.andThen_ok, if_neg g3]
    simp only [Sem.run_bind, run_choose, Question.forced, Bool.false_eq_true, if_false, Result.andThen_ok, hcap, hi2, run_askRoom, ho, hn, hz2, newRow, run_newObj, Sem.run_pure, harr]
    rfl
  · exact .slo _ _ _ _ _ _ _ _ hB hle (Nat.le_refl _) (by omega)
  · rw [(MapKept.heap_alloc wd (.cells arr e)).1] at ho
    cases ho
    refine ⟨xs ++ ys, (Builtin.zeroCells zv.cells (nc - (len + n))).toList, (0, 0), ?_, hl.append hw, ?_, fun i _ => by simp⟩
    · rw [← harr]
      congr 1
      apply Array.toList_inj.1
      simp
    · rw [← hsz, ← harr]
      simp
      omega
  · exact (Below.refl w.heap.size w).trans ⟨rfl, rfl, rfl, by simp [wd], fun k hk => (MapKept.heap_alloc wd (.cells arr e)).2 k hk⟩
theorem Rel.drewn (R : Rel N σ h w) : Rel N σ h { w with drawn := w.drawn + 1 } := R.world ⟨rfl, rfl, rfl, Nat.le_refl _, fun _ _ => rfl⟩
/-- 'need ≤ cap': in place -/
theorem fit_run {e : TypeId} {j : TI} {d : TypeDesc} {inf : TypeInfo} (T : TyIs P e j d inf) {ts : Array TypeId} {t u : TypeId} {du : TypeDesc} {ty : TypeId} {yx : Value} {b off len cap n : Nat} {ys : List Value}
    (h0 : ts[0]? = some t) (h1 : ts[1]? = some u) (ht : P.underlying t = some (.slice e)) (hu : P.underlying u = some du) (hdu : ∀ k, du ≠ .int k) (hlt : len + n ≤ cap)
    (hn : (Builtin.firstCells j.size n yx).run P w = .ok ys.toArray w) (hno : (Builtin.lenOf yx).run P w = .ok n w) (hst : (storeCells ⟨b, off + len * j.size, none⟩ ys).run P w = .ok () w') :
    (Builtin.append_ ts ty #[.slice (some ⟨b, off, none⟩) len cap, yx]).run P w = .ok (.slice (some ⟨b, off, none⟩) (len + n) cap) w' := by
  unfold Builtin.append_
  simp only [h0, h1, List.getElem?_toArray, List.getElem?_cons_zero, List.getElem?_cons_succ]
  rw [Sem.run_bind, run_underlying ht, Result.andThen_ok]
  simp only [Sem.run_bind, run_sizeOf T.info, Result.andThen_ok, run_underlying hu, Sem.run_pure]
  have g1 : ∀ (A B : Sem Value), (match du with | .int _ => A | _ => B) = B := fun A B => by cases du <;> first | rfl | exact absurd rfl (hdu _)
  rw [← T.size]
  simp only [Bool.false_eq_true, if_false, Sem.run_bind, Sem.run_pure, hno, Result.andThen_ok, hlt, if_true, Bool.not_false, hn, addr_add, hst]
theorem nil_run {e : TypeId} {j : TI} {d : TypeDesc} {inf : TypeInfo} (T : TyIs P e j d inf) {ts : Array TypeId} {t u : TypeId} {du : TypeDesc} {ty : TypeId} {yx : Value} {ys : List Value}
    (h0 : ts[0]? = some t) (h1 : ts[1]? = some u) (ht : P.underlying t = some (.slice e)) (hu : P.underlying u = some du) (hdu : ∀ k, du ≠ .int k)
    (hn : (Builtin.firstCells j.size 0 yx).run P w = .ok ys.toArray w) (hno : (Builtin.lenOf yx).run P w = .ok 0 w) :
    (Builtin.append_ ts ty #[.slice none 0 0, yx]).run P w = .ok (.slice none 0 0) w := by
  unfold Builtin.append_
  simp only [h0, h1, List.getElem?_toArray, List.getElem?_cons_zero, List.getElem?_cons_succ]
  rw [Sem.run_bind, run_underlying ht, Result.andThen_ok]
  simp only [Sem.run_bind, run_sizeOf T.info, Result.andThen_ok, run_underlying hu, Sem.run_pure]
  rw [← T.size]
  simp only [Bool.false_eq_true, if_false, Sem.run_bind, Sem.run_pure, hno, Result.andThen_ok, Nat.le_refl, Nat.add_zero, if_true, Bool.not_false, hn]
theorem putAll_at : ∀ (ys : List Value) (off k : Nat) (xs zs : List Value), xs.length = off + k → ys.length ≤ zs.length → putAll off ys k (xs ++ zs) = xs ++ ys ++ zs.drop ys.length
  | [], _, _, _, _, _, _ => by simp [putAll]
  | y :: ys, off, k, xs, [], _, h => by simp at h
  | y :: ys, off, k, xs, z :: zs, h1, h2 => by
    rw [putAll]
    have e : (xs ++ z :: zs).set (off + k) y = (xs ++ [y]) ++ zs := by
      rw [List.set_append_right _ _ (by omega), h1]
      simp
    rw [e, putAll_at ys off (k + 1) (xs ++ [y]) zs (by simp; omega) (by simpa using h2)]
    simp
/-- what a block had goes on as another block's, in the same place -/
theorem Rel.move (R : Rel N σ h w) {B b m : Nat} (e : σ B = some (b, m)) {k k' : Blk} (hk : h.t.get B = some k) (hd : k ≠ .dead) (hro : ∀ vs el, k ≠ .cells vs el true) (hc : Chg w w' b)
    (hb : ∀ o, w'.heap[b]? = some o → RepB σ m k' o) : Rel N (σ.put h.n (b, m)) ((h.new k').set B .dead) w' ∧ N ≤ b := by
  have hN : N ≤ b := by
    rcases Nat.lt_or_ge b N with h1 | h1
    · rcases R.old B b m e h1 with ⟨vs, el, h2⟩ | h2
      · rw [hk] at h2; injection h2 with h2; exact absurd h2 (hro vs el)
      · rw [hk] at h2; injection h2 with h2; exact absurd h2 hd
    · exact h1
  have hle : Mp.le σ (σ.put h.n (b, m)) := Mp.le_put R.free
  have hBn : B < h.n := (R.has B b m e).1
  have key : ∀ C c q, (σ.put h.n (b, m)) C = some (c, q) → (C = h.n ∧ c = b ∧ q = m) ∨ (C ≠ h.n ∧ σ C = some (c, q)) := fun C c q hC => by
    unfold Mp.put at hC
    split at hC
    · rename_i e; cases hC; exact .inl ⟨e, rfl, rfl⟩
    · rename_i e; exact .inr ⟨e, hC⟩
  have hg : ∀ C, ((h.new k').set B .dead).t.get C = if C = B then some .dead else if C = h.n then some k' else h.t.get C := fun C => by rw [Hp.get_set, Hp.get_new]
  have other : ∀ C c q, σ C = some (c, q) → C ≠ B → c ≠ b ∨ h.t.get C = some .dead := fun C c q hC hne => by
    by_cases hcb : c = b
    · subst hcb
      rcases R.inj C B c q m hC e with h5 | h5 | h5
      · exact absurd h5 hne
      · exact .inr h5
      · rw [hk] at h5; injection h5 with h5; exact absurd h5 hd
    · exact .inl hcb
  refine ⟨⟨fun C c q hC => ?_, fun C D c q q' hC hD => ?_, fun C c q hC hlt => ?_, by rw [hc.size]; exact R.base, fun p hp => ⟨(R.tab p hp).1, (hc.other _ (by have := (R.tab p hp).1; omega)).trans (R.tab p hp).2⟩⟩, hN⟩
  · rw [hg]
    rcases key C c q hC with ⟨rfl, rfl, rfl⟩ | ⟨h1, h2⟩
    · refine ⟨Nat.lt_succ_self _, by rw [hc.size]; exact (R.has B c q e).2.1, k', ?_, fun o ho => (hb o ho).mono hle⟩
      rw [if_neg (by omega), if_pos rfl]
    · obtain ⟨h3, h4, k2, h5, h6⟩ := R.has C c q h2
      refine ⟨Nat.lt_succ_of_lt h3, by rw [hc.size]; exact h4, ?_⟩
      by_cases hCB : C = B
      · exact ⟨.dead, by rw [if_pos hCB], fun _ _ => trivial⟩
      · refine ⟨k2, by rw [if_neg hCB, if_neg h1]; exact h5, fun o ho => ?_⟩
        rcases other C c q h2 hCB with h7 | h7
        · rw [hc.other c h7] at ho; exact (h6 o ho).mono hle
        · rw [h5] at h7; cases h7; trivial
  · rw [hg, hg]
    rcases key C c q hC with ⟨rfl, rfl, rfl⟩ | ⟨h1, h2⟩ <;> rcases key D c q' hD with ⟨e1, e2, e3⟩ | ⟨h3, h4⟩
    · exact .inl e1.symm
    · right; right
      by_cases hDB : D = B
      · rw [if_pos hDB]
      · rcases other D c q' h4 hDB with h7 | h7
        · exact absurd rfl h7
        · rw [if_neg hDB, if_neg h3]; exact h7
    · subst e2
      right; left
      by_cases hCB : C = B
      · rw [if_pos hCB]
      · rcases other C c q h2 hCB with h7 | h7
        · exact absurd rfl h7
        · rw [if_neg hCB, if_neg h1]; exact h7
    · rcases R.inj C D c q q' h2 h4 with h5 | h5 | h5
      · exact .inl h5
      · right; left; split
        · rfl
        · exact h5
      · right; right; split
        · rfl
        · exact h5
  · rw [hg]
    rcases key C c q hC with ⟨rfl, rfl, rfl⟩ | ⟨h1, h2⟩
    · omega
    · split
      · exact .inr rfl
      · exact R.old C c q h2 hlt
theorem elems_len {sz n : Nat} {y : V} {ws : List V} (he : elemsV h sz y = some (ws, n)) (hb : isStr y = true → sz = 1) : ws.length = n * sz := by
  cases y <;> simp only [elemsV] at he <;> (try (cases he; done))
  case str s =>
    simp only [Option.some.injEq, Prod.mk.injEq] at he
    obtain ⟨rfl, rfl⟩ := he
    rw [hb rfl]
    simp [bytesV]
  case nils =>
    simp only [Option.some.injEq, Prod.mk.injEq] at he
    obtain ⟨rfl, rfl⟩ := he
    simp
  case emp =>
    simp only [Option.some.injEq, Prod.mk.injEq] at he
    obtain ⟨rfl, rfl⟩ := he
    simp
  case sl =>
    simp only [Option.bind_eq_some_iff, Option.some.injEq, Prod.mk.injEq] at he
    obtain ⟨vs, _, l, h2, rfl, rfl⟩ := he
    exact (sub_some h2).2.1
  case slo =>
    simp only [Option.bind_eq_some_iff, Option.some.injEq, Prod.mk.injEq] at he
    obtain ⟨vs, _, l, h2, rfl, rfl⟩ := he
    exact (sub_some h2).2.1
theorem elemsW_len {sz n : Nat} {y : V} {ws : List V} (he : elemsW E h sz y = some (ws, n)) (hb : isStr y = true → sz = 1) : ws.length = n * sz := by
  unfold elemsW at he
  split at he
  · simp only [Option.bind_eq_some_iff, Option.some.injEq, Prod.mk.injEq] at he
    obtain ⟨r, _, l, _, rfl, rfl⟩ := he
    rw [hb rfl, Nat.mul_one]
  · exact elems_len he hb
/-- noughts: a new row -/
theorem zgrow_run {e : TypeId} {j : TI} {d : TypeDesc} {inf : TypeInfo} (T : TyIs P e j d inf) {ts : Array TypeId} {t u : TypeId} {k : IntKind} {ty : TypeId} {base : Option Addr} {len cap n : Nat} {l : List V} {xs : List Value}
    (h0 : ts[0]? = some t) (h1 : ts[1]? = some u) (ht : P.underlying t = some (.slice e)) (hu : P.underlying u = some (.int k)) (hok : appOK j (len + n) = true) (hlt : ¬ len + n ≤ cap)
    (hl : RepL σ l xs) (hlen : l.length = len * j.size) (ho : (Builtin.firstCells j.size len (.slice base len cap)).run P { w with drawn := w.drawn + 1 } = .ok xs.toArray { w with drawn := w.drawn + 1 }) :
    ∃ x w', (Builtin.append_ ts ty #[.slice base len cap, .int .i64 n]).run P w = .ok x w' ∧ Made σ w (.slo (len + n) j.size) (.cells (l ++ rep n (j.zero.getD [])) e false) x w' := by
  simp only [appOK, Bool.and_eq_true, ble_d, beq_d, decide_eq_true_iff, Option.isSome_iff_exists] at hok
  obtain ⟨⟨⟨c1, c2⟩, c3⟩, z, hz⟩ := hok
  rw [hz] at c3 ⊢
  simp only [Option.getD_some] at c3 ⊢
  obtain ⟨zv, z1, z2⟩ := zero_rep (σ := σ) T hz
  have hzs : zv.cells.size = j.size := by have := z2.length; rw [c3] at this; simpa using this.symm
  let wd : World := { w with drawn := w.drawn + 1 }
  generalize hcap : Question.cut (.appendCap (len + n) cap e) (w.tape w.drawn (.appendCap (len + n) cap e)) = nc
  have hle : len + n ≤ nc := by rw [← hcap]; simp [Question.cut]
  have hw := rep_rep z2 n
  have hrr : (Builtin.zeroCells zv.cells n) = (repX n zv.cells.toList).toArray := range_rep zv.cells n
  have hwl : (repX n zv.cells.toList).length = n * j.size := by rw [repX_length]; simp [hzs]
  have happ : (if n * j.size = 0 then (#[] : Array Value) else Builtin.zeroCells zv.cells n) = (repX n zv.cells.toList).toArray := by
    split
    · rename_i h; rw [h] at hwl; rw [List.length_eq_zero_iff.1 hwl]
    · exact hrr
  generalize repX n zv.cells.toList = ys at hw hrr hwl happ
  generalize harr : xs.toArray ++ ys.toArray ++ Builtin.zeroCells zv.cells (nc - (len + n)) = arr
  have hx1 := hl.length
  have hsz : arr.size = nc * j.size := by
    rw [← harr]
    simp only [Array.size_append, List.size_toArray, zeroCells_len, ← hx1, hlen, hwl, hzs]
    rw [← Nat.add_mul, ← Nat.add_mul]
    congr 1
    omega
  refine ⟨.slice (some ⟨w.heap.size, 0, none⟩) (len + n) nc, wd.alloc (.cells arr e), ?_, w.heap.size, nc * j.size, Nat.le_refl _, by simp [wd], fun τ B hB => ?_, fun o ho => ?_, ?_⟩
  · have hm : IntKind.i64.max = 9223372036854775807 := by decide
    have g2 : ¬ (((len + n : Nat) : Int) > IntKind.i64.max) := fun h => by rw [hm] at h; omega
    have g3 : ¬ Builtin.nextslicecap (len + n) cap * inf.bytes > 2 ^ 48 := by
      have := next_le (by omega : cap < len + n) c1
      have h5 : Builtin.nextslicecap (len + n) cap * inf.bytes ≤ 33554432 * 65536 := Nat.mul_le_mul this (by rw [← T.bytes]; exact c2)
      omega
    have g4 : IntKind.i64.wrap (n : Int) = n := Go.IntWalk.i64_in _ (by omega)
    have g5 : ¬ ((n : Int) < 0) := by omega
    have g6 : ¬ ((n : Int) * (inf.bytes : Int) > 2 ^ 48) := by
      have h5 : n * inf.bytes ≤ 1048576 * 65536 := Nat.mul_le_mul (by omega) (by rw [← T.bytes]; exact c2)
      have h6 : ((n * inf.bytes : Nat) : Int) ≤ ((1048576 * 65536 : Nat) : Int) := Int.ofNat_le.2 h5
      rw [Int.natCast_mul] at h6
      omega
    unfold Builtin.append_
    simp only [h0, h1, List.getElem?_toArray, List.getElem?_cons_zero, List.getElem?_cons_succ]
    rw [Sem.run_bind, run_underlying ht, Result.andThen_ok]
    simp only [Sem.run_bind, run_sizeOf T.info, Result.andThen_ok, run_underlying hu, Sem.run_pure]
    rw [← T.size]
    have hz2 : ∀ w2 : World, (zeroValue e).run P w2 = .ok zv w2 := fun w2 => run_zeroValue T.info z1
    have hi2 : ∀ w2 : World, (typeInfo e).run P w2 = .ok inf w2 := fun w2 => run_typeInfo T.info
    simp only [if_true, asInt, asIntOf, Sem.run_pure, Sem.run_bind, Result.andThen_ok, g4, g5, if_false, hi2, g6, Int.toNat_natCast, hlt, Bool.not_true, Bool.false_eq_true, true_or, and_true]
    rw [if_neg g2, Sem.run_bind, hi2, Result.andThen_ok, if_neg g3]
    have hap2 : ∀ w2 : World, (if n * j.size = 0 then (pure #[] : Sem (Array Value)) else do let z ← zeroValue e; pure (Builtin.zeroCells z.cells n)).run P w2 = .ok ys.toArray w2 := fun w2 => by
      rw [← happ]
      split
      · rw [Sem.run_pure]
      · rw [Sem.run_bind, hz2, Result.andThen_ok, Sem.run_pure]
    simp only [Sem.run_bind, run_choose, Question.forced, Bool.false_eq_true, if_false, Result.andThen_ok, hcap, hi2, run_askRoom, ho, hap2, hz2, newRow, run_newObj, Sem.run_pure, harr]
    rfl
  · exact .slo _ _ _ _ _ _ _ _ hB hle (Nat.le_refl _) (by omega)
  · rw [(MapKept.heap_alloc wd (.cells arr e)).1] at ho
    cases ho
    refine ⟨xs ++ ys, (Builtin.zeroCells zv.cells (nc - (len + n))).toList, (0, 0), ?_, hl.append hw, ?_, fun i _ => by simp⟩
    · rw [← harr]
      congr 1
      apply Array.toList_inj.1
      simp
    · rw [← hsz, ← harr]
      simp
      omega
  · exact (Below.refl w.heap.size w).trans ⟨rfl, rfl, rfl, by simp [wd], fun k hk => (MapKept.heap_alloc wd (.cells arr e)).2 k hk⟩
/-- noughts: in place -/
theorem zfit_run {e : TypeId} {j : TI} {d : TypeDesc} {inf : TypeInfo} (T : TyIs P e j d inf) {ts : Array TypeId} {t u : TypeId} {k : IntKind} {ty : TypeId} {b off len cap n : Nat} {zv : Value}
    (h0 : ts[0]? = some t) (h1 : ts[1]? = some u) (ht : P.underlying t = some (.slice e)) (hu : P.underlying u = some (.int k)) (hok : appOK j (len + n) = true) (hlt : len + n ≤ cap)
    (z1 : inf.zero = some zv) (hzs : zv.cells.size = j.size) (hst : (storeCells ⟨b, off + len * j.size, none⟩ (repX n zv.cells.toList)).run P w = .ok () w') :
    (Builtin.append_ ts ty #[.slice (some ⟨b, off, none⟩) len cap, .int .i64 n]).run P w = .ok (.slice (some ⟨b, off, none⟩) (len + n) cap) w' := by
  simp only [appOK, Bool.and_eq_true, ble_d, beq_d, decide_eq_true_iff, Option.isSome_iff_exists] at hok
  obtain ⟨⟨⟨c1, c2⟩, c3⟩, z, hz⟩ := hok
  have hrr : (Builtin.zeroCells zv.cells n) = (repX n zv.cells.toList).toArray := range_rep zv.cells n
  have hwl : (repX n zv.cells.toList).length = n * j.size := by rw [repX_length]; simp [hzs]
  have happ : (if n * j.size = 0 then (#[] : Array Value) else Builtin.zeroCells zv.cells n) = (repX n zv.cells.toList).toArray := by
    split
    · rename_i h; rw [h] at hwl; rw [List.length_eq_zero_iff.1 hwl]
    · exact hrr
  generalize repX n zv.cells.toList = ys at hrr hwl happ hst
  have g4 : IntKind.i64.wrap (n : Int) = n := Go.IntWalk.i64_in _ (by omega)
  have g5 : ¬ ((n : Int) < 0) := by omega
  have g6 : ¬ ((n : Int) * (inf.bytes : Int) > 2 ^ 48) := by
    have h5 : n * inf.bytes ≤ 1048576 * 65536 := Nat.mul_le_mul (by omega) (by rw [← T.bytes]; exact c2)
    have h6 : ((n * inf.bytes : Nat) : Int) ≤ ((1048576 * 65536 : Nat) : Int) := Int.ofNat_le.2 h5
    rw [Int.natCast_mul] at h6
    omega
  unfold Builtin.append_
  simp only [h0, h1, List.getElem?_toArray, List.getElem?_cons_zero, List.getElem?_cons_succ]
  rw [Sem.run_bind, run_underlying ht, Result.andThen_ok]
  simp only [Sem.run_bind, run_sizeOf T.info, Result.andThen_ok, run_underlying hu, Sem.run_pure]
  rw [← T.size]
  have hz2 : ∀ w2 : World, (zeroValue e).run P w2 = .ok zv w2 := fun w2 => run_zeroValue T.info z1
  have hi2 : ∀ w2 : World, (typeInfo e).run P w2 = .ok inf w2 := fun w2 => run_typeInfo T.info
  simp only [if_true, asInt, asIntOf, Sem.run_pure, Sem.run_bind, Result.andThen_ok, g4, g5, if_false, hi2, g6, Int.toNat_natCast, hlt, Bool.not_true, Bool.false_eq_true]
  have hap2 : ∀ w2 : World, (if n * j.size = 0 then (pure #[] : Sem (Array Value)) else do let z ← zeroValue e; pure (Builtin.zeroCells z.cells n)).run P w2 = .ok ys.toArray w2 := fun w2 => by
    rw [← happ]
    split
    · rw [Sem.run_pure]
    · rw [Sem.run_bind, hz2, Result.andThen_ok, Sem.run_pure]
  simp only [hap2, Result.andThen_ok, addr_add, hst]
theorem append_sound (hE : EnvOK P E) (R : Rel N σ h w) {ts : Array TypeId} {ty : TypeId} {x y v : V} {xx yx : Value} {h' : Hp} (hc : vappend E h ts x y = some (v, h')) (hx : Rep σ x xx) (hy : Rep σ y yx) :
    ∃ r w', (Builtin.append_ ts ty #[xx, yx]).run P w = .ok r w' ∧ Does N σ h w v h' r w' := by
  simp only [vappend, Option.bind_eq_some_iff] at hc
  obtain ⟨t, h0, u, h1, iu, hiu, i, hi, hc⟩ := hc
  obtain ⟨du, infu, Tu⟩ := hE.is hiu
  obtain ⟨d, inf, T⟩ := hE.is hi
  split at hc
  · rename_i k e hk hk1
    rw [T.k] at hk1
    obtain rfl := kOf_sl hk1.symm
    rw [Tu.k] at hk
    obtain rfl := kOf_int hk.symm
    rw [Option.bind_eq_some_iff] at hc
    obtain ⟨j, hj, hc⟩ := hc
    obtain ⟨d2, inf2, T2⟩ := hE.is hj
    split at hc
    · rename_i n
      cases hy
      unfold zappTo at hc
      split at hc
      · rename_i B off len cap
        cases hx with
        | sl _ _ _ _ b m hσ =>
          cases hok : appOK j (len + n) with
          | false => rw [hok] at hc; cases hc
          | true =>
            rw [hok] at hc
            simp only [cond_true] at hc
            cases hle : Nat.ble (len + n) cap with
            | true =>
              rw [hle] at hc
              simp only [cond_true, Option.bind_eq_some_iff, Option.some.injEq, Prod.mk.injEq] at hc
              obtain ⟨h2, hwr, rfl, rfl⟩ := hc
              have hok2 := hok
              simp only [appOK, Bool.and_eq_true, ble_d, beq_d, decide_eq_true_iff, Option.isSome_iff_exists] at hok2
              obtain ⟨⟨⟨c1, c2⟩, c3⟩, z, hz⟩ := hok2
              rw [hz] at c3 hwr
              simp only [Option.getD_some] at c3 hwr
              obtain ⟨zv, z1, z2⟩ := zero_rep (σ := σ) T2 hz
              have hzs : zv.cells.size = j.size := by have := z2.length; rw [c3] at this; simpa using this.symm
              obtain ⟨w', h3, h4, h5⟩ := wr_sound (P := P) R hσ (rep_rep z2 n) hwr
              exact ⟨_, w', zfit_run T2 h0 h1 T.und Tu.und hok (Nat.le_of_ble_eq_true hle) z1 hzs h3, .stay (.sl _ _ _ _ _ _ hσ) h4 h5 (wr_n hwr)⟩
            | false =>
              rw [hle] at hc
              simp only [cond_false, Option.bind_eq_some_iff, Option.some.injEq, Prod.mk.injEq] at hc
              obtain ⟨vs, h2, l, h3, rfl, rfl⟩ := hc
              obtain ⟨xs, h4, h5⟩ := (R.drewn.at_ hσ h2).cells (P := P) h3
              obtain ⟨r, w', h6, h7⟩ := zgrow_run (σ := σ) (ty := ty) (cap := cap) (base := some ⟨b, off, none⟩) T2 h0 h1 T.und Tu.und hok (fun h => by rw [ble_d] at hle; simp at hle; omega) h4 (sub_some h3).2.1 h5
              exact ⟨r, w', h6, R.made h7⟩
      · cases hc
    · cases hc
  · cases hc
  · rename_i e hk hk1
    rw [T.k] at hk
    obtain rfl := kOf_sl hk.symm
    have hdu : ∀ k, du ≠ .int k := fun k e => by subst e; exact hk1 k (by rw [Tu.k]; rfl)
    rw [Option.bind_eq_some_iff] at hc
    obtain ⟨j, hj, hc⟩ := hc
    obtain ⟨d2, inf2, T2⟩ := hE.is hj
    cases hs : (!isStr y || Nat.beq j.size 1) with
    | false => rw [hs] at hc; cases hc
    | true =>
      rw [hs] at hc
      simp only [cond_true, Option.bind_eq_some_iff] at hc
      obtain ⟨⟨ws, n⟩, he, hc⟩ := hc
      have hb : isStr y = true → j.size = 1 := fun e => by
        rw [e] at hs
        simpa [beq_d] using hs
      have hwl := elemsW_len he hb
      obtain ⟨ys, hw, hn, hno⟩ := elemsW_sound (P := P) hE R he hy hb
      obtain ⟨ys', hw', hn', _⟩ := elemsW_sound (P := P) hE R.drewn he hy hb
      unfold appTo at hc
      cases hx <;> simp only at hc <;> (try (cases hc; done))
      case nils =>
        cases hz : Nat.beq n 0 with
        | true =>
          rw [hz] at hc
          simp only [cond_true, Option.some.injEq, Prod.mk.injEq] at hc
          obtain ⟨rfl, rfl⟩ := hc
          obtain rfl := Nat.eq_of_beq_eq_true hz
          exact ⟨_, w, nil_run T2 h0 h1 T.und Tu.und hdu hn hno, .stay .nils R (Below.refl _ _) (Nat.le_refl _)⟩
        | false =>
          rw [hz] at hc
          simp only [cond_false] at hc
          cases hok : appOK j n with
          | false => rw [hok] at hc; cases hc
          | true =>
            rw [hok] at hc
            simp only [cond_true, Option.some.injEq, Prod.mk.injEq] at hc
            obtain ⟨rfl, rfl⟩ := hc
            have hpos : ¬ 0 + n ≤ 0 := fun h => by rw [beq_d] at hz; simp at hz; omega
            obtain ⟨r, w', h2, h3⟩ := grow_run (σ := σ) (len := 0) (l := []) (xs := []) (ty := ty) (base := none) T2 h0 h1 T.und Tu.und hdu (by rw [Nat.zero_add]; exact hok) hpos .nil hw' (by simp) hwl rfl hn' hno
            rw [Nat.zero_add] at h3
            exact ⟨r, w', h2, R.made h3⟩
      case sl B off len cap b m hσ =>
        cases hle : Nat.ble (len + n) cap with
        | true =>
          rw [hle] at hc
          simp only [cond_true, Option.bind_eq_some_iff, Option.some.injEq, Prod.mk.injEq] at hc
          obtain ⟨h2, hwr, rfl, rfl⟩ := hc
          obtain ⟨w', h3, h4, h5⟩ := wr_sound (P := P) R hσ hw hwr
          exact ⟨_, w', fit_run T2 h0 h1 T.und Tu.und hdu (Nat.le_of_ble_eq_true hle) hn hno h3, .stay (.sl _ _ _ _ _ _ hσ) h4 h5 (wr_n hwr)⟩
        | false =>
          rw [hle] at hc
          simp only [cond_false] at hc
          cases hok : appOK j (len + n) with
          | false => rw [hok] at hc; cases hc
          | true =>
            rw [hok] at hc
            simp only [cond_true, Option.bind_eq_some_iff, Option.some.injEq, Prod.mk.injEq] at hc
            obtain ⟨vs, h2, l, h3, rfl, rfl⟩ := hc
            obtain ⟨xs, h4, h5⟩ := (R.drewn.at_ hσ h2).cells (P := P) h3
            obtain ⟨r, w', h6, h7⟩ := grow_run (σ := σ) (ty := ty) (cap := cap) (base := some ⟨b, off, none⟩) T2 h0 h1 T.und Tu.und hdu hok (fun h => by rw [ble_d] at hle; simp at hle; omega) h4 hw' (sub_some h3).2.1 hwl h5 hn' hno
            exact ⟨r, w', h6, R.made h7⟩
      case slo B off len lo sz b m c hσ hlc hll hm =>
        cases hsz : Nat.beq sz j.size with
        | false => rw [hsz] at hc; cases hc
        | true =>
          rw [hsz] at hc
          simp only [cond_true] at hc
          obtain rfl := Nat.eq_of_beq_eq_true hsz
          cases hle : Nat.ble (len + n) lo with
          | true =>
            rw [hle] at hc
            simp only [cond_true, Option.bind_eq_some_iff, Option.some.injEq, Prod.mk.injEq] at hc
            obtain ⟨h2, hwr, rfl, rfl⟩ := hc
            obtain ⟨w', h3, h4, h5⟩ := wr_sound (P := P) R hσ hw hwr
            have hle2 := Nat.le_of_ble_eq_true hle
            exact ⟨_, w', fit_run T2 h0 h1 T.und Tu.und hdu (by omega) hn hno h3, .stay (.slo _ _ _ _ _ _ _ _ hσ hlc hle2 hm) h4 h5 (wr_n hwr)⟩
          | false =>
            rw [hle] at hc
            simp only [cond_false] at hc
            cases hok : (Nat.beq off 0 && appOK j (len + n)) with
            | false => rw [hok] at hc; cases hc
            | true =>
              rw [hok] at hc
              simp only [cond_true] at hc
              rw [Bool.and_eq_true] at hok
              obtain rfl := Nat.eq_of_beq_eq_true hok.1
              unfold grow at hc
              split at hc
              · rename_i vs el hB
                cases hq : (Nat.beq vs.length (len * j.size) && Nat.beq el e && allCells ws) with
                | false => rw [hq] at hc; cases hc
                | true =>
                  rw [hq] at hc
                  simp only [cond_true, Option.some.injEq, Prod.mk.injEq] at hc
                  obtain ⟨rfl, rfl⟩ := hc
                  simp only [Bool.and_eq_true, beq_d, decide_eq_true_iff] at hq
                  obtain ⟨⟨hvl, rfl⟩, hcell⟩ := hq
                  by_cases hfit : len + n ≤ c
                  · obtain ⟨el', xs, zs, fz, g1, g2, g3, g4⟩ := R.cells hσ (vs := vs) (by unfold rdCells; rw [hB])
                    have hx1 := g2.length
                    have hy1 := hw.length
                    have hcm : (len + n) * j.size ≤ m := by
                      have := Nat.mul_le_mul_right j.size hfit
                      omega
                    have hyz : ys.length ≤ zs.length := by
                      rw [List.length_append] at g3
                      rw [Nat.add_mul] at hcm
                      omega
                    have hel : el' = el := by
                      obtain ⟨_, hb', k, hk, ho⟩ := R.has B b m hσ
                      rw [hB] at hk
                      cases hk
                      obtain ⟨xs', ys', fz', e1, _⟩ := (ho _ g1).out
                      injection e1 with _ e2
                    subst hel
                    obtain ⟨w', k1, k2, k3⟩ := store_run (P := P) (b := b) (off := len * j.size) (el := el') (fz := fz) ys 0 (xs ++ zs) w g1 (fun i hi => g4 _ hB i (by rw [← g3]; exact hi)) (.inr (by simp; omega)) (allCells_rep hcell hw)
                    have hput := putAll_at ys (len * j.size) 0 xs zs (by omega) hyz
                    rw [hput] at k2
                    obtain ⟨m1, m2⟩ := R.move (k' := .cells (vs ++ ws) el' false) hσ hB (by simp) (by simp) k3 (fun o ho => by
                      rw [k2] at ho
                      cases ho
                      refine ⟨xs ++ ys, zs.drop ys.length, fz, rfl, g2.append hw, ?_, fun _ => g4 _ hB⟩
                      rw [← g3]
                      simp
                      omega)
                    refine ⟨_, w', fit_run T2 h0 h1 T.und Tu.und hdu hfit hn hno (by simpa using k1), σ.put h.n (b, m), Mp.Ext.put R.free (Nat.le_refl _), Nat.le_succ _, .slo _ _ _ _ _ _ _ _ (Mp.put_same _ _ _) hfit (Nat.le_refl _) hm, m1, k3.below m2⟩
                  · have hsub : sub vs 0 (len * j.size) = some vs := by
                      unfold sub
                      simp [List.take_of_length_le (Nat.le_of_eq hvl), hvl]
                    obtain ⟨xs, h4, h5⟩ := (R.drewn.at_ hσ (vs := vs) (by unfold rdCells; rw [hB])).cells (P := P) hsub
                    obtain ⟨r, w', h6, h7⟩ := grow_run (σ := σ) (ty := ty) (base := some ⟨b, 0, none⟩) T2 h0 h1 T.und Tu.und hdu hok.2 hfit h4 hw' hvl hwl h5 hn' hno
                    obtain ⟨σ', h8, hn8, h9, h10, h11⟩ := R.made h7
                    exact ⟨r, w', h6, σ', h8, hn8, h9, h10.kill B, h11⟩
              · cases hc
  · cases hc
theorem sub_take {vs l : List V} {off m n : Nat} (h : sub vs off m = some l) (hn : n ≤ m) : sub vs off n = some (l.take n) := by
  obtain ⟨h1, h2, _⟩ := sub_some h
  subst h1
  unfold sub
  simp only [List.length_take, List.length_drop] at h2
  have e : ((vs.drop off).take n).length = n := by simp only [List.length_take, List.length_drop]; omega
  rw [List.take_take, Nat.min_eq_left hn]
  simp only [e, Nat.beq_refl, cond_true]
/-- the first cells of what is copied -/
theorem elems_take (R : Rel N σ h w) {sz n m : Nat} {y : V} {yx : Value} {ws : List V} (he : elemsV h sz y = some (ws, n)) (hy : Rep σ y yx) (hb : isStr y = false) (hm : m ≤ n) :
    ∃ ys, RepL σ (ws.take (m * sz)) ys ∧ (Builtin.firstCells sz m yx).run P w = .ok ys.toArray w ∧ (Builtin.lenOf yx).run P w = .ok n w := by
  cases hy <;> simp only [elemsV] at he <;> (try (cases he; done)) <;> (try (cases hb; done))
  case nils =>
    simp only [Option.some.injEq, Prod.mk.injEq] at he
    obtain ⟨rfl, rfl⟩ := he
    exact ⟨[], by simpa using .nil, rfl, rfl⟩
  case emp aa c =>
    simp only [Option.some.injEq, Prod.mk.injEq] at he
    obtain ⟨rfl, rfl⟩ := he
    obtain rfl : m = 0 := by omega
    refine ⟨[], by simpa using .nil, ?_, rfl⟩
    cases aa with
    | none => rfl
    | some a => show (loadCells a (0 * sz)).run P w = _; rw [Nat.zero_mul]; rfl
  case sl B off len cap b k hσ =>
    simp only [Option.bind_eq_some_iff, Option.some.injEq, Prod.mk.injEq] at he
    obtain ⟨vs, h1, l, h2, rfl, rfl⟩ := he
    obtain ⟨xs, h3, h4⟩ := (R.at_ hσ h1).cells (P := P) (sub_take h2 (Nat.mul_le_mul_right sz hm))
    exact ⟨xs, h3, h4, rfl⟩
  case slo B off len lo z b k c hσ _ _ _ =>
    simp only [Option.bind_eq_some_iff, Option.some.injEq, Prod.mk.injEq] at he
    obtain ⟨vs, h1, l, h2, rfl, rfl⟩ := he
    obtain ⟨xs, h3, h4⟩ := (R.at_ hσ h1).cells (P := P) (sub_take h2 (Nat.mul_le_mul_right sz hm))
    exact ⟨xs, h3, h4, rfl⟩
theorem copy_sound (hE : EnvOK P E) (R : Rel N σ h w) {ts : Array TypeId} {ty : TypeId} {x y v : V} {xx yx : Value} {h' : Hp} (hc : vcopy E h ts x y = some (v, h')) (hx : Rep σ x xx) (hy : Rep σ y yx) :
    ∃ r w', (Builtin.copy_ ts ty #[xx, yx]).run P w = .ok r w' ∧ Does N σ h w v h' r w' := by
  simp only [vcopy, Option.bind_eq_some_iff] at hc
  obtain ⟨t, h0, i, hi, hc⟩ := hc
  obtain ⟨d, inf, T⟩ := hE.is hi
  split at hc
  · rename_i e hk
    rw [T.k] at hk
    obtain rfl := kOf_sl hk.symm
    rw [Option.bind_eq_some_iff] at hc
    obtain ⟨j, hj, hc⟩ := hc
    obtain ⟨d2, inf2, T2⟩ := hE.is hj
    cases hs : isStr y with
    | true => rw [hs] at hc; cases hc
    | false =>
      rw [hs] at hc
      simp only [cond_false, Option.bind_eq_some_iff] at hc
      obtain ⟨⟨ws, n⟩, he, hc⟩ := hc
      simp only at hc
      unfold copyTo at hc
      have go : ∀ (B off len cap b m : Nat), σ B = some (b, m) → ((wrCells h B off (ws.take (min n len * j.size))).bind fun h' => some (mkInt .i64 (.ofNat (min n len)), h')) = some (v, h') →
          ∃ r w', (Builtin.copy_ ts ty #[.slice (some ⟨b, off, none⟩) len cap, yx]).run P w = .ok r w' ∧ Does N σ h w v h' r w' := by
        intro B off len cap b m hσ hc
        simp only [Option.bind_eq_some_iff, Option.some.injEq, Prod.mk.injEq] at hc
        obtain ⟨h2, hwr, rfl, rfl⟩ := hc
        obtain ⟨ys, g1, g2, g3⟩ := elems_take (P := P) R he hy hs (Nat.min_le_left n len)
        obtain ⟨w', g4, g5, g6⟩ := wr_sound (P := P) R hσ g1 hwr
        refine ⟨.int .i64 (min n len : Nat), w', ?_, .stay (by rw [mkInt_eq]; exact .int _ _) g5 g6 (wr_n hwr)⟩
        simp only [Builtin.copy_, h0, List.getElem?_toArray, List.getElem?_cons_zero, List.getElem?_cons_succ]
        rw [Sem.run_bind, run_underlying T.und, Result.andThen_ok]
        simp only [Sem.run_bind, run_sizeOf T2.info, Result.andThen_ok, Sem.run_pure, g3]
        rw [← T2.size]
        have g2' : (Builtin.firstCells j.size (Nat.min n len) yx).run P w = .ok ys.toArray w := g2
        simp only [g2', Result.andThen_ok, g4]
        rfl
      cases hx <;> simp only at hc <;> (try (cases hc; done))
      case nils =>
        simp only [Option.some.injEq, Prod.mk.injEq] at hc
        obtain ⟨rfl, rfl⟩ := hc
        obtain ⟨ys, g1, g2, g3⟩ := elems_take (P := P) R he hy hs (Nat.zero_le n)
        refine ⟨.int .i64 0, w, ?_, .stay (.int _ _) R (Below.refl _ _) (Nat.le_refl _)⟩
        simp only [Builtin.copy_, h0, List.getElem?_toArray, List.getElem?_cons_zero, List.getElem?_cons_succ]
        rw [Sem.run_bind, run_underlying T.und, Result.andThen_ok]
        simp only [Sem.run_bind, run_sizeOf T2.info, Result.andThen_ok, Sem.run_pure, g3]
        rw [← T2.size]
        have e0 : Nat.min n 0 = 0 := Nat.min_zero n
        simp only [e0, g2, Result.andThen_ok]
        rfl
      case sl B off len cap b m hσ => exact go B off len cap b m hσ hc
      case slo B off len lo sz b m c hσ _ _ _ => exact go B off len c b m hσ hc
  · cases hc
end
end Go.Proofs.YtlllhhjlfmhmlaaGreatDoor.VM
namespace Go.Proofs.YtlllhhjlfmhmlaaGreatDoor.VM
open Go Go.RowKit
set_option linter.unusedSectionVars false
variable [Sy]
section
variable {P : Program} {E : Env} {σ : Mp} {w w' : World} {N : Nat} {h : Hp}
theorem sameBits_plain {k : K} {a : V} {x : Value} (n : Nat) (h : ceq k a a = some true) (hr : Rep σ a x) : Instr.sameBits n x x = true := by
  cases k <;> cases hr <;> simp only [ceq] at h <;> (try (cases h; done))
  · simp [Instr.sameBits]
  · simp [Instr.sameBits]
  · simp [Instr.sameBits]
  · simp only [Instr.sameBits, beq_toListBytes]
    simp
  · simp only [Instr.sameBits, beq_toListBytes]
    simp
theorem sameBits_list {n : Nat} : ∀ {ks : List K} {as : List V} {xs : List Value}, leq ks as as = some true → RepL σ as xs → ((xs.zip xs).all fun (x, y) => Instr.sameBits n x y) = true
  | _, _, _, _, .nil => rfl
  | k :: ks, a :: as, _, h, .cons _ x _ xs hr hl => by
    simp only [leq, Option.bind_eq_some_iff] at h
    obtain ⟨c, h1, h2⟩ := h
    cases c with
    | false => simp at h2
    | true =>
      simp only [cond_true] at h2
      simp only [List.zip_cons_cons, List.all_cons, sameBits_plain n h1 hr, Bool.true_and]
      exact sameBits_list h2 hl
  | [], a :: as, _, h, .cons _ x _ xs hr hl => by simp [leq] at h
theorem sameBits_key {j : TI} {k : V} {kx : Value} (hk : keyOK j k = true) (hr : Rep σ k kx) (n : Nat) : Instr.sameBits (n + 1) kx kx = true := by
  have h0 : veqK j k k = some true := by
    unfold keyOK at hk
    split at hk
    · assumption
    · cases hk
  unfold veqK at h0
  split at h0
  · cases hr; simp [Instr.sameBits]
  · cases hr
    simp only [Instr.sameBits, beq_toListBytes]
    simp
  · rename_i hj hs
    cases hs
    cases hr with
    | agg _ xs ha =>
      simp only [aeq, Option.bind_eq_some_iff] at h0
      obtain ⟨ks, _, h0⟩ := h0
      have := sameBits_list (n := n) h0 ha
      simp only [Instr.sameBits, BEq.rfl, Bool.true_and]
      exact this
  · cases h0
theorem stays_run {j : TI} {k : V} {kx : Value} (hk : keyOK j k = true) (hr : Rep σ k kx) : (Instr.keyThatStays kx kx).run P w = .ok kx w := by
  unfold Instr.keyThatStays
  rw [if_pos (sameBits_key hk hr 9999)]
  rfl
/-- the same memory -/
theorem Rel.same (R : Rel N σ h w) (hs : w'.heap.size = w.heap.size) (hg : ∀ k : Nat, w'.heap[k]? = w.heap[k]?) : Rel N σ h w' := by
  refine ⟨fun C c m hC => ?_, R.inj, R.old, by rw [hs]; exact R.base, fun p hp => ⟨(R.tab p hp).1, (hg _).trans (R.tab p hp).2⟩⟩
  obtain ⟨h1, h2, k2, h3, h4⟩ := R.has C c m hC
  exact ⟨h1, by rw [hs]; exact h2, k2, h3, fun o ho => h4 o (by rw [hg] at ho; exact ho)⟩
theorem RepE.append {σ : Mp} : ∀ {l m : List (V × V × Nat)} {y z : List MapEntry}, RepE σ l y → RepE σ m z → RepE σ (l ++ m) (y ++ z)
  | _, _, _, _, .nil, h => h
  | _, _, _, _, .cons k v n kx vx l y h1 h2 s, h => .cons k v n kx vx _ _ h1 h2 (RepE.append s h)
theorem setE_rep {v : V} {vx : Value} (hv : Rep σ v vx) (f : MapEntry → MapEntry) : ∀ {es es' : List (V × V × Nat)} {ms : List MapEntry} {n : Nat}, RepE σ es ms → setE es n v = some es' → (∀ e, ms[n]? = some e → f e = { e with val := vx }) → RepE σ es' (ms.modify n f)
  | [], _, _, _, .nil, h, _ => by simp [setE] at h
  | (k, u, b) :: r, _, _, 0, .cons _ _ _ kx ux _ m h1 h2 hl, h, hf => by
    simp only [setE, Option.some.injEq] at h
    subst h
    rw [List.modify_zero_cons, hf _ rfl]
    exact .cons _ _ _ _ _ _ _ h1 hv hl
  | (k, u, b) :: r, _, _, n + 1, .cons _ _ _ kx ux _ m h1 h2 hl, h, hf => by
    simp only [setE, Option.bind_eq_some_iff, Option.some.injEq] at h
    obtain ⟨l, hl2, rfl⟩ := h
    rw [List.modify_succ_cons]
    exact .cons _ _ _ _ _ _ _ h1 h2 (setE_rep hv f hl hl2 (fun e he => hf e (by simpa using he)))
theorem mapOf_mp {B : Nat} {x : List (V × V × Nat) × Nat} (hx : mapOf h (.mp B) = some x) : h.t.get B = some (.map x.1 x.2) := by
  simp only [mapOf] at hx
  split at hx
  · rename_i es c hb; cases hx; exact hb
  · cases hx
theorem setObj_chg {b : Nat} {o o' : Obj} (hb : w.heap[b]? = some o) : Chg w { w with heap := w.heap.setIfInBounds b o' } b ∧ ({ w with heap := w.heap.setIfInBounds b o' } : World).heap[b]? = some o' :=
  ⟨⟨rfl, rfl, rfl, by simp, fun k hk => by simp [Ne.symm hk]⟩, (MapKept.heap_set hb).1⟩
theorem update_sound (hE : EnvOK P E) (R : Rel N σ h w) {t : TypeId} {m k v : V} {mx kx vx : Value} {h' : Hp} (hc : vmapUpdate E h t m k v = some h') (hm : Rep σ m mx) (hk : Rep σ k kx) (hv : Rep σ v vx) :
    ∃ w', (Instr.mapUpdate t mx kx vx).run P w = .ok () w' ∧ Rel N σ h' w' ∧ Below N w w' ∧ h.n ≤ h'.n := by
  simp only [vmapUpdate, Option.bind_eq_some_iff] at hc
  obtain ⟨i, hi, hc⟩ := hc
  obtain ⟨d, inf, T⟩ := hE.is hi
  split at hc
  · rename_i q el B hkk
    rw [T.k] at hkk
    obtain rfl := kOf_map hkk.symm
    cases hm with
    | mp _ b n hσ =>
      rw [Option.bind_eq_some_iff] at hc
      obtain ⟨j, hj, hc⟩ := hc
      obtain ⟨d2, inf2, T2⟩ := hE.is hj
      cases hok : keyOK j k with
      | false => rw [hok] at hc; cases hc
      | true =>
        rw [hok] at hc
        simp only [cond_true, Option.bind_eq_some_iff] at hc
        obtain ⟨x, hx, r, hf, hc⟩ := hc
        have hB := mapOf_mp hx
        obtain ⟨ms, h1, h2⟩ := R.map_ hσ hB
        obtain ⟨o, h3, h4⟩ := findKey_sound (w := w) T2 hk h2 hf
        have hck : (Instr.checkKey false 10000 q kx).run P w = .ok () w := checkKey_sound T2 hok hk false 9998
        have hN : N ≤ b := by
          rcases Nat.lt_or_ge b N with h8 | h8
          · rcases R.old B b n hσ h8 with ⟨vs', el', h9⟩ | h9 <;> rw [hB] at h9 <;> cases h9
          · exact h8
        cases r with
        | none =>
          obtain rfl : o = none := h4
          simp only [Option.some.injEq] at hc
          subst hc
          obtain ⟨c1, c2⟩ := setObj_chg (o' := .map (ms ++ [({ key := kx, val := vx, born := x.2 } : MapEntry)]).toArray (x.2 + 1)) h1
          refine ⟨_, ?_, R.change hσ hB (by simp) (by simp) c1 (fun o ho => ?_), c1.below hN, Nat.le_refl _⟩
          · unfold Instr.mapUpdate
            rw [Sem.run_bind, run_underlying T.und, Result.andThen_ok]
            simp only [Sem.run_bind, MapKept.run_getObj_map h1, Result.andThen_ok, hck, h3]
            rw [MapKept.run_setObj_map _ h1]
            simp
          · rw [c2] at ho
            cases ho
            exact ⟨_, rfl, h2.append (.cons _ _ _ _ _ _ _ hk hv .nil)⟩
        | some p =>
          obtain ⟨n', v', b'⟩ := p
          obtain ⟨e, _, he, rfl, _, _, hke⟩ := h4
          simp only [Option.bind_eq_some_iff, Option.some.injEq] at hc
          obtain ⟨es', hse, rfl⟩ := hc
          rw [Nat.sub_zero] at he
          obtain ⟨c1, c2⟩ := setObj_chg (o' := .map (ms.modify n' fun e => { e with key := kx, val := vx }).toArray x.2) h1
          refine ⟨_, ?_, R.change hσ hB (by simp) (by simp) c1 (fun o ho => ?_), c1.below hN, Nat.le_refl _⟩
          · unfold Instr.mapUpdate
            rw [Sem.run_bind, run_underlying T.und, Result.andThen_ok]
            simp only [Sem.run_bind, MapKept.run_getObj_map h1, Result.andThen_ok, hck, h3, List.getElem?_toArray, he, Option.map_some, Option.getD_some, hke, stays_run hok hk]
            rw [MapKept.run_setObj_map _ h1]
            simp
          · rw [c2] at ho
            cases ho
            exact ⟨_, rfl, setE_rep hv _ h2 hse (fun e' he' => by
              rw [he] at he'
              cases he'
              rw [← hke])⟩
  · cases hc
theorem entry_sound (hE : EnvOK P E) (R : Rel N σ h w) {t : TypeId} {m k : V} {mx kx : Value} {v : V} {h' : Hp} (hc : vmapEntry E h t m k = some (v, h')) (hm : Rep σ m mx) (hk : Rep σ k kx) :
    ∃ r w', (Instr.mapEntry t mx kx).run P w = .ok r w' ∧ Does N σ h w v h' r w' := by
  simp only [vmapEntry, Option.bind_eq_some_iff] at hc
  obtain ⟨i, hi, hc⟩ := hc
  obtain ⟨d, inf, T⟩ := hE.is hi
  split at hc
  · rename_i q el B hkk
    rw [T.k] at hkk
    obtain rfl := kOf_map hkk.symm
    cases hm with
    | mp _ b n hσ =>
      rw [Option.bind_eq_some_iff] at hc
      obtain ⟨j, hj, hc⟩ := hc
      obtain ⟨d2, inf2, T2⟩ := hE.is hj
      cases hok : keyOK j k with
      | false => rw [hok] at hc; cases hc
      | true =>
        rw [hok] at hc
        simp only [cond_true, Option.bind_eq_some_iff] at hc
        obtain ⟨x, hx, r, hf, hc⟩ := hc
        have hB := mapOf_mp hx
        obtain ⟨ms, h1, h2⟩ := R.map_ hσ hB
        obtain ⟨o, h3, h4⟩ := findKey_sound (w := w) T2 hk h2 hf
        have hck : (Instr.checkKey false 10000 q kx).run P w = .ok () w := checkKey_sound T2 hok hk false 9998
        have hN : N ≤ b := by
          rcases Nat.lt_or_ge b N with h8 | h8
          · rcases R.old B b n hσ h8 with ⟨vs', el', h9⟩ | h9 <;> rw [hB] at h9 <;> cases h9
          · exact h8
        cases r with
        | none =>
          obtain rfl : o = none := h4
          simp only [Option.bind_eq_some_iff, Option.some.injEq, Prod.mk.injEq] at hc
          obtain ⟨z, hz, rfl, rfl⟩ := hc
          obtain ⟨zx, h5, h6⟩ := vzero_sound (σ := σ) hE hz
          obtain ⟨c1, c2⟩ := setObj_chg (o' := .map (ms ++ [({ key := kx, val := zx, born := x.2 } : MapEntry)]).toArray (x.2 + 1)) h1
          refine ⟨.tuple #[zx, goInt x.2], _, ?_, .stay (R := R.change hσ hB (by simp) (by simp) c1 (fun o ho => ?_)) ?_ (c1.below hN) (Nat.le_refl _)⟩
          · unfold Instr.mapEntry
            rw [Sem.run_bind, run_underlying T.und, Result.andThen_ok]
            simp only [Sem.run_bind, MapKept.run_getObj_map h1, Result.andThen_ok, hck, h3, h5]
            rw [MapKept.run_setObj_map _ h1]
            simp
          · exact .tup _ _ (.cons _ _ _ _ h6 (.one (.int _ _)))
          · rw [c2] at ho
            cases ho
            exact ⟨_, rfl, h2.append (.cons _ _ _ _ _ _ _ hk h6 .nil)⟩
        | some p =>
          obtain ⟨n', v', b'⟩ := p
          obtain ⟨e, _, he, rfl, hv', hb', hke⟩ := h4
          simp only [Option.some.injEq, Prod.mk.injEq] at hc
          obtain ⟨rfl, rfl⟩ := hc
          rw [Nat.sub_zero] at he
          have hsame : (ms.toArray.modify n' fun e => { e with key := kx }) = ms.toArray := by
            apply Array.toList_inj.1
            simp only [Array.toList_modify]
            apply List.ext_getElem?
            intro i
            rw [List.getElem?_modify]
            split
            · rename_i hi; subst hi; rw [he]; simp [← hke]
            · simp
          obtain ⟨c1, c2⟩ := setObj_chg (o' := .map ms.toArray x.2) h1
          refine ⟨.tuple #[e.val, goInt e.born], { w with heap := w.heap.setIfInBounds b (.map ms.toArray x.2) }, ?_, .stay (R := R.same c1.size (fun k => ?_)) ?_ (c1.below hN) (Nat.le_refl _)⟩
          · unfold Instr.mapEntry
            rw [Sem.run_bind, run_underlying T.und, Result.andThen_ok]
            simp only [Sem.run_bind, MapKept.run_getObj_map h1, Result.andThen_ok, hck, h3, List.getElem?_toArray, he, Option.map_some, Option.getD_some, hke, stays_run hok hk, hsame]
            rw [MapKept.run_setObj_map _ h1]
            simp
          · rw [← hb']
            exact .tup _ _ (.cons _ _ _ _ hv' (.one (.int _ _)))
          · by_cases hkb : k = b
            · subst hkb; rw [c2, h1]
            · exact c1.other k hkb
  · cases hc
theorem setBorn_rep {v : V} {vx : Value} (hv : Rep σ v vx) : ∀ {es es' : List (V × V × Nat)} {ms : List MapEntry} {n : Nat}, RepE σ es ms → setBorn es n v = some es' → ∃ i, ms.findIdx? (fun e => ((e.born : Nat) : Int) == (n : Int)) = some i ∧ RepE σ es' (ms.modify i fun e => { e with val := vx })
  | [], _, _, _, .nil, h => by simp [setBorn] at h
  | (k, u, b) :: r, _, _, n, .cons _ _ _ kx ux _ m h1 h2 hl, h => by
    rw [setBorn] at h
    cases hb : Nat.beq b n with
    | true =>
      rw [hb] at h
      simp only [cond_true, Option.some.injEq] at h
      subst h
      obtain rfl := Nat.eq_of_beq_eq_true hb
      exact ⟨0, by simp [List.findIdx?_cons], by rw [List.modify_zero_cons]; exact .cons _ _ _ _ _ _ _ h1 hv hl⟩
    | false =>
      rw [hb] at h
      simp only [cond_false, Option.bind_eq_some_iff, Option.some.injEq] at h
      obtain ⟨l, hl2, rfl⟩ := h
      obtain ⟨i, h3, h4⟩ := setBorn_rep hv hl hl2
      have hne : (((b : Nat) : Int) == (n : Int)) = false := by
        rw [beq_d] at hb
        simp only [decide_eq_false_iff_not] at hb
        rw [beq_eq_false_iff_ne]
        intro e
        exact hb (by omega)
      exact ⟨i + 1, by rw [List.findIdx?_cons]; simp [hne, h3], by rw [List.modify_succ_cons]; exact .cons _ _ _ _ _ _ _ h1 h2 h4⟩
theorem entryStore_sound (R : Rel N σ h w) {t : TypeId} {m s v : V} {mx sx vx : Value} {h' : Hp} (hc : ventryStore h m s v = some h') (hm : Rep σ m mx) (hs : Rep σ s sx) (hv : Rep σ v vx) :
    ∃ w', (Instr.entryStore t mx sx vx).run P w = .ok () w' ∧ Rel N σ h' w' ∧ Below N w w' ∧ h.n ≤ h'.n := by
  unfold ventryStore at hc
  split at hc
  · rename_i B k n
    cases hs
    cases hm with
    | mp _ b nn hσ =>
      simp only [Option.bind_eq_some_iff, Option.some.injEq] at hc
      obtain ⟨n', hn, x, hx, es', hse, rfl⟩ := hc
      obtain rfl := natOf_some hn
      have hB := mapOf_mp hx
      obtain ⟨ms, h1, h2⟩ := R.map_ hσ hB
      have hN : N ≤ b := by
        rcases Nat.lt_or_ge b N with h8 | h8
        · rcases R.old B b nn hσ h8 with ⟨vs', el', h9⟩ | h9 <;> rw [hB] at h9 <;> cases h9
        · exact h8
      obtain ⟨i, h3, h4⟩ := setBorn_rep hv h2 hse
      obtain ⟨c1, c2⟩ := setObj_chg (o' := .map (ms.modify i fun e => { e with val := vx }).toArray x.2) h1
      refine ⟨_, ?_, R.change hσ hB (by simp) (by simp) c1 (fun o ho => ?_), c1.below hN, Nat.le_refl _⟩
      · unfold Instr.entryStore
        simp only [Sem.run_bind, MapKept.run_getObj_map h1, Result.andThen_ok, asInt, asIntOf, Sem.run_pure]
        have h5 : ms.toArray.findIdx? (fun e => ((e.born : Nat) : Int) == ((n' : Nat) : Int)) = some i := by simpa using h3
        simp only [h5]
        rw [MapKept.run_setObj_map _ h1]
        simp
      · rw [c2] at ho
        cases ho
        exact ⟨_, rfl, h4⟩
  · cases hc
/-- what calls what -/
theorem target_sound {f : V} {fx : Value} {args : List V} {axs : List Value} {g : Nat} {as : List V} (h : target f args = some (g, as)) (hf : Rep σ f fx) (ha : RepL σ args axs) (w : World) :
    ∃ d cap, (Deferred.ofValue fx axs.toArray).run P w = .ok d w ∧ d.target = .fn (.func g) cap ∧ RepL σ as (d.args ++ cap).toList := by
  unfold target at h
  split at h
  · rename_i f' first cap
    cases hf with
    | fn _ _ _ x y h1 h2 =>
      simp only [Option.some.injEq, Prod.mk.injEq] at h
      obtain ⟨rfl, rfl⟩ := h
      refine ⟨⟨.fn (.func f') y.toArray, x.toArray ++ axs.toArray⟩, y.toArray, rfl, rfl, ?_⟩
      have := (h1.append ha).append h2
      simpa using this
  · cases h
theorem map_arr (args : Array Operand) (ρ : Operand → Value) : args.map ρ = (args.toList.map ρ).toArray := by apply Array.toList_inj.1; simp
theorem run_u {s : Sem Unit} (h : s.run P w = .ok () w') : (do s; pure Next.skip : Sem Next).run P w = .ok .skip w' := by rw [Sem.run_bind, h]; rfl
theorem run_v2 {s : Sem Value} {r : Value} (h : s.run P w = .ok r w') : (do pure (Next.value (← s)) : Sem Next).run P w = .ok (.value r) w' := by rw [Sem.run_bind, h]; rfl
/-- what an operation that does something is to the model: a value, nothing, a call, a deferred call -/
def DoesNx (P : Program) (N : Nat) (σ : Mp) (h : Hp) (w : World) (r : Result Next) : Nx × Hp → Prop
  | (.val v, h') => ∃ x w', r = .ok (.value x) w' ∧ Does N σ h w v h' x w'
  | (.skip, h') => ∃ w', r = .ok .skip w' ∧ Rel N σ h' w' ∧ Below N w w' ∧ h.n ≤ h'.n
  | (.enter f as, h') => h' = h ∧ ∃ xs : List Value, RepL σ as xs ∧ r = (callFunc f xs.toArray).run P w
  | (.dfr f as, h') => h' = h ∧ ∃ d cap, r = .ok (.defer d) w ∧ d.target = .fn (.func f) cap ∧ RepL σ as (d.args ++ cap).toList
  | (.recover, _) => True
theorem methodV_sound (hE : EnvOK P E) {r : V} {rx : Value} {n : String} {args : List V} {axs : List Value} {f : Nat} {as : List V} (h : methodV E r n args = some (f, as)) (hr : Rep σ r rx) (ha : RepL σ args axs) (w : World) :
    ∃ xs : List Value, RepL σ as xs ∧ (callMethod rx n axs.toArray).run P w = (callFunc f xs.toArray).run P w := by
  unfold methodV at h
  split at h
  · rename_i t v
    cases hr with
    | iface _ _ x hx =>
      simp only [Option.bind_eq_some_iff] at h
      obtain ⟨i, hi, m, hm, h⟩ := h
      obtain ⟨d, inf, T⟩ := hE.is hi
      split at h
      · rename_i f' el hp hf hk
        simp only [Option.some.injEq, Prod.mk.injEq] at h
        obtain ⟨rfl, rfl⟩ := h
        rw [T.k] at hk
        obtain rfl := kOf_ptr hk.symm
        refine ⟨x :: axs, .cons _ _ _ _ hx ha, ?_⟩
        have hfind : ∀ l : List Method, findMeth n l = some m → l.find? (fun q => q.name == n) = some m := by
          intro l
          induction l with
          | nil => intro h; cases h
          | cons q r ih =>
            intro h
            rw [findMeth] at h
            cases hq : (q.name == n) with
            | true => rw [hq] at h; simpa [List.find?_cons, hq] using h
            | false => rw [hq] at h; simp only [List.find?_cons, hq]; exact ih h
        have hm2 : inf.methods.find? (fun q => q.name == n) = some m := by
          rw [← Array.find?_toList]
          rw [T.meths] at hm
          exact hfind _ hm
        have hpe : m.path = #[] := by apply Array.toList_inj.1; simpa using hp
        have hmeth : ∀ fuel, (method (fuel + 1) t x n).run P w = .ok (f', x) w := fun fuel => by
          unfold method
          rw [Sem.run_bind, run_typeInfo T.info, Result.andThen_ok]
          simp only [hm2, hp, follow, Sem.run_bind, Sem.run_pure, Result.andThen_ok, hf, receiverAt, run_underlying T.und, Place.get]
        unfold callMethod
        simp only [Sem.run_bind, run_program, Result.andThen_ok]
        have hpos : 0 < Made.depth := by decide
        obtain ⟨fuel, hfu⟩ : ∃ fuel, P.types.size + Made.depth = fuel + 1 := ⟨P.types.size + Made.depth - 1, by omega⟩
        have e : #[x] ++ axs.toArray = (x :: axs).toArray := by simp
        rw [hfu, hmeth, Result.andThen_ok, e]
      · cases h
  · cases h
/-- what does something -/
theorem eop_sound (hE : EnvOK P E) (R : Rel N σ h w) {o : Oper} {t : Tm} {ρ : Operand → Value} {nx : Nx × Hp} (hl : eop E t h o.op = some nx) (hρ : ∀ x ∈ o.op.operands, ∀ v, ev t x = some v → Rep σ v (ρ x)) :
    DoesNx P N σ h w ((execOp ρ o).run P w) nx := by
  obtain ⟨dst, op, type, pos, after, guard⟩ := o
  simp only at hl hρ
  cases op <;> simp only [eop] at hl <;> (try (cases hl; done)) <;> simp only [Op.operands] at hρ
  case assign x =>
    unfold rV at hl
    split at hl
    · rename_i v hv
      cases hl
      exact ⟨ρ x, w, rfl, .stay (hρ x (by simp) v hv) R (Below.refl _ _) (Nat.le_refl _)⟩
    · cases hl
  case store ty a x =>
    unfold eStore rU at hl
    split at hl
    · rename_i h' hs
      cases hl
      simp only [Option.bind_eq_some_iff] at hs
      obtain ⟨av, h1, xv, h2, hs⟩ := hs
      obtain ⟨w', h3, h4, h5⟩ := store_sound hE R hs (hρ a (by simp) av h1) (hρ x (by simp) xv h2)
      exact ⟨w', run_u h3, h4, h5, store_n hs⟩
    · cases hl
  case insert ty m k x =>
    unfold eMapUpdate rU at hl
    split at hl
    · rename_i h' hs
      cases hl
      simp only [Option.bind_eq_some_iff] at hs
      obtain ⟨mv, h1, kv, h2, xv, h3, hs⟩ := hs
      obtain ⟨w', h4, h5, h6⟩ := update_sound hE R hs (hρ m (by simp) mv h1) (hρ k (by simp) kv h2) (hρ x (by simp) xv h3)
      exact ⟨w', run_u h4, h5, h6⟩
    · cases hl
  case mapUpdate ty m k x =>
    unfold eMapUpdate rU at hl
    split at hl
    · rename_i h' hs
      cases hl
      simp only [Option.bind_eq_some_iff] at hs
      obtain ⟨mv, h1, kv, h2, xv, h3, hs⟩ := hs
      obtain ⟨w', h4, h5, h6⟩ := update_sound hE R hs (hρ m (by simp) mv h1) (hρ k (by simp) kv h2) (hρ x (by simp) xv h3)
      exact ⟨w', run_u h4, h5, h6⟩
    · cases hl
  case mapEntry ty m k =>
    unfold eMapEntry rVH at hl
    split at hl
    · rename_i v h' hs
      cases hl
      simp only [Option.bind_eq_some_iff] at hs
      obtain ⟨mv, h1, kv, h2, hs⟩ := hs
      obtain ⟨r, w', h4, h5⟩ := entry_sound hE R hs (hρ m (by simp) mv h1) (hρ k (by simp) kv h2)
      exact ⟨r, w', run_v2 h4, h5⟩
    · cases hl
  case entryStore ty m s x =>
    unfold eEntryStore rU at hl
    split at hl
    · rename_i h' hs
      cases hl
      simp only [Option.bind_eq_some_iff] at hs
      obtain ⟨mv, h1, kv, h2, xv, h3, hs⟩ := hs
      obtain ⟨w', h4, h5, h6⟩ := entryStore_sound (t := ty) R hs (hρ m (by simp) mv h1) (hρ s (by simp) kv h2) (hρ x (by simp) xv h3)
      exact ⟨w', run_u h4, h5, h6⟩
    · cases hl
  case call c =>
    obtain ⟨callee, args, ats⟩ := c
    simp only [eCall, Option.bind_eq_some_iff] at hl
    obtain ⟨vs, h1, hl⟩ := hl
    have hargs : ∀ x ∈ args.toList, ∀ v, ev t x = some v → Rep σ v (ρ x) := fun x hx => hρ x (by simp only [Call.operands]; simp at hx ⊢; simp [hx])
    have h2 := evs_rep hargs h1
    have he := map_arr args ρ
    cases callee with
    | value f =>
      simp only [Option.bind_eq_some_iff] at hl
      obtain ⟨fv, h3, ⟨g, as⟩, h4, hl⟩ := hl
      cases hl
      obtain ⟨d, cap, h5, h6, h7⟩ := target_sound (P := P) h4 (hρ f (by simp [Call.operands]) fv h3) h2 w
      refine ⟨rfl, _, h7, ?_⟩
      show (do let d ← resolve ρ ⟨.value f, args, ats⟩ type; invoke d.target d.args : Sem Next).run P w = _
      simp only [resolve]
      rw [he, Sem.run_bind, h5, Result.andThen_ok, h6]
      simp only [invoke, Array.toArray_toList]
    | invoke r n =>
      simp only [Option.bind_eq_some_iff] at hl
      obtain ⟨rv, h3, ⟨g, as⟩, h4, hl⟩ := hl
      cases hl
      obtain ⟨xs, h5, h6⟩ := methodV_sound hE h4 (hρ r (by simp [Call.operands]) rv h3) h2 w
      refine ⟨rfl, xs, h5, ?_⟩
      show (do let d ← resolve ρ ⟨.invoke r n, args, ats⟩ type; invoke d.target d.args : Sem Next).run P w = _
      simp only [resolve, Sem.run_bind, Sem.run_pure, Result.andThen_ok]
      rw [he, ← h6]
      simp only [invoke]
      have e1 : (#[ρ r] ++ (args.toList.map ρ).toArray)[0]? = some (ρ r) := by simp
      have e2 : (#[ρ r] ++ (args.toList.map ρ).toArray).extract 1 (#[ρ r] ++ (args.toList.map ρ).toArray).size = (args.toList.map ρ).toArray := by
        apply Array.toList_inj.1; simp; rw [List.take_of_length_le (by simp)]
      simp only [e1, e2]
    | builtin b =>
      change eBuiltin E h ats b vs = some nx at hl
      unfold eBuiltin at hl
      split at hl
      · rename_i x y
        unfold rVH at hl
        split at hl
        · rename_i v h' hs
          cases hl
          generalize hys : args.toList.map ρ = ys at h2 he
          cases h2 with
          | cons _ xx _ ys' hx h2 => cases h2 with
            | cons _ yx _ ys'' hy h2 => cases h2 with
              | nil =>
                obtain ⟨r, w', h4, h5⟩ := append_sound (ty := type) hE R hs hx hy
                refine ⟨r, w', ?_, h5⟩
                show (do let d ← resolve ρ ⟨.builtin .append, args, ats⟩ type; invoke d.target d.args : Sem Next).run P w = _
                simp only [resolve, Sem.run_bind, Sem.run_pure, Result.andThen_ok, invoke]
                rw [he]
                exact run_v2 h4
        · cases hl
      · rename_i x y
        unfold rVH at hl
        split at hl
        · rename_i v h' hs
          cases hl
          generalize hys : args.toList.map ρ = ys at h2 he
          cases h2 with
          | cons _ xx _ ys' hx h2 => cases h2 with
            | cons _ yx _ ys'' hy h2 => cases h2 with
              | nil =>
                obtain ⟨r, w', h4, h5⟩ := copy_sound (ty := type) hE R hs hx hy
                refine ⟨r, w', ?_, h5⟩
                show (do let d ← resolve ρ ⟨.builtin .copy, args, ats⟩ type; invoke d.target d.args : Sem Next).run P w = _
                simp only [resolve, Sem.run_bind, Sem.run_pure, Result.andThen_ok, invoke]
                rw [he]
                exact run_v2 h4
        · cases hl
      · cases hl; trivial
      · cases hl
  case defer c =>
    obtain ⟨callee, args, ats⟩ := c
    cases callee with
    | invoke r n => cases hl
    | builtin b => cases hl
    | value f =>
      simp only [eDefer, Option.bind_eq_some_iff] at hl
      obtain ⟨vs, h1, fv, h3, ⟨g, as⟩, h4, hl⟩ := hl
      cases hl
      have hargs : ∀ x ∈ args.toList, ∀ v, ev t x = some v → Rep σ v (ρ x) := fun x hx => hρ x (by simp only [Call.operands]; simp at hx ⊢; simp [hx])
      have h2 := evs_rep hargs h1
      have he := map_arr args ρ
      obtain ⟨d, cap, h5, h6, h7⟩ := target_sound (P := P) h4 (hρ f (by simp [Call.operands]) fv h3) h2 w
      refine ⟨rfl, d, cap, ?_, h6, h7⟩
      show (do pure (Next.defer (← resolve ρ ⟨.value f, args, ats⟩ type)) : Sem Next).run P w = _
      simp only [resolve]
      rw [he, Sem.run_bind, h5, Result.andThen_ok]
      rfl
end
end Go.Proofs.YtlllhhjlfmhmlaaGreatDoor.VM
namespace Go.Proofs.YtlllhhjlfmhmlaaGreatDoor.VM
open Go Go.RowKit
set_option linter.unusedSectionVars false
variable [Sy]
section
variable {P : Program} {E : Env} {σ : Mp} {w w' : World} {N : Nat} {h : Hp}
/-- a deferred call beside the machine's -/
inductive RepD (σ : Mp) : List (Nat × List V) → List Deferred → Prop
  | nil : RepD σ [] []
  | cons (f : Nat) (as : List V) (d : Deferred) (cap : Array Value) (l : List (Nat × List V)) (m : List Deferred) : d.target = .fn (.func f) cap → RepL σ as (d.args ++ cap).toList → RepD σ l m → RepD σ ((f, as) :: l) (d :: m)
theorem RepD.mono {σ τ : Mp} (h : Mp.le σ τ) : ∀ {l : List (Nat × List V)} {m : List Deferred}, RepD σ l m → RepD τ l m
  | _, _, .nil => .nil
  | _, _, .cons f as d cap l m h1 h2 s => .cons f as d cap l m h1 (h2.mono h) (RepD.mono h s)
/-- slots beside the frame's, but for some -/
structure RepX (σ : Mp) (t : Tm) (n : Nat) (a : Array Value) (S : Nat → Prop) : Prop where
  size : a.size = n
  at_ : ∀ i, ¬ S i → Rep σ ((t.get i).getD undefV) (a.getD i undef)
/-- the machine's state beside an act and a world -/
structure RelS (N : Nat) (σ : Mp) (s : St) (a : Act) (w : World) (S : Nat → Prop) : Prop where
  t : RepX σ s.t s.n a.tmps S
  h : Rel N σ s.h w
  d : RepD σ s.d a.defers
/-- what a call's machine tells is so -/
def CallOK (P : Program) (call : CallF) : Prop :=
  ∀ (N : Nat) f as h v h', call f as h = some (v, h') → ∀ (σ : Mp) (w : World) (xs : List Value), Rel N σ h w → RepL σ as xs →
    match (callFunc f xs.toArray).run P w with
    | .ok (.value x) w' => Does N σ h w v h' x w'
    | .ok (.enter g ys) w' => Calls P g ys w' fun e w'' => ∃ x, e = .returned x ∧ Does N σ h w v h' x w''
    | _ => False
section
variable {S : Nat → Prop}
theorem RepX.mono {σ τ : Mp} (hle : Mp.le σ τ) {t : Tm} {n : Nat} {a : Array Value} (r : RepX σ t n a S) : RepX τ t n a S := ⟨r.size, fun i h => (r.at_ i h).mono hle⟩
theorem getD_set_ne {a : Array Value} {d i : Nat} {x : Value} (h : i ≠ d) : (a.setIfInBounds d x).getD i undef = a.getD i undef := by
  simp only [Array.getD]
  by_cases hi : i < a.size
  · simp [hi, Ne.symm h]
  · simp [hi]
theorem RepX.put {t : Tm} {n : Nat} {a : Array Value} (r : RepX σ t n a S) {d : Nat} {v : V} {x : Value} (hd : d < n) (hr : Rep σ v x) : RepX σ (t.put d v) n (a.setIfInBounds d x) S := by
  refine ⟨by simp [r.size], fun i hS => ?_⟩
  rw [T.get_put]
  by_cases h : i = d
  · subst h
    have : i < a.size := by rw [r.size]; exact hd
    simp [Array.getD, this, hr]
  · rw [if_neg h, getD_set_ne h]
    exact r.at_ i hS
theorem put_sound {s s' : St} {a : Act} {dst : Option Tmp} {v : V} {x : Value} {h' : Hp} {σ' : Mp} (R : RelS N σ s a w S) (hs : s.put dst v h' = some s') (hle : Mp.le σ σ') (hr : Rep σ' v x) (hh : Rel N σ' h' w') : RelS N σ' s' (a.put dst x) w' S := by
  rw [St.put_eq] at hs
  cases dst with
  | none =>
    simp only [Option.some.injEq] at hs
    subst hs
    exact ⟨R.t.mono hle, hh, R.d.mono hle⟩
  | some d =>
    simp only at hs
    cases hb : Nat.blt d s.n with
    | false => rw [hb] at hs; cases hs
    | true =>
      rw [hb] at hs
      simp only [cond_true, Option.some.injEq] at hs
      subst hs
      rw [blt_d, decide_eq_true_iff] at hb
      exact ⟨(R.t.mono hle).put hb hr, hh, R.d.mono hle⟩
theorem rep_undef {v : V} (h : Rep σ v undef) : v = undefV := by
  have key : ∀ x, x = undef → Rep σ v x → v = undefV := fun x hx hr => by
    cases hr <;> simp only [undef] at hx <;> (try (cases hx; done))
    case any h1 => rw [hx] at h1; cases h1
    rename_i l xs hl
    simp only [Value.tuple.injEq] at hx
    have : xs = [] := by simpa using hx
    subst this
    cases hl
    rfl
  exact key _ rfl h
theorem wanted_sound {t : Tm} {a : Act} {ops : Array Oper} {o : Oper} {b : Bool} (h : wantedV t ops.toList o.guard = some b) (hT : ∀ d, d ∈ looks ops.toList o → Rep σ ((t.get d).getD undefV) (a.tmps.getD d undef)) :
    Region.wanted o (yielded ops a.tmps) = b := by
  unfold Region.wanted
  cases hg : o.guard with
  | none =>
    rw [hg] at h
    simp only [wantedV, Option.some.injEq] at h
    exact h
  | some p =>
    obtain ⟨j, q⟩ := p
    rw [hg] at h
    simp only [wantedV, Option.bind_eq_some_iff] at h
    obtain ⟨g, h1, d, h2, h3⟩ := h
    have h1' : ops[j]? = some g := by simpa using h1
    have hl : d ∈ looks ops.toList o := by
      unfold looks
      rw [hg]
      simp only [h1, Option.bind_some, h2, Option.toList_some, List.mem_append, List.mem_singleton]
      exact .inr trivial
    have hr := hT d hl
    simp only [yielded, h1', Option.bind_some, h2]
    by_cases hd : d < a.tmps.size
    · have hget : a.tmps[d]? = some (a.tmps.getD d undef) := by simp [Array.getD, hd]
      rw [hget]
      generalize a.tmps.getD d undef = x at hr
      generalize (t.get d).getD undefV = v at hr h3
      split at h3
      · cases hr
        simp only [Option.some.injEq] at h3
        subst h3
        rename_i c
        cases c <;> cases q <;> rfl
      · cases hr with
        | tup _ xs hx =>
          cases hx
          simp only [Option.some.injEq] at h3
          subst h3
          rfl
      · cases h3
    · have hget : a.tmps[d]? = none := Array.getElem?_eq_none (Nat.le_of_not_lt hd)
      have hu : a.tmps.getD d undef = undef := by simp [Array.getD, hd]
      rw [hget]
      rw [hu] at hr
      rw [rep_undef hr] at h3
      simp only [undefV, Option.some.injEq] at h3
      subst h3
      rfl
/-- operands stand for what they are -/
theorem ops_rep {s : St} {a : Act} {ops : Array Oper} {o : Oper} (R : RelS N σ s a w S) (hl : ∀ d ∈ looks ops.toList o, ¬ S d) : ∀ x ∈ o.op.operands, ∀ v, ev s.t x = some v → Rep σ v (a.eval x) := by
  intro x hx v hv
  cases x with
  | tmp i =>
    simp only [ev, Option.some.injEq] at hv
    subst hv
    refine R.t.at_ i (hl i ?_)
    unfold looks
    rw [List.mem_append]
    left
    exact List.mem_filterMap.2 ⟨.tmp i, by simpa using hx, rfl⟩
  | const c => exact ofVal_rep hv
  | global g => simp only [ev, Option.some.injEq] at hv; subst hv; exact .gptr _ _
  | func f => simp only [ev, Option.some.injEq] at hv; subst hv; exact .fn _ _ _ [] [] .nil .nil
theorem wanted_rep {s : St} {a : Act} {ops : Array Oper} {o : Oper} {b : Bool} (R : RelS N σ s a w S) (hl : ∀ d ∈ looks ops.toList o, ¬ S d) (h : wantedV s.t ops.toList o.guard = some b) : Region.wanted o (yielded ops a.tmps) = b :=
  wanted_sound h fun d hd => R.t.at_ d (hl d hd)
variable {ops : Array Oper} {Q : Exit → Act → World → Prop} {K : Act → World → Prop} {i : Nat} {o : Oper} {s s' : St} {a : Act}
/-- an operation that changes nothing that stands -/
theorem n_sound (hE : EnvOK P E) (R : RelS N σ s a w S) (hi : ops[i]? = some o) (hl : ∀ d ∈ looks ops.toList o, ¬ S d) {b : Bool} (hw : wantedV s.t ops.toList o.guard = some b) {p : PR} (hp : (b = false ∧ p = .skip) ∨ (b = true ∧ ((∃ v, lop E s.t s.h o.op = some v ∧ p = .l v) ∨ ∃ r k id, fop E s.t o.op = some (r, k) ∧ p = .f r k id)))
    (hk : match p with
      | .skip => K (a.put o.dst undef) w
      | .l v => ∀ x, Rep σ v x → K (a.put o.dst x) w
      | .f r k _ => ∀ x w', Made σ w r k x w' → K (a.put o.dst x) w') : wpOp P ops Q i K a w := by
  have hwa := wanted_rep R hl hw
  unfold wpOp
  rw [hi]
  simp only [hwa]
  rcases hp with ⟨rfl, rfl⟩ | ⟨rfl, ⟨v, h1, rfl⟩ | ⟨r, k, id, h1, rfl⟩⟩
  · simpa using hk
  · obtain ⟨x, h2, h3⟩ := lop_sound hE R.h h1 (ops_rep R hl)
    simp only [if_true]
    left
    unfold Oper.wp
    rw [h2]
    exact hk x h3
  · obtain ⟨x, w', h2, h3⟩ := fop_sound (w := w) hE h1 (ops_rep R hl)
    simp only [if_true]
    left
    unfold Oper.wp
    rw [h2]
    exact hk x w' h3
/-- an operation that does something -/
theorem e_sound (hE : EnvOK P E) {call : CallF} (hcall : CallOK P call) (R : RelS N σ s a w S) (hs : eStep E call ops.toList o s = some s') (hi : ops[i]? = some o) (hl : ∀ d ∈ looks ops.toList o, ¬ S d)
    (hk : ∀ σ' a' w', Mp.Ext s.h.n σ σ' → s.h.n ≤ s'.h.n → RelS N σ' s' a' w' S → Below N w w' → K a' w') : wpOp P ops Q i K a w := by
  simp only [eStep, Option.bind_eq_some_iff] at hs
  obtain ⟨b, hw, hs⟩ := hs
  have hwa := wanted_rep R hl hw
  have hn : ∀ {s : St} {dst : Option Tmp} {v : V} {h' : Hp} {s' : St}, s.put dst v h' = some s' → s'.h = h' := fun {s dst v h' s'} h => by
    rw [St.put_eq] at h
    cases dst with
    | none => cases h; rfl
    | some d =>
      simp only at h
      cases hb : Nat.blt d s.n with
      | false => rw [hb] at h; cases h
      | true => rw [hb] at h; cases h; rfl
  unfold wpOp
  rw [hi]
  simp only [hwa]
  split at hs
  · simp only [if_true]
    left
    unfold onNx at hs
    split at hs
    · rename_i v h' he
      obtain ⟨x, w', h2, σ', h3, h4, h5, h6, h7⟩ := eop_sound hE R.h he (ops_rep R hl)
      unfold Oper.wp
      rw [h2]
      exact hk σ' _ w' h3 (by rw [hn hs]; exact h4) (put_sound R hs h3.le h5 h6) h7
    · rename_i h' he
      obtain ⟨w', h2, h3, h4, h5⟩ := eop_sound hE R.h he (ops_rep R hl)
      unfold Oper.wp
      rw [h2]
      exact hk σ _ w' (Mp.Ext.refl _ _) (by rw [hn hs]; exact h5) (put_sound R hs (Mp.le.refl _) (Rep.undef _) h3) h4
    · rename_i f xs h' he
      obtain ⟨h2, ys, h3, h4⟩ := eop_sound hE R.h he (ops_rep R hl)
      subst h2
      rw [Option.bind_eq_some_iff] at hs
      obtain ⟨⟨v, h'⟩, hc, hs⟩ := hs
      have h5 := hcall N f xs s.h v h' hc σ w ys R.h h3
      unfold Oper.wp
      rw [h4]
      generalize (callFunc f ys.toArray).run P w = r at h5
      cases r with
      | halt x w' => exact h5.elim
      | ok n w' =>
        cases n <;> (try (exact h5.elim))
        · obtain ⟨σ', g1, g2, g3, g4, g5⟩ := h5
          exact hk σ' _ w' g1 (by rw [hn hs]; exact g2) (put_sound R hs g1.le g3 g4) g5
        · refine Calls.mono h5 fun e w'' he => ?_
          obtain ⟨x, rfl, σ', g1, g2, g3, g4, g5⟩ := he
          exact hk σ' _ w'' g1 (by rw [hn hs]; exact g2) (put_sound R hs g1.le g3 g4) g5
    · rename_i f xs h' he
      obtain ⟨h2, d, cap, h3, h4, h5⟩ := eop_sound hE R.h he (ops_rep R hl)
      subst h2
      unfold Oper.wp
      rw [h3]
      have R2 : RelS N σ ⟨s.t, s.h, (f, xs) :: s.d, s.n⟩ { a with defers := d :: a.defers } w S := ⟨R.t, R.h, .cons _ _ _ _ _ _ h4 h5 R.d⟩
      exact hk σ _ w (Mp.Ext.refl _ _) (by rw [hn hs]; exact Nat.le_refl _) (put_sound R2 hs (Mp.le.refl _) (Rep.undef _) R.h) (Below.refl _ _)
    · cases hs
    · cases hs
  · simp only [Bool.false_eq_true, if_false]
    exact hk σ _ w (Mp.Ext.refl _ _) (by rw [hn hs]; exact Nat.le_refl _) (put_sound R hs (Mp.le.refl _) (Rep.undef _) R.h) (Below.refl _ _)
end
end
end Go.Proofs.YtlllhhjlfmhmlaaGreatDoor.VM
namespace Go.Proofs.YtlllhhjlfmhmlaaGreatDoor.VM
open Go Go.RowKit
set_option linter.unusedSectionVars false
variable [Sy]
section
variable {E : Env} {t t' : Tm} {h h' : Hp}
theorem evs_congr : ∀ {l : List Operand}, (∀ x ∈ l, ev t x = ev t' x) → evs t l = evs t' l
  | [], _ => rfl
  | x :: r, he => by rw [evs, evs, he x (by simp), evs_congr (fun y hy => he y (by simp [hy]))]
theorem parts_congr : ∀ {l : List (Nat × Operand)}, (∀ p ∈ l, ev t p.2 = ev t' p.2) → parts t l = parts t' l
  | [], _ => rfl
  | (i, x) :: r, he => by rw [parts, parts, he (i, x) (by simp), parts_congr (fun y hy => he y (by simp [hy]))]
theorem evo_congr {o : Option Operand} (he : ∀ x ∈ o.toArray, ev t x = ev t' x) : evo t o = evo t' o := by
  cases o with
  | none => rfl
  | some x => rw [evo, evo, he x (by simp)]
theorem lop_congr {op : Op} (he : ∀ x ∈ op.operands, ev t x = ev t' x) : lop E t h op = lop E t' h op := by
  cases op <;> simp only [Op.operands] at he <;> simp only [lop]
  case move x => exact he x (by simp)
  case pick c a b => rw [lPick, lPick, he c (by simp), he a (by simp), he b (by simp)]
  case build ty ps => rw [lBuild, lBuild, parts_congr (fun p hp => he p.2 (by simp only [List.mem_toArray, List.mem_map]; exact ⟨p, hp, rfl⟩))]
  case load ty a => rw [lLoad, lLoad, he a (by simp)]
  case nilCheck x => rw [lNilCheck, lNilCheck, he x (by simp)]
  case binOp op ty x y yt => rw [lBin, lBin, he x (by simp), he y (by simp)]
  case unOp op ty x => rw [lUn, lUn, he x (by simp)]
  case convert s d x => rw [lConv, lConv, he x (by simp)]
  case makeInterface ty x => rw [lIface, lIface, he x (by simp)]
  case makeFunc f a c => rw [lFunc, lFunc, evs_congr (fun x hx => he x (by simp at hx ⊢; exact .inl hx)), evs_congr (fun x hx => he x (by simp at hx ⊢; exact .inr hx))]
  case slice ty x lo hi mx => rw [lSlice, lSlice, he x (by simp), evo_congr (fun y hy => he y (by simp at hy ⊢; simp [hy])), evo_congr (fun y hy => he y (by simp at hy ⊢; simp [hy])), evo_congr (fun y hy => he y (by simp at hy ⊢; simp [hy]))]
  case fieldAddr ty x f => rw [lFieldAddr, lFieldAddr, he x (by simp)]
  case field ty x f => rw [lField, lField, he x (by simp)]
  case indexAddr ty x i => rw [lIndexAddr, lIndexAddr, he x (by simp), he i (by simp)]
  case index ty x i => rw [lIndex, lIndex, he x (by simp), he i (by simp)]
  case lookup ty x k ok => rw [lLookup, lLookup, he x (by simp), he k (by simp)]
  case typeAssert x xt a ok => rw [lAssert, lAssert, he x (by simp)]
  case extract x i => rw [lExtract, lExtract, he x (by simp)]
  case call c =>
    obtain ⟨callee, args, ats⟩ := c
    rw [lCall, lCall]
    cases callee with
    | value f => rfl
    | invoke r n => rfl
    | builtin b =>
      simp only
      rw [evs_congr (fun x hx => he x (by simp only [Call.operands]; simpa using hx))]
theorem fop_congr {op : Op} (he : ∀ x ∈ op.operands, ev t x = ev t' x) : fop E t op = fop E t' op := by
  cases op <;> simp only [Op.operands] at he <;> simp only [fop]
  case box e x => rw [fBox, fBox, he x (by simp)]
  case buildSlice ty n ps => rw [fBuildSlice, fBuildSlice, parts_congr (fun p hp => he p.2 (by simp only [List.mem_toArray, List.mem_map]; exact ⟨p, hp, rfl⟩))]
  case convert s d x => rw [fConv, fConv, he x (by simp)]
  case makeSlice ty l c => rw [fMake, fMake, he l (by simp), he c (by simp)]
theorem lop_heap {op : Op} (hr : readsM op = false) : lop E t h op = lop E t h' op := by
  cases op <;> first | rfl | cases hr
theorem wantedV_congr {ops : List Oper} {o : Oper} (he : ∀ d ∈ looks ops o, (t.get d).getD undefV = (t'.get d).getD undefV) : wantedV t ops o.guard = wantedV t' ops o.guard := by
  cases hg : o.guard with
  | none => rfl
  | some p =>
    obtain ⟨j, q⟩ := p
    rw [wantedV, wantedV]
    cases h1 : ops[j]? with
    | none => rfl
    | some g =>
      cases h2 : g.dst with
      | none => simp [h2]
      | some d =>
        have : d ∈ looks ops o := by
          unfold looks
          rw [hg]
          simp only [h1, Option.bind_some, h2, Option.toList_some, List.mem_append, List.mem_singleton]
          exact .inr trivial
        simp only [Option.bind_some, h2, he d this]
theorem ev_congr {ops : List Oper} {o : Oper} (he : ∀ d ∈ looks ops o, (t.get d).getD undefV = (t'.get d).getD undefV) : ∀ x ∈ o.op.operands, ev t x = ev t' x := by
  intro x hx
  cases x with
  | tmp i =>
    have : i ∈ looks ops o := by
      unfold looks
      rw [List.mem_append]
      left
      exact List.mem_filterMap.2 ⟨.tmp i, by simpa using hx, rfl⟩
    simp only [ev, he i this]
  | const c => rfl
  | global g => rfl
  | func f => rfl
end
theorem same1_eq {a b : V} (h : same1 a b = true) : a = b := by
  unfold same1 at h
  split at h <;> (try (cases h; done)) <;> (try rfl)
  all_goals simp only [Bool.and_eq_true, beq_d, decide_eq_true_iff, seq_eq, beq_iff_eq, ieq_iff] at h
  · rw [h]
  · rw [keq_eq h.1, h.2]
  · rw [h]
  · rw [h.1, h.2]
  · obtain ⟨⟨⟨rfl, rfl⟩, rfl⟩, rfl⟩ := h; rfl
  · obtain ⟨⟨⟨⟨rfl, rfl⟩, rfl⟩, rfl⟩, rfl⟩ := h; rfl
  · rw [h]
  · rw [keq_eq h.1, h.2]
  · rw [h]
  · rw [h.1, h.2]
  · rw [h.1, h.2]
  · obtain ⟨⟨rfl, rfl⟩, rfl⟩ := h; rfl
  · rw [h]
theorem sameL_eq : ∀ {a b : List V}, sameL a b = true → a = b
  | [], [], _ => rfl
  | a :: x, b :: y, h => by
    rw [sameL] at h
    cases h1 : same1 a b with
    | false => rw [h1] at h; cases h
    | true =>
      rw [h1] at h
      rw [same1_eq h1, sameL_eq h]
  | [], _ :: _, h => by cases h
  | _ :: _, [], h => by cases h
theorem sameV_eq {a b : V} (h : sameV a b = true) : a = b := by
  unfold sameV at h
  split at h
  · rw [sameL_eq h]
  · rw [sameL_eq h]
  · exact same1_eq h
theorem sameB_eq {a b : Blk} (h : sameB a b = true) : a = b := by
  unfold sameB at h
  split at h
  · simp only [Bool.and_eq_true, beq_d, decide_eq_true_iff, beq_iff_eq] at h
    obtain ⟨⟨h1, rfl⟩, rfl⟩ := h
    rw [sameL_eq h1]
  · simp only [beq_d, decide_eq_true_iff] at h
    rw [h]
  · cases h
/-! ### what comes ahead -/
def deps (o : Oper) (j : Nat) : Prop := ∃ e ∈ o.after.toList, Region.binds .any e = true ∧ e.on = j
inductive Reach (ops : List Oper) : Nat → Nat → Prop
  | one (i j : Nat) (o : Oper) : ops[i]? = some o → deps o j → Reach ops i j
  | more (i j k : Nat) (o : Oper) : ops[i]? = some o → deps o j → Reach ops j k → Reach ops i k
theorem afterAll_iff {l : Nat} : ∀ {es : List Edge}, afterAll l es = true ↔ ∀ e ∈ es, Region.binds .any e = true → Nat.testBit l e.on = true
  | [] => by simp [afterAll]
  | e :: r => by
    rw [afterAll]
    split
    · rename_i hb
      cases ht : Nat.testBit l e.on with
      | true => simp [hb, ht, afterAll_iff (es := r)]
      | false => simp [hb, ht]
    · rename_i hb
      simp [hb, afterAll_iff (es := r)]
theorem afterAll_deps {l : Nat} {o : Oper} : afterAll l o.after.toList = true ↔ ∀ j, deps o j → Nat.testBit l j = true := by
  rw [afterAll_iff]
  exact ⟨fun h j ⟨e, he, hb, hj⟩ => hj ▸ h e he hb, fun h e he hb => h _ ⟨e, he, hb, rfl⟩⟩
/-- a set that has with each what comes ahead of it -/
def Closed (ops : List Oper) (D : Nat → Prop) : Prop := ∀ i o, ops[i]? = some o → D i → ∀ j, deps o j → D j
theorem Reach.inD {ops : List Oper} {D : Nat → Prop} (hD : Closed ops D) {i j : Nat} (h : Reach ops i j) : (∀ o, ops[i]? = some o → ∀ k, deps o k → D k) → D j := by
  induction h with
  | one i j o ho hd => exact fun h => h o ho j hd
  | more i j k o ho hd hr ih => exact fun h => ih fun o' ho' q hq => hD j o' ho' (h o ho j hd) q hq
theorem maskOf_bit {ops : List Oper} {ms : List Nat} {k : Nat} (hms : ∀ i j, Nat.testBit (ms.getD i 0) j = true → Reach ops i j) {o : Oper} (ho : ops[k]? = some o) : ∀ (es : List Edge) (m : Nat), (∀ e ∈ es, e ∈ o.after.toList) → (∀ j, Nat.testBit m j = true → Reach ops k j) →
    ∀ j, Nat.testBit (maskOf ms es m) j = true → Reach ops k j
  | [], m, _, hm, j, h => hm j h
  | e :: r, m, hes, hm, j, h => by
    rw [maskOf] at h
    split at h
    · rename_i hb
      have hd : deps o e.on := ⟨e, hes e (by simp), hb, rfl⟩
      refine maskOf_bit hms ho r _ (fun x hx => hes x (by simp [hx])) (fun j hj => ?_) j h
      simp only [Nat.testBit_or, Bool.or_eq_true, Nat.testBit_two_pow, decide_eq_true_iff] at hj
      rcases hj with (hj | hj) | hj
      · exact hm j hj
      · subst hj; exact .one _ _ o ho hd
      · exact .more _ _ _ o ho hd (hms _ _ hj)
    · exact maskOf_bit hms ho r m (fun x hx => hes x (by simp [hx])) hm j h
theorem masks_bit {ops : List Oper} : ∀ (rest : List Oper) (ms : List Nat), ops.drop ms.length = rest → (∀ i j, Nat.testBit (ms.getD i 0) j = true → Reach ops i j) → ∀ i j, Nat.testBit ((masks rest ms).getD i 0) j = true → Reach ops i j
  | [], ms, _, h => h
  | o :: r, ms, hd, h => by
    rw [masks]
    have ho : ops[ms.length]? = some o := by have := congrArg List.head? hd; simpa using this
    have hr : ops.drop (ms.length + 1) = r := by have := congrArg List.tail hd; simpa using this
    refine masks_bit r _ (by simpa using hr) fun i j hj => ?_
    rw [List.getD_eq_getElem?_getD, List.getElem?_append] at hj
    split at hj
    · exact h i j (by rw [List.getD_eq_getElem?_getD]; exact hj)
    · rename_i hlt
      by_cases hi : i = ms.length
      · subst hi
        simp at hj
        exact maskOf_bit h ho _ 0 (fun e he => he) (fun j hj => by simp at hj) j (by simpa using hj)
      · have : i - ms.length ≠ 0 := by omega
        rw [List.getElem?_singleton, if_neg this] at hj
        simp at hj
theorem zipI_mem : ∀ (l : List Oper) (k i : Nat) (o : Oper), l[i]? = some o → (k + i, o) ∈ zipI l k
  | [], _, _, _, h => by simp at h
  | x :: r, k, 0, o, h => by simp at h; subst h; simp [zipI]
  | x :: r, k, i + 1, o, h => by
    simp only [List.getElem?_cons_succ] at h
    have := zipI_mem r (k + 1) i o h
    rw [zipI, List.mem_cons]
    right
    rw [show k + (i + 1) = k + 1 + i by omega]
    exact this
theorem edges_lt : ∀ (l : List Oper) (k i : Nat) (o : Oper), edgesOk l k = true → l[i]? = some o → ∀ j, deps o j → j < k + i
  | [], _, _, _, _, h => by simp at h
  | x :: r, k, 0, o, he, h => by
    simp at h; subst h
    rw [edgesOk, Bool.and_eq_true, List.all_eq_true] at he
    intro j ⟨e, h1, h2, h3⟩
    have := he.1 e h1
    rw [h2] at this
    simp only [Bool.not_true, Bool.false_or, blt_d, decide_eq_true_iff] at this
    omega
  | x :: r, k, i + 1, o, he, h => by
    rw [edgesOk, Bool.and_eq_true] at he
    simp only [List.getElem?_cons_succ] at h
    intro j hj
    have := edges_lt r (k + 1) i o he.2 h j hj
    omega
/-- what is looked over once and for all -/
structure Stat (ops : List Oper) (ms : List Nat) : Prop where
  lt : ∀ (i : Nat) (o : Oper), ops[i]? = some o → ∀ j, deps o j → j < i
  reach : ∀ i j, Nat.testBit (ms.getD i 0) j = true → Reach ops i j
  own : ∀ (i : Nat) (o : Oper) (d : Nat), ops[i]? = some o → o.dst = some d → isE o.op = false → d ∉ looks ops o
  look : ∀ (i j : Nat) (o p : Oper) (d : Nat), i ≠ j → ops[i]? = some o → ops[j]? = some p → p.dst = some d → d ∈ looks ops o → Nat.testBit (ms.getD i 0) j = true ∨ (isE p.op = true ∧ Nat.testBit (ms.getD j 0) i = true)
  slot : ∀ (i j : Nat) (o p : Oper) (d : Nat), i ≠ j → ops[i]? = some o → ops[j]? = some p → p.dst = some d → o.dst = some d → isE o.op = true ∧ isE p.op = true
/-- a plan, from what has come up -/
inductive PlanFrom (ops : List Oper) (ms : List Nat) : Nat → List PStep → Prop
  | nil (l : Nat) : (∀ i, i < ops.length → Nat.testBit l i = true) → PlanFrom ops ms l []
  | n (l i : Nat) (o : Oper) (r : List PStep) : ops[i]? = some o → Nat.testBit l i = false → isE o.op = false → (∀ j, deps o j → Nat.testBit l j = true) → PlanFrom ops ms (l ||| 2 ^ i) r → PlanFrom ops ms l (.n i o :: r)
  | e (l i : Nat) (o : Oper) (r : List PStep) : ops[i]? = some o → Nat.testBit l i = false → isE o.op = true → (∀ j, deps o j → Nat.testBit l j = true) → (∀ k p, ops[k]? = some p → Nat.testBit l k = false → (∀ j, deps p j → Nat.testBit l j = true) → k = i) →
      PlanFrom ops ms (l ||| 2 ^ i) r → PlanFrom ops ms l (.e i o (ms.getD i 0) :: r)
theorem allBits_all : ∀ {n l : Nat}, allBits n l = true → ∀ i, i < n → Nat.testBit l i = true
  | 0, _, _, _, h => by omega
  | n + 1, l, h, i, hi => by
    rw [allBits, Bool.and_eq_true] at h
    by_cases e : i = n
    · subst e; exact h.1
    · exact allBits_all h.2 i (by omega)
theorem only_spec : ∀ (r : List Oper) (k l i q : Nat) (p : Oper), only r k l i = true → r[q]? = some p → Nat.testBit l (k + q) = false → (∀ j, deps p j → Nat.testBit l j = true) → k + q = i
  | [], _, _, _, _, _, _, h, _, _ => by simp at h
  | x :: r, k, l, i, 0, p, ho, h, hl, hd => by
    simp at h; subst h
    rw [only, Bool.and_eq_true] at ho
    have h2 := afterAll_deps.2 hd
    simp only [Nat.add_zero] at hl ⊢
    rw [hl, h2] at ho
    simpa [beq_d] using ho.1
  | x :: r, k, l, i, q + 1, p, ho, h, hl, hd => by
    rw [only, Bool.and_eq_true] at ho
    simp only [List.getElem?_cons_succ] at h
    have := only_spec r (k + 1) l i q p ho.2 h (by rw [show k + 1 + q = k + (q + 1) by omega]; exact hl) hd
    omega
theorem build_plan {ops : List Oper} {ms : List Nat} : ∀ {idx : List Nat} {l : Nat} {p : List PStep}, build ops ms l idx = some p → PlanFrom ops ms l p
  | [], l, p, h => by
    rw [build] at h
    cases hb : allBits ops.length l with
    | false => rw [hb] at h; cases h
    | true => rw [hb] at h; cases h; exact .nil l (allBits_all hb)
  | i :: r, l, p, h => by
    rw [build] at h
    split at h
    · cases h
    · rename_i o ho
      cases hb : (!Nat.testBit l i && afterAll l o.after.toList) with
      | false => rw [hb] at h; cases h
      | true =>
        rw [hb] at h
        simp only [cond_true] at h
        rw [Bool.and_eq_true, Bool.not_eq_true'] at hb
        have hd := afterAll_deps.1 hb.2
        split at h
        · cases h
        · rename_i q hq
          have ih := build_plan hq
          split at h
          · rename_i he
            cases h
            exact .n l i o q ho hb.1 he hd ih
          · rename_i he
            cases hon : only ops 0 l i with
            | false => rw [hon] at h; cases h
            | true =>
              rw [hon] at h
              cases h
              refine .e l i o q ho hb.1 he hd (fun k p hk hl hd => ?_) ih
              have := only_spec ops 0 l i k p hon hk (by rw [Nat.zero_add]; exact hl) hd
              omega
theorem planOf_spec {ops : List Oper} {p : List PStep} (h : planOf ops = some p) : ∃ ms, Stat ops ms ∧ PlanFrom ops ms 0 p := by
  unfold planOf at h
  generalize hms : masks ops [] = ms at h
  simp only at h
  cases hb : (edgesOk ops 0 && ((zipI ops 0).all fun x => (zipI ops 0).all fun y => apart2 ops ms x.1 x.2 y.1 y.2)) with
  | false => rw [hb] at h; cases h
  | true =>
    rw [hb] at h
    simp only [cond_true] at h
    rw [Bool.and_eq_true] at hb
    have hap : ∀ i j o p, ops[i]? = some o → ops[j]? = some p → apart2 ops ms i o j p = true := fun i j o p hi hj => by
      have h1 := zipI_mem ops 0 i o hi
      have h2 := zipI_mem ops 0 j p hj
      rw [Nat.zero_add] at h1 h2
      exact List.all_eq_true.1 (List.all_eq_true.1 hb.2 _ h1) _ h2
    refine ⟨ms, ⟨fun i o hi j hj => ?_, fun i j hj => ?_, fun i o d hi hd hE => ?_, fun i j o p d hne hi hj hd hl => ?_, fun i j o p d hne hi hj hd ho => ?_⟩, build_plan h⟩
    · have := edges_lt ops 0 i o hb.1 hi j hj; omega
    · rw [← hms] at hj
      exact masks_bit ops [] rfl (fun i j hj => by simp at hj) i j hj
    · have := hap i i o o hi hi
      unfold apart2 at this
      rw [hd] at this
      simp only [beq_d, decide_true, cond_true, hE, Bool.or_false, Bool.not_eq_true'] at this
      intro hm
      rw [List.contains_iff_mem.2 hm] at this
      cases this
    · have := hap i j o p hi hj
      unfold apart2 at this
      rw [hd] at this
      simp only [beq_d, hne, decide_false, cond_false, List.contains_iff_mem.2 hl, cond_true, Bool.and_eq_true, Bool.or_eq_true] at this
      exact this.1
    · have := hap i j o p hi hj
      unfold apart2 at this
      rw [hd, ho] at this
      simp only [beq_d, hne, decide_false, cond_false, decide_true, cond_true] at this
      cases hc : (looks ops o).contains d with
      | true => rw [hc] at this; simp only [cond_true, Bool.and_eq_true] at this; exact this.2
      | false => rw [hc] at this; simp only [cond_false, Bool.and_eq_true] at this; exact this
end Go.Proofs.YtlllhhjlfmhmlaaGreatDoor.VM
