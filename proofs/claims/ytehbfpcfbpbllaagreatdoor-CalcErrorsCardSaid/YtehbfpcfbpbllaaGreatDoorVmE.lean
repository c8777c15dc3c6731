/- The machine of plain data: operations that change memory are sound. No program in sight. -/
import Derived.Test.YtehbfpcfbpbllaaGreatDoorVmF
namespace Go.Proofs.YtehbfpcfbpbllaaGreatDoor.VM
open Go Go.RowKit
set_option linter.unusedSectionVars false
variable [Sy]
/-- one block has changed, or none -/
structure Chg (w w' : World) (b : Nat) : Prop where
  os : w'.os = w.os
  tape : w'.tape = w.tape
  output : w'.output = w.output
  size : w'.heap.size = w.heap.size
  other : ∀ k, k ≠ b → w'.heap[k]? = w.heap[k]?
theorem Chg.refl (w : World) (b : Nat) : Chg w w b := ⟨rfl, rfl, rfl, rfl, fun _ _ => rfl⟩
theorem Chg.trans {w w1 w2 : World} {b : Nat} (h : Chg w w1 b) (k : Chg w1 w2 b) : Chg w w2 b :=
  ⟨k.os.trans h.os, k.tape.trans h.tape, k.output.trans h.output, k.size.trans h.size, fun i hi => (k.other i hi).trans (h.other i hi)⟩
theorem Chg.below {w w' : World} {b N : Nat} (h : Chg w w' b) (hb : N ≤ b) : Below N w w' := ⟨h.os, h.tape, h.output, by rw [h.size]; exact Nat.le_refl _, fun k hk => h.other k (by omega)⟩
def Mp.put (σ : Mp) (B : Nat) (p : Nat × Nat) : Mp := fun C => if C = B then some p else σ C
theorem Mp.put_same (σ : Mp) (B : Nat) (p : Nat × Nat) : (σ.put B p) B = some p := by simp [Mp.put]
theorem Mp.le_put {σ : Mp} {B : Nat} {p : Nat × Nat} (h : σ B = none) : Mp.le σ (σ.put B p) := fun C q hq => by
  unfold Mp.put
  split
  · rename_i e; subst e; rw [h] at hq; cases hq
  · exact hq
section
variable {P : Program} {E : Env} {σ : Mp} {w w' : World} {N : Nat} {h : Hp}
theorem Rel.free (R : Rel N σ h w) : σ h.n = none := by
  cases hc : σ h.n with
  | none => rfl
  | some p => obtain ⟨b, n⟩ := p; have := (R.has _ _ _ hc).1; omega
theorem Hp.get_set (h : Hp) (i j : Nat) (b : Blk) : (h.set i b).t.get j = if j = i then some b else h.t.get j := T.get_put _ _ _ _
theorem Hp.get_new (h : Hp) (j : Nat) (b : Blk) : (h.new b).t.get j = if j = h.n then some b else h.t.get j := T.get_put _ _ _ _
/-- a block that is alive, and its own, is changed -/
theorem Rel.change (R : Rel N σ h w) {B b n : Nat} (e : σ B = some (b, n)) {k k' : Blk} (hk : h.t.get B = some k) (hd : k ≠ .dead) (hro : ∀ vs el, k ≠ .cells vs el true) (hc : Chg w w' b)
    (hb : ∀ o, w'.heap[b]? = some o → RepB σ n k' o) : Rel N σ (h.set B k') w' := by
  have hN : N ≤ b := by
    rcases Nat.lt_or_ge b N with h1 | h1
    · rcases R.old B b n e h1 with ⟨vs, el, h2⟩ | h2
      · rw [hk] at h2; injection h2 with h2; exact absurd h2 (hro vs el)
      · rw [hk] at h2; injection h2 with h2; exact absurd h2 hd
    · exact h1
  refine ⟨fun C c m hC => ?_, fun C D c m q hC hD => ?_, fun C c m hC hlt => ?_, by rw [hc.size]; exact R.base, fun p hp => ⟨(R.tab p hp).1, (hc.other _ (by have := (R.tab p hp).1; omega)).trans (R.tab p hp).2⟩⟩
  · obtain ⟨h1, h2, k2, h3, h4⟩ := R.has C c m hC
    refine ⟨h1, by rw [hc.size]; exact h2, ?_⟩
    by_cases hCB : C = B
    · subst hCB
      rw [e] at hC
      cases hC
      exact ⟨k', by rw [Hp.get_set, if_pos rfl], hb⟩
    · refine ⟨k2, by rw [Hp.get_set, if_neg hCB]; exact h3, fun o ho => ?_⟩
      by_cases hcb : c = b
      · subst hcb
        rcases R.inj C B c m n hC e with h5 | h5 | h5
        · exact absurd h5 hCB
        · rw [h3] at h5; cases h5; trivial
        · rw [hk] at h5; injection h5 with h5; exact absurd h5 hd
      · rw [hc.other c hcb] at ho
        exact h4 o ho
  · rcases R.inj C D c m q hC hD with h5 | h5 | h5
    · exact .inl h5
    · right; left
      rw [Hp.get_set]
      split
      · rename_i h6; subst h6; rw [hk] at h5; injection h5 with h5; exact absurd h5 hd
      · exact h5
    · right; right
      rw [Hp.get_set]
      split
      · rename_i h6; subst h6; rw [hk] at h5; injection h5 with h5; exact absurd h5 hd
      · exact h5
  · rw [Hp.get_set]
    split
    · rename_i h6
      subst h6
      rw [e] at hC
      cases hC
      omega
    · exact R.old C c m hC hlt
/-- the world has changed in what is not told of -/
theorem Rel.world (R : Rel N σ h w) (hb : Below w.heap.size w w') : Rel N σ h w' := by
  refine ⟨fun C c m hC => ?_, R.inj, R.old, Nat.le_trans R.base hb.size, fun p hp => ⟨(R.tab p hp).1, (hb.block _ (Nat.lt_of_lt_of_le (R.tab p hp).1 R.base)).trans (R.tab p hp).2⟩⟩
  obtain ⟨h1, h2, k2, h3, h4⟩ := R.has C c m hC
  exact ⟨h1, Nat.lt_of_lt_of_le h2 hb.size, k2, h3, fun o ho => h4 o (by rw [hb.block c h2] at ho; exact ho)⟩
/-- a block that the machine has already comes up in the world -/
theorem Rel.come (R : Rel N σ h w) {B b n : Nat} {k : Blk} (hB : B < h.n) (hk : h.t.get B = some k) (hσ : σ B = none) (hw : Below w.heap.size w w') (hb : w.heap.size ≤ b) (hb2 : b < w'.heap.size) (hr : ∀ o, w'.heap[b]? = some o → RepB σ n k o) :
    Rel N (σ.put B (b, n)) h w' := by
  have hle : Mp.le σ (σ.put B (b, n)) := Mp.le_put hσ
  have R' := R.world hw
  have key : ∀ C c m, (σ.put B (b, n)) C = some (c, m) → (C = B ∧ c = b ∧ m = n) ∨ σ C = some (c, m) := fun C c m hC => by
    unfold Mp.put at hC
    split at hC
    · rename_i e; cases hC; exact .inl ⟨e, rfl, rfl⟩
    · exact .inr hC
  refine ⟨fun C c m hC => ?_, fun C D c m q hC hD => ?_, fun C c m hC hlt => ?_, R'.base, R'.tab⟩
  · rcases key C c m hC with ⟨rfl, rfl, rfl⟩ | h1
    · exact ⟨hB, hb2, k, hk, fun o ho => (hr o ho).mono hle⟩
    · obtain ⟨h2, h3, k2, h4, h5⟩ := R'.has C c m h1
      exact ⟨h2, h3, k2, h4, fun o ho => (h5 o ho).mono hle⟩
  · rcases key C c m hC with ⟨rfl, rfl, rfl⟩ | h1 <;> rcases key D c q hD with ⟨e1, e2, e3⟩ | h2
    · exact .inl e1.symm
    · exfalso; have := (R.has D c q h2).2.1; omega
    · exfalso; subst e2; have := (R.has C c m h1).2.1; omega
    · exact R.inj C D c m q h1 h2
  · rcases key C c m hC with ⟨rfl, rfl, rfl⟩ | h1
    · exfalso; have := R.base; omega
    · exact R.old C c m h1 hlt
/-- the machine has a block more, of which nothing is told -/
theorem Rel.more (R : Rel N σ h w) (k : Blk) : Rel N σ (h.new k) w := by
  have hne : ∀ C c m, σ C = some (c, m) → C ≠ h.n := fun C c m hC e => by have := (R.has C c m hC).1; omega
  refine ⟨fun C c m hC => ?_, fun C D c m q hC hD => ?_, fun C c m hC hlt => ?_, R.base, R.tab⟩
  · obtain ⟨h1, h2, k2, h3, h4⟩ := R.has C c m hC
    exact ⟨Nat.lt_succ_of_lt h1, h2, k2, by rw [Hp.get_new, if_neg (hne C c m hC)]; exact h3, h4⟩
  · rw [Hp.get_new, Hp.get_new, if_neg (hne C c m hC), if_neg (hne D c q hD)]
    exact R.inj C D c m q hC hD
  · rw [Hp.get_new, if_neg (hne C c m hC)]
    exact R.old C c m hC hlt
/-- a map that goes on: of what the machine had nothing is told that was not -/
structure Mp.Ext (n : Nat) (σ τ : Mp) : Prop where
  le : Mp.le σ τ
  same : ∀ B, B < n → τ B = σ B
theorem Mp.Ext.refl (n : Nat) (σ : Mp) : Mp.Ext n σ σ := ⟨Mp.le.refl σ, fun _ _ => rfl⟩
theorem Mp.Ext.trans {n m : Nat} {a b c : Mp} (h : Mp.Ext n a b) (k : Mp.Ext m b c) (hm : n ≤ m) : Mp.Ext n a c := ⟨h.le.trans k.le, fun B hB => (k.same B (by omega)).trans (h.same B hB)⟩
theorem Mp.Ext.put {σ : Mp} {n B : Nat} {p : Nat × Nat} (h : σ B = none) (hn : n ≤ B) : Mp.Ext n σ (σ.put B p) := ⟨Mp.le_put h, fun C hC => by unfold Mp.put; rw [if_neg (by omega)]⟩
/-- what an operation makes of the world, with a value -/
def Does (N : Nat) (σ : Mp) (h : Hp) (w : World) (v : V) (h' : Hp) (x : Value) (w' : World) : Prop := ∃ σ', Mp.Ext h.n σ σ' ∧ h.n ≤ h'.n ∧ Rep σ' v x ∧ Rel N σ' h' w' ∧ Below N w w'
theorem Does.stay {v : V} {x : Value} {h' : Hp} (hr : Rep σ v x) (R : Rel N σ h' w') (hb : Below N w w') (hn : h.n ≤ h'.n) : Does N σ h w v h' x w' := ⟨σ, Mp.Ext.refl _ _, hn, hr, R, hb⟩
theorem Rel.made (R : Rel N σ h w) {fr : Fr} {blk : Blk} {x : Value} (hm : Made σ w fr blk x w') : Does N σ h w (fr.at h.n) (h.new blk) x w' := by
  obtain ⟨b, n, h1, h2, h3, h4, h5⟩ := hm
  refine ⟨σ.put h.n (b, n), Mp.Ext.put R.free (Nat.le_refl _), Nat.le_succ _, h3 _ _ (Mp.put_same _ _ _), ?_, h5.mono R.base⟩
  exact (R.more blk).come (Nat.lt_succ_self _) (by rw [Hp.get_new, if_pos rfl]) R.free h5 h1 h2 h4

theorem one_of_cell {v : V} {x : Value} (hc : v.isCell = true) (hr : Rep σ v x) : x.oneCell' = true := by
  cases hr <;> first | rfl | assumption | cases hc
theorem allCells_rep : ∀ {l : List V} {xs : List Value}, allCells l = true → RepL σ l xs → ∀ x ∈ xs, x.oneCell' = true
  | [], _, _, .nil => by simp
  | v :: l, _, h, .cons _ x _ xs hr hl => by
    rw [allCells] at h
    cases hc : v.isCell with
    | false => rw [hc] at h; cases h
    | true =>
      rw [hc] at h
      intro y hy
      rcases List.mem_cons.1 hy with rfl | hy
      · exact one_of_cell hc hr
      · exact allCells_rep h hl y hy
theorem store_run {b off el : Nat} {fz : Nat × Nat} : ∀ (ys : List Value) (k : Nat) (xs : List Value) (w : World), w.heap[b]? = some (.cells xs.toArray el fz) → (∀ i, i < xs.length → ¬ (fz.1 ≤ i ∧ i < fz.2)) → (ys = [] ∨ off + k + ys.length ≤ xs.length) → (∀ y ∈ ys, y.oneCell' = true) →
    ∃ w', (storeCells ⟨b, off, none⟩ ys k).run P w = .ok () w' ∧ w'.heap[b]? = some (.cells (putAll off ys k xs).toArray el fz) ∧ Chg w w' b
  | [], k, xs, w, hw, _, _, _ => ⟨w, rfl, hw, Chg.refl _ _⟩
  | y :: ys, k, xs, w, hw, hf, hl, h1 => by
    have hlt : off + k < xs.length := by rcases hl with h | h <;> simp at h; omega
    have hcell : w.cell? ⟨b, off + k, none⟩ = some xs[off + k] := by simp [World.cell?, hw, hlt]
    have hfro : w.frozen? ⟨b, off + k, none⟩ = false := by
      have := hf (off + k) hlt
      simp only [World.frozen?, hw, Bool.and_eq_false_iff, decide_eq_false_iff_not]
      omega
    have hst : (store ((⟨b, off, none⟩ : Addr).add k) y).run P w = .ok () (w.setCell ⟨b, off + k, none⟩ y) := by
      rw [addr_add, run_store P w _ y _ (h1 y (by simp)), hcell]
      simp [hfro]
    have e1 : (w.setCell ⟨b, off + k, none⟩ y).heap[b]? = some (.cells (xs.set (off + k) y).toArray el fz) := by
      simp [World.setCell, Array.getElem?_modify, hw]
    have c1 : Chg w (w.setCell ⟨b, off + k, none⟩ y) b := ⟨rfl, rfl, rfl, by simp [World.setCell], fun i hi => by simp [World.setCell, Array.getElem?_modify, Ne.symm hi]⟩
    have hl' : ys = [] ∨ off + (k + 1) + ys.length ≤ (xs.set (off + k) y).length := by
      rcases hl with h | h
      · simp at h
      · right; simp at h ⊢; omega
    obtain ⟨w', h2, h3, h4⟩ := store_run ys (k + 1) (xs.set (off + k) y) _ e1 (by simpa using hf) hl' (fun z hz => h1 z (by simp [hz]))
    refine ⟨w', ?_, h3, c1.trans h4⟩
    rw [storeCells, Sem.run_bind, hst, Result.andThen_ok]
    exact h2
/-- cells of a block that is alive and its own are written -/
theorem wr_sound (R : Rel N σ h w) {B b n off : Nat} (e : σ B = some (b, n)) {ws : List V} {ys : List Value} (hw : RepL σ ws ys) {h' : Hp} (hh : wrCells h B off ws = some h') :
    ∃ w', (storeCells ⟨b, off, none⟩ ys).run P w = .ok () w' ∧ Rel N σ h' w' ∧ Below N w w' := by
  unfold wrCells at hh
  split at hh
  · rename_i vs el hB
    cases hc : allCells ws with
    | false => rw [hc] at hh; cases hh
    | true =>
      rw [hc] at hh
      simp only [cond_true, Option.bind_eq_some_iff, Option.some.injEq] at hh
      obtain ⟨r, hs, rfl⟩ := hh
      obtain ⟨el', xs, zs, fz, h1, h2, h3, h4⟩ := R.cells e (vs := vs) (by unfold rdCells; rw [hB])
      have hel : el' = el := by
        obtain ⟨_, hb, k, hk, ho⟩ := R.has B b n e
        rw [hB] at hk
        cases hk
        obtain ⟨xs', ys', fz', e1, _⟩ := (ho _ h1).out
        injection e1 with _ e2
      subst hel
      have hlen : ys = [] ∨ off + ys.length ≤ xs.length := by
        rw [← hw.length, ← h2.length]
        rcases spl_len ws hs with h5 | h5
        · left; subst h5; cases hw; rfl
        · exact .inr h5
      obtain ⟨w', h5, h6, h7⟩ := store_run (P := P) (b := b) (off := off) (el := el') (fz := fz) ys 0 (xs ++ zs) w h1 (fun i hi => h4 _ hB i (by rw [← h3]; exact hi)) (hlen.imp id fun h => by simp; omega) (allCells_rep hc hw)
      have hN : N ≤ b := by
        rcases Nat.lt_or_ge b N with h8 | h8
        · rcases R.old B b n e h8 with ⟨vs', el', h9⟩ | h9 <;> rw [hB] at h9 <;> cases h9
        · exact h8
      refine ⟨w', h5, R.change e hB (by simp) (by simp) h7 (fun o ho => ?_), h7.below hN⟩
      rw [h6] at ho
      cases ho
      refine ⟨putAll off ys 0 xs, zs, fz, ?_, spl_rep hw h2 (k := 0) hs, ?_, fun _ => h4 _ hB⟩
      · rcases hlen with h8 | h8
        · subst h8; rfl
        · rw [putAll_append _ _ _ _ _ (by omega)]
      · rw [List.length_append, putAll_length, ← List.length_append, h3]
  · cases hh
theorem wr_n {B off : Nat} {ws : List V} {h' : Hp} (hh : wrCells h B off ws = some h') : h.n ≤ h'.n := by
  unfold wrCells at hh
  split at hh
  · cases hc : allCells ws with
    | false => rw [hc] at hh; cases hh
    | true =>
      rw [hc] at hh
      simp only [cond_true, Option.bind_eq_some_iff, Option.some.injEq] at hh
      obtain ⟨r, _, rfl⟩ := hh
      exact Nat.le_refl _
  · cases hh
theorem store_n {ty : TypeId} {a v : V} {h' : Hp} (hs : vstore E h ty a v = some h') : h.n ≤ h'.n := by
  unfold vstore at hs
  split at hs
  · rw [Option.bind_eq_some_iff] at hs
    obtain ⟨i, _, hs⟩ := hs
    cases hc : Nat.beq v.cells.length i.size with
    | false => rw [hc] at hs; cases hs
    | true => rw [hc] at hs; exact wr_n hs
  · cases hs
theorem store_sound (hE : EnvOK P E) (R : Rel N σ h w) {ty : TypeId} {a v : V} {ax vx : Value} {h' : Hp} (hs : vstore E h ty a v = some h') (ha : Rep σ a ax) (hv : Rep σ v vx) :
    ∃ w', (Instr.storeAt ty ax vx).run P w = .ok () w' ∧ Rel N σ h' w' ∧ Below N w w' := by
  unfold vstore at hs
  split at hs
  · cases ha
    rw [Option.bind_eq_some_iff] at hs
    obtain ⟨i, hi, hs⟩ := hs
    obtain ⟨d, inf, T⟩ := hE.is hi
    cases hc : Nat.beq v.cells.length i.size with
    | false => rw [hc] at hs; cases hs
    | true =>
      rw [hc] at hs
      simp only [cond_true] at hs
      have hlen := Nat.eq_of_beq_eq_true hc
      have hr := hv.cells
      obtain ⟨w', h1, h2, h3⟩ := wr_sound (P := P) R ‹_› hr hs
      refine ⟨w', ?_, h2, h3⟩
      have hsz : ¬ vx.cells.size ≠ inf.size := by
        have := hr.length
        rw [hlen, T.size] at this
        simpa using this.symm
      simp only [Instr.storeAt, Instr.sureAddr, storeVar, Sem.run_bind, Sem.run_pure, Result.andThen_ok, run_sizeOf T.info]
      rw [if_neg hsz]
      exact h1
  · cases hs
/-- the cells of what is appended -/
theorem elems_sound (R : Rel N σ h w) {sz n : Nat} {y : V} {yx : Value} {ws : List V} (he : elemsV h sz y = some (ws, n)) (hy : Rep σ y yx) (hb : (∃ s, y = .str s) → sz = 1) :
    ∃ ys, RepL σ ws ys ∧ (Builtin.firstCells sz n yx).run P w = .ok ys.toArray w ∧ (Builtin.lenOf yx).run P w = .ok n w := by
  cases hy <;> simp only [elemsV] at he <;> (try (cases he; done))
  case str s hs =>
    simp only [Option.some.injEq, Prod.mk.injEq] at he
    obtain ⟨rfl, rfl⟩ := he
    refine ⟨s.map fun (b : Nat) => Value.int .u8 (b : Int), ?_, ?_, by simp [Builtin.lenOf, bytesOf_size]⟩
    · clear hb
      induction s with
      | nil => exact .nil
      | cons b s ih => exact .cons _ _ _ _ (.int _ _) (ih (fun z hz => hs z (by simp [hz])))
    · have : ((bytesOf s).extract 0 s.length).data.map (fun b => Value.int .u8 (b.toNat : Int)) = (s.map fun (b : Nat) => Value.int .u8 (b : Int)).toArray := by
        have e : (bytesOf s).extract 0 s.length = bytesOf s := by
          rw [← bytesOf_size s]; simp
        rw [e]
        apply Array.toList_inj.1
        simp only [bytesOf, Array.toList_map, List.map_map]
        apply List.map_congr_left
        intro b hb
        simp [toUInt8_toNat (hs b hb)]
      simp only [Builtin.firstCells, Sem.run_pure, this]
  case nils =>
    simp only [Option.some.injEq, Prod.mk.injEq] at he
    obtain ⟨rfl, rfl⟩ := he
    exact ⟨[], .nil, rfl, rfl⟩
  case emp aa c =>
    simp only [Option.some.injEq, Prod.mk.injEq] at he
    obtain ⟨rfl, rfl⟩ := he
    refine ⟨[], .nil, ?_, rfl⟩
    cases aa with
    | none => rfl
    | some a => show (loadCells a (0 * sz)).run P w = _; rw [Nat.zero_mul]; rfl
  case sl B off len cap b m hσ =>
    simp only [Option.bind_eq_some_iff, Option.some.injEq, Prod.mk.injEq] at he
    obtain ⟨vs, h1, l, h2, rfl, rfl⟩ := he
    obtain ⟨xs, h3, h4⟩ := (R.at_ hσ h1).cells (P := P) h2
    exact ⟨xs, h3, h4, rfl⟩
  case slo B off len lo z b m c hσ _ _ _ =>
    simp only [Option.bind_eq_some_iff, Option.some.injEq, Prod.mk.injEq] at he
    obtain ⟨vs, h1, l, h2, rfl, rfl⟩ := he
    obtain ⟨xs, h3, h4⟩ := (R.at_ hσ h1).cells (P := P) h2
    exact ⟨xs, h3, h4, rfl⟩
theorem elemsW_sound (hE : EnvOK P E) (R : Rel N σ h w) {sz n : Nat} {y : V} {yx : Value} {ws : List V} (he : elemsW E h sz y = some (ws, n)) (hy : Rep σ y yx) (hb : isStr y = true → sz = 1) :
    ∃ ys, RepL σ ws ys ∧ (Builtin.firstCells sz n yx).run P w = .ok ys.toArray w ∧ (Builtin.lenOf yx).run P w = .ok n w := by
  unfold elemsW at he
  split at he
  · rename_i j
    simp only [Option.bind_eq_some_iff, Option.some.injEq, Prod.mk.injEq] at he
    obtain ⟨r, hr, l, hl, rfl, rfl⟩ := he
    obtain rfl : r = .tup l := by
      cases r <;> first | (cases hl; done) | skip
      cases hl
      rfl
    obtain ⟨s, e1, e2⟩ := hE.so.bytes _ _ hr
    have hlen : l.length = s.length := by
      have := congrArg List.length e2
      simpa [bytesV] using this
    have hy2 := den_rep hy
    rw [e1] at hy2
    obtain ⟨ys, h1, h2, h3⟩ := elems_sound (P := P) R (sz := sz) (n := s.length) (ws := bytesV s) rfl hy2 (fun _ => hb rfl)
    rw [hlen]
    exact ⟨ys, repL_den (by rw [e2]; exact h1), h2, h3⟩
  · exact elems_sound R he hy (fun ⟨s, e⟩ => hb (by rw [e]; rfl))
theorem Rel.kill (R : Rel N σ h w) (B : Nat) : Rel N σ (h.set B .dead) w := by
  refine ⟨fun C c m hC => ?_, fun C D c m q hC hD => ?_, fun C c m hC hlt => ?_, R.base, R.tab⟩
  · obtain ⟨h1, h2, k2, h3, h4⟩ := R.has C c m hC
    rw [Hp.get_set]
    split
    · exact ⟨h1, h2, .dead, rfl, fun _ _ => trivial⟩
    · exact ⟨h1, h2, k2, h3, h4⟩
  · rw [Hp.get_set, Hp.get_set]
    rcases R.inj C D c m q hC hD with h1 | h1 | h1
    · exact .inl h1
    · right; left; split
      · rfl
      · exact h1
    · right; right; split
      · rfl
      · exact h1
  · rw [Hp.get_set]
    split
    · exact .inr rfl
    · exact R.old C c m hC hlt
theorem growBy_le (n : Nat) : ∀ r c, Builtin.growBy n r c ≤ 2 ^ r * (c + 192)
  | 0, c => by simp [Builtin.growBy]
  | r + 1, c => by
    rw [Builtin.growBy]
    have hp : 0 < 2 ^ r := Nat.pow_pos (by omega)
    split
    · have : c + 192 ≤ 2 ^ (r + 1) * (c + 192) := Nat.le_mul_of_pos_left _ (Nat.pow_pos (by omega))
      omega
    · refine Nat.le_trans (growBy_le n r _) ?_
      rw [Nat.pow_succ, Nat.mul_assoc]
      exact Nat.mul_le_mul_left _ (by omega)
theorem next_le {need cap : Nat} (h : cap < need) (h2 : need ≤ 1048576) : Builtin.nextslicecap need cap ≤ 33554432 := by
  unfold Builtin.nextslicecap
  split
  · omega
  · split
    · omega
    · have := growBy_le need 4 cap
      omega
theorem zeroCells_len (z : Array Value) (n : Nat) : (Builtin.zeroCells z n).size = n * z.size := by simp [Builtin.zeroCells]
/-- a new row for what grows -/
theorem grow_run {e : TypeId} {j : TI} {d : TypeDesc} {inf : TypeInfo} (T : TyIs P e j d inf) {ts : Array TypeId} {t u : TypeId} {du : TypeDesc} {ty : TypeId} {yx : Value} {base : Option Addr} {len cap n : Nat} {l ws : List V} {xs ys : List Value}
    (h0 : ts[0]? = some t) (h1 : ts[1]? = some u) (ht : P.underlying t = some (.slice e)) (hu : P.underlying u = some du) (hdu : ∀ k, du ≠ .int k) (hok : appOK j (len + n) = true) (hlt : ¬ len + n ≤ cap)
    (hl : RepL σ l xs) (hw : RepL σ ws ys) (hlen : l.length = len * j.size) (hwl : ws.length = n * j.size) (ho : (Builtin.firstCells j.size len (.slice base len cap)).run P { w with drawn := w.drawn + 1 } = .ok xs.toArray { w with drawn := w.drawn + 1 }) (hn : (Builtin.firstCells j.size n yx).run P { w with drawn := w.drawn + 1 } = .ok ys.toArray { w with drawn := w.drawn + 1 })
    (hno : (Builtin.lenOf yx).run P w = .ok n w) : ∃ x w', (Builtin.append_ ts ty #[.slice base len cap, yx]).run P w = .ok x w' ∧ Made σ w (.slo (len + n) j.size) (.cells (l ++ ws) e false) x w' := by
  simp only [appOK, Bool.and_eq_true, ble_d, beq_d, decide_eq_true_iff, Option.isSome_iff_exists] at hok
  obtain ⟨⟨⟨c1, c2⟩, c3⟩, z, hz⟩ := hok
  rw [hz] at c3
  simp only [Option.getD_some] at c3
  obtain ⟨zv, z1, z2⟩ := zero_rep (σ := σ) T hz
  have hzs : zv.cells.size = j.size := by have := z2.length; rw [c3] at this; simpa using this.symm
  let wd : World := { w with drawn := w.drawn + 1 }
  generalize hcap : Question.cut (.appendCap (len + n) cap e) (w.tape w.drawn (.appendCap (len + n) cap e)) = nc
  have hle : len + n ≤ nc := by rw [← hcap]; simp [Question.cut]
  generalize harr : xs.toArray ++ ys.toArray ++ Builtin.zeroCells zv.cells (nc - (len + n)) = arr
  have hx1 := hl.length
  have hy1 := hw.length
  have hsz : arr.size = nc * j.size := by
    rw [← harr]
    simp only [Array.size_append, List.size_toArray, zeroCells_len, ← hx1, ← hy1, hlen, hwl, hzs]
    rw [← Nat.add_mul, ← Nat.add_mul]
    congr 1
    omega
  refine ⟨.slice (some ⟨w.heap.size, 0, none⟩) (len + n) nc, wd.alloc (.cells arr e), ?_, w.heap.size, nc * j.size, Nat.le_refl _, by simp [wd], fun τ B hB => ?_, fun o ho => ?_, ?_⟩
  · have g1 : ((du matches .int _ : Bool)) = false := by cases du <;> first | rfl | exact absurd rfl (hdu _)
    have g2 : ¬ (((len + n : Nat) : Int) > IntKind.i64.max ∧ (false = true ∨ inf.bytes = 0)) := fun ⟨h, _⟩ => by
      have hm : IntKind.i64.max = 9223372036854775807 := by decide
      rw [hm] at h; omega
    have g3 : ¬ Builtin.nextslicecap (len + n) cap * inf.bytes > 2 ^ 48 := by
      have := next_le (by omega : cap < len + n) c1
      have h5 : Builtin.nextslicecap (len + n) cap * inf.bytes ≤ 33554432 * 65536 := Nat.mul_le_mul this (by rw [← T.bytes]; exact c2)
      omega
    unfold Builtin.append_
    simp only [h0, h1, List.getElem?_toArray, List.getElem?_cons_zero, List.getElem?_cons_succ]
    rw [Sem.run_bind, run_underlying ht, Result.andThen_ok]
    simp only [Sem.run_bind, run_sizeOf T.info, Result.andThen_ok, run_underlying hu, Sem.run_pure]
    rw [← T.size]
    have hz2 : ∀ w2 : World, (zeroValue e).run P w2 = .ok zv w2 := fun w2 => run_zeroValue T.info z1
    have hi2 : ∀ w2 : World, (typeInfo e).run P w2 = .ok inf w2 := fun w2 => run_typeInfo T.info
    simp only [Bool.false_eq_true, if_false, Sem.run_bind, hno, Result.andThen_ok, hlt, hi2, false_or, Bool.not_false, if_true]
    rw [if_neg (by simpa using g2), Sem.run_bind, hi2, Result.andThen_ok, if_neg g3]
    simp only [Sem.run_bind, run_choose, Question.forced, Bool.false_eq_true, if_false, Result.andThen_ok, hcap, hi2, run_askRoom, ho, hn, hz2, newRow, run_newObj, Sem.run_pure, harr]
    rfl
  · exact .slo _ _ _ _ _ _ _ _ hB hle (Nat.le_refl _) (by omega)
  · rw [(MapKept.heap_alloc wd (.cells arr e)).1] at ho
    cases ho
    refine ⟨xs ++ ys, (Builtin.zeroCells zv.cells (nc - (len + n))).toList, (0, 0), ?_, hl.append hw, ?_, fun i _ => by simp⟩
    · rw [← harr]
      congr 1
      apply Array.toList_inj.1
      simp
    · rw [← hsz, ← harr]
      simp
      omega
  · exact (Below.refl w.heap.size w).trans ⟨rfl, rfl, rfl, by simp [wd], fun k hk => (MapKept.heap_alloc wd (.cells arr e)).2 k hk⟩
theorem Rel.drewn (R : Rel N σ h w) : Rel N σ h { w with drawn := w.drawn + 1 } := R.world ⟨rfl, rfl, rfl, Nat.le_refl _, fun _ _ => rfl⟩
/-- 'need ≤ cap': in place -/
theorem fit_run {e : TypeId} {j : TI} {d : TypeDesc} {inf : TypeInfo} (T : TyIs P e j d inf) {ts : Array TypeId} {t u : TypeId} {du : TypeDesc} {ty : TypeId} {yx : Value} {b off len cap n : Nat} {ys : List Value}
    (h0 : ts[0]? = some t) (h1 : ts[1]? = some u) (ht : P.underlying t = some (.slice e)) (hu : P.underlying u = some du) (hdu : ∀ k, du ≠ .int k) (hlt : len + n ≤ cap)
    (hn : (Builtin.firstCells j.size n yx).run P w = .ok ys.toArray w) (hno : (Builtin.lenOf yx).run P w = .ok n w) (hst : (storeCells ⟨b, off + len * j.size, none⟩ ys).run P w = .ok () w') :
    (Builtin.append_ ts ty #[.slice (some ⟨b, off, none⟩) len cap, yx]).run P w = .ok (.slice (some ⟨b, off, none⟩) (len + n) cap) w' := by
  unfold Builtin.append_
  simp only [h0, h1, List.getElem?_toArray, List.getElem?_cons_zero, List.getElem?_cons_succ]
  rw [Sem.run_bind, run_underlying ht, Result.andThen_ok]
  simp only [Sem.run_bind, run_sizeOf T.info, Result.andThen_ok, run_underlying hu, Sem.run_pure]
  have g1 : ∀ (A B : Sem Value), (match du with | .int _ => A | _ => B) = B := fun A B => by cases du <;> first | rfl | exact absurd rfl (hdu _)
  rw [← T.size]
  simp only [Bool.false_eq_true, if_false, Sem.run_bind, Sem.run_pure, hno, Result.andThen_ok, hlt, if_true, Bool.not_false, hn, addr_add, hst]
theorem nil_run {e : TypeId} {j : TI} {d : TypeDesc} {inf : TypeInfo} (T : TyIs P e j d inf) {ts : Array TypeId} {t u : TypeId} {du : TypeDesc} {ty : TypeId} {yx : Value} {ys : List Value}
    (h0 : ts[0]? = some t) (h1 : ts[1]? = some u) (ht : P.underlying t = some (.slice e)) (hu : P.underlying u = some du) (hdu : ∀ k, du ≠ .int k)
    (hn : (Builtin.firstCells j.size 0 yx).run P w = .ok ys.toArray w) (hno : (Builtin.lenOf yx).run P w = .ok 0 w) :
    (Builtin.append_ ts ty #[.slice none 0 0, yx]).run P w = .ok (.slice none 0 0) w := by
  unfold Builtin.append_
  simp only [h0, h1, List.getElem?_toArray, List.getElem?_cons_zero, List.getElem?_cons_succ]
  rw [Sem.run_bind, run_underlying ht, Result.andThen_ok]
  simp only [Sem.run_bind, run_sizeOf T.info, Result.andThen_ok, run_underlying hu, Sem.run_pure]
  rw [← T.size]
  simp only [Bool.false_eq_true, if_false, Sem.run_bind, Sem.run_pure, hno, Result.andThen_ok, Nat.le_refl, Nat.add_zero, if_true, Bool.not_false, hn]
theorem putAll_at : ∀ (ys : List Value) (off k : Nat) (xs zs : List Value), xs.length = off + k → ys.length ≤ zs.length → putAll off ys k (xs ++ zs) = xs ++ ys ++ zs.drop ys.length
  | [], _, _, _, _, _, _ => by simp [putAll]
  | y :: ys, off, k, xs, [], _, h => by simp at h
  | y :: ys, off, k, xs, z :: zs, h1, h2 => by
    rw [putAll]
    have e : (xs ++ z :: zs).set (off + k) y = (xs ++ [y]) ++ zs := by
      rw [List.set_append_right _ _ (by omega), h1]
      simp
    rw [e, putAll_at ys off (k + 1) (xs ++ [y]) zs (by simp; omega) (by simpa using h2)]
    simp
/-- what a block had goes on as another block's, in the same place -/
theorem Rel.move (R : Rel N σ h w) {B b m : Nat} (e : σ B = some (b, m)) {k k' : Blk} (hk : h.t.get B = some k) (hd : k ≠ .dead) (hro : ∀ vs el, k ≠ .cells vs el true) (hc : Chg w w' b)
    (hb : ∀ o, w'.heap[b]? = some o → RepB σ m k' o) : Rel N (σ.put h.n (b, m)) ((h.new k').set B .dead) w' ∧ N ≤ b := by
  have hN : N ≤ b := by
    rcases Nat.lt_or_ge b N with h1 | h1
    · rcases R.old B b m e h1 with ⟨vs, el, h2⟩ | h2
      · rw [hk] at h2; injection h2 with h2; exact absurd h2 (hro vs el)
      · rw [hk] at h2; injection h2 with h2; exact absurd h2 hd
    · exact h1
  have hle : Mp.le σ (σ.put h.n (b, m)) := Mp.le_put R.free
  have hBn : B < h.n := (R.has B b m e).1
  have key : ∀ C c q, (σ.put h.n (b, m)) C = some (c, q) → (C = h.n ∧ c = b ∧ q = m) ∨ (C ≠ h.n ∧ σ C = some (c, q)) := fun C c q hC => by
    unfold Mp.put at hC
    split at hC
    · rename_i e; cases hC; exact .inl ⟨e, rfl, rfl⟩
    · rename_i e; exact .inr ⟨e, hC⟩
  have hg : ∀ C, ((h.new k').set B .dead).t.get C = if C = B then some .dead else if C = h.n then some k' else h.t.get C := fun C => by rw [Hp.get_set, Hp.get_new]
  have other : ∀ C c q, σ C = some (c, q) → C ≠ B → c ≠ b ∨ h.t.get C = some .dead := fun C c q hC hne => by
    by_cases hcb : c = b
    · subst hcb
      rcases R.inj C B c q m hC e with h5 | h5 | h5
      · exact absurd h5 hne
      · exact .inr h5
      · rw [hk] at h5; injection h5 with h5; exact absurd h5 hd
    · exact .inl hcb
  refine ⟨⟨fun C c q hC => ?_, fun C D c q q' hC hD => ?_, fun C c q hC hlt => ?_, by rw [hc.size]; exact R.base, fun p hp => ⟨(R.tab p hp).1, (hc.other _ (by have := (R.tab p hp).1; omega)).trans (R.tab p hp).2⟩⟩, hN⟩
  · rw [hg]
    rcases key C c q hC with ⟨rfl, rfl, rfl⟩ | ⟨h1, h2⟩
    · refine ⟨Nat.lt_succ_self _, by rw [hc.size]; exact (R.has B c q e).2.1, k', ?_, fun o ho => (hb o ho).mono hle⟩
      rw [if_neg (by omega), if_pos rfl]
    · obtain ⟨h3, h4, k2, h5, h6⟩ := R.has C c q h2
      refine ⟨Nat.lt_succ_of_lt h3, by rw [hc.size]; exact h4, ?_⟩
      by_cases hCB : C = B
      · exact ⟨.dead, by rw [if_pos hCB], fun _ _ => trivial⟩
      · refine ⟨k2, by rw [if_neg hCB, if_neg h1]; exact h5, fun o ho => ?_⟩
        rcases other C c q h2 hCB with h7 | h7
        · rw [hc.other c h7] at ho; exact (h6 o ho).mono hle
        · rw [h5] at h7; cases h7; trivial
  · rw [hg, hg]
    rcases key C c q hC with ⟨rfl, rfl, rfl⟩ | ⟨h1, h2⟩ <;> rcases key D c q' hD with ⟨e1, e2, e3⟩ | ⟨h3, h4⟩
    · exact .inl e1.symm
    · right; right
      by_cases hDB : D = B
      · rw [if_pos hDB]
      · rcases other D c q' h4 hDB with h7 | h7
        · exact absurd rfl h7
        · rw [if_neg hDB, if_neg h3]; exact h7
    · subst e2
      right; left
      by_cases hCB : C = B
      · rw [if_pos hCB]
      · rcases other C c q h2 hCB with h7 | h7
        · exact absurd rfl h7
        · rw [if_neg hCB, if_neg h1]; exact h7
    · rcases R.inj C D c q q' h2 h4 with h5 | h5 | h5
      · exact .inl h5
      · right; left; split
        · rfl
        · exact h5
      · right; right; split
        · rfl
        · exact h5
  · rw [hg]
    rcases key C c q hC with ⟨rfl, rfl, rfl⟩ | ⟨h1, h2⟩
    · omega
    · split
      · exact .inr rfl
      · exact R.old C c q h2 hlt
theorem elems_len {sz n : Nat} {y : V} {ws : List V} (he : elemsV h sz y = some (ws, n)) (hb : isStr y = true → sz = 1) : ws.length = n * sz := by
  cases y <;> simp only [elemsV] at he <;> (try (cases he; done))
  case str s =>
    simp only [Option.some.injEq, Prod.mk.injEq] at he
    obtain ⟨rfl, rfl⟩ := he
    rw [hb rfl]
    simp [bytesV]
  case nils =>
    simp only [Option.some.injEq, Prod.mk.injEq] at he
    obtain ⟨rfl, rfl⟩ := he
    simp
  case emp =>
    simp only [Option.some.injEq, Prod.mk.injEq] at he
    obtain ⟨rfl, rfl⟩ := he
    simp
  case sl =>
    simp only [Option.bind_eq_some_iff, Option.some.injEq, Prod.mk.injEq] at he
    obtain ⟨vs, _, l, h2, rfl, rfl⟩ := he
    exact (sub_some h2).2.1
  case slo =>
    simp only [Option.bind_eq_some_iff, Option.some.injEq, Prod.mk.injEq] at he
    obtain ⟨vs, _, l, h2, rfl, rfl⟩ := he
    exact (sub_some h2).2.1
theorem elemsW_len {sz n : Nat} {y : V} {ws : List V} (he : elemsW E h sz y = some (ws, n)) (hb : isStr y = true → sz = 1) : ws.length = n * sz := by
  unfold elemsW at he
  split at he
  · simp only [Option.bind_eq_some_iff, Option.some.injEq, Prod.mk.injEq] at he
    obtain ⟨r, _, l, _, rfl, rfl⟩ := he
    rw [hb rfl, Nat.mul_one]
  · exact elems_len he hb
/-- noughts: a new row -/
theorem zgrow_run {e : TypeId} {j : TI} {d : TypeDesc} {inf : TypeInfo} (T : TyIs P e j d inf) {ts : Array TypeId} {t u : TypeId} {k : IntKind} {ty : TypeId} {base : Option Addr} {len cap n : Nat} {l : List V} {xs : List Value}
    (h0 : ts[0]? = some t) (h1 : ts[1]? = some u) (ht : P.underlying t = some (.slice e)) (hu : P.underlying u = some (.int k)) (hok : appOK j (len + n) = true) (hlt : ¬ len + n ≤ cap)
    (hl : RepL σ l xs) (hlen : l.length = len * j.size) (ho : (Builtin.firstCells j.size len (.slice base len cap)).run P { w with drawn := w.drawn + 1 } = .ok xs.toArray { w with drawn := w.drawn + 1 }) :
    ∃ x w', (Builtin.append_ ts ty #[.slice base len cap, .int .i64 n]).run P w = .ok x w' ∧ Made σ w (.slo (len + n) j.size) (.cells (l ++ rep n (j.zero.getD [])) e false) x w' := by
  simp only [appOK, Bool.and_eq_true, ble_d, beq_d, decide_eq_true_iff, Option.isSome_iff_exists] at hok
  obtain ⟨⟨⟨c1, c2⟩, c3⟩, z, hz⟩ := hok
  rw [hz] at c3 ⊢
  simp only [Option.getD_some] at c3 ⊢
  obtain ⟨zv, z1, z2⟩ := zero_rep (σ := σ) T hz
  have hzs : zv.cells.size = j.size := by have := z2.length; rw [c3] at this; simpa using this.symm
  let wd : World := { w with drawn := w.drawn + 1 }
  generalize hcap : Question.cut (.appendCap (len + n) cap e) (w.tape w.drawn (.appendCap (len + n) cap e)) = nc
  have hle : len + n ≤ nc := by rw [← hcap]; simp [Question.cut]
  have hw := rep_rep z2 n
  have hrr : (Builtin.zeroCells zv.cells n) = (repX n zv.cells.toList).toArray := range_rep zv.cells n
  have hwl : (repX n zv.cells.toList).length = n * j.size := by rw [repX_length]; simp [hzs]
  have happ : (if n * j.size = 0 then (#[] : Array Value) else Builtin.zeroCells zv.cells n) = (repX n zv.cells.toList).toArray := by
    split
    · rename_i h; rw [h] at hwl; rw [List.length_eq_zero_iff.1 hwl]
    · exact hrr
  generalize repX n zv.cells.toList = ys at hw hrr hwl happ
  generalize harr : xs.toArray ++ ys.toArray ++ Builtin.zeroCells zv.cells (nc - (len + n)) = arr
  have hx1 := hl.length
  have hsz : arr.size = nc * j.size := by
    rw [← harr]
    simp only [Array.size_append, List.size_toArray, zeroCells_len, ← hx1, hlen, hwl, hzs]
    rw [← Nat.add_mul, ← Nat.add_mul]
    congr 1
    omega
  refine ⟨.slice (some ⟨w.heap.size, 0, none⟩) (len + n) nc, wd.alloc (.cells arr e), ?_, w.heap.size, nc * j.size, Nat.le_refl _, by simp [wd], fun τ B hB => ?_, fun o ho => ?_, ?_⟩
  · have hm : IntKind.i64.max = 9223372036854775807 := by decide
    have g2 : ¬ (((len + n : Nat) : Int) > IntKind.i64.max) := fun h => by rw [hm] at h; omega
    have g3 : ¬ Builtin.nextslicecap (len + n) cap * inf.bytes > 2 ^ 48 := by
      have := next_le (by omega : cap < len + n) c1
      have h5 : Builtin.nextslicecap (len + n) cap * inf.bytes ≤ 33554432 * 65536 := Nat.mul_le_mul this (by rw [← T.bytes]; exact c2)
      omega
    have g4 : IntKind.i64.wrap (n : Int) = n := Go.IntWalk.i64_in _ (by omega)
    have g5 : ¬ ((n : Int) < 0) := by omega
    have g6 : ¬ ((n : Int) * (inf.bytes : Int) > 2 ^ 48) := by
      have h5 : n * inf.bytes ≤ 1048576 * 65536 := Nat.mul_le_mul (by omega) (by rw [← T.bytes]; exact c2)
      have h6 : ((n * inf.bytes : Nat) : Int) ≤ ((1048576 * 65536 : Nat) : Int) := Int.ofNat_le.2 h5
      rw [Int.natCast_mul] at h6
      omega
    unfold Builtin.append_
    simp only [h0, h1, List.getElem?_toArray, List.getElem?_cons_zero, List.getElem?_cons_succ]
    rw [Sem.run_bind, run_underlying ht, Result.andThen_ok]
    simp only [Sem.run_bind, run_sizeOf T.info, Result.andThen_ok, run_underlying hu, Sem.run_pure]
    rw [← T.size]
    have hz2 : ∀ w2 : World, (zeroValue e).run P w2 = .ok zv w2 := fun w2 => run_zeroValue T.info z1
    have hi2 : ∀ w2 : World, (typeInfo e).run P w2 = .ok inf w2 := fun w2 => run_typeInfo T.info
    simp only [if_true, asInt, asIntOf, Sem.run_pure, Sem.run_bind, Result.andThen_ok, g4, g5, if_false, hi2, g6, Int.toNat_natCast, hlt, Bool.not_true, Bool.false_eq_true, true_or, and_true]
    rw [if_neg g2, Sem.run_bind, hi2, Result.andThen_ok, if_neg g3]
    have hap2 : ∀ w2 : World, (if n * j.size = 0 then (pure #[] : Sem (Array Value)) else do let z ← zeroValue e; pure (Builtin.zeroCells z.cells n)).run P w2 = .ok ys.toArray w2 := fun w2 => by
      rw [← happ]
      split
      · rw [Sem.run_pure]
      · rw [Sem.run_bind, hz2, Result.andThen_ok, Sem.run_pure]
    simp only [Sem.run_bind, run_choose, Question.forced, Bool.false_eq_true, if_false, Result.andThen_ok, hcap, hi2, run_askRoom, ho, hap2, hz2, newRow, run_newObj, Sem.run_pure, harr]
    rfl
  · exact .slo _ _ _ _ _ _ _ _ hB hle (Nat.le_refl _) (by omega)
  · rw [(MapKept.heap_alloc wd (.cells arr e)).1] at ho
    cases ho
    refine ⟨xs ++ ys, (Builtin.zeroCells zv.cells (nc - (len + n))).toList, (0, 0), ?_, hl.append hw, ?_, fun i _ => by simp⟩
    · rw [← harr]
      congr 1
      apply Array.toList_inj.1
      simp
    · rw [← hsz, ← harr]
      simp
      omega
  · exact (Below.refl w.heap.size w).trans ⟨rfl, rfl, rfl, by simp [wd], fun k hk => (MapKept.heap_alloc wd (.cells arr e)).2 k hk⟩
/-- noughts: in place -/
theorem zfit_run {e : TypeId} {j : TI} {d : TypeDesc} {inf : TypeInfo} (T : TyIs P e j d inf) {ts : Array TypeId} {t u : TypeId} {k : IntKind} {ty : TypeId} {b off len cap n : Nat} {zv : Value}
    (h0 : ts[0]? = some t) (h1 : ts[1]? = some u) (ht : P.underlying t = some (.slice e)) (hu : P.underlying u = some (.int k)) (hok : appOK j (len + n) = true) (hlt : len + n ≤ cap)
    (z1 : inf.zero = some zv) (hzs : zv.cells.size = j.size) (hst : (storeCells ⟨b, off + len * j.size, none⟩ (repX n zv.cells.toList)).run P w = .ok () w') :
    (Builtin.append_ ts ty #[.slice (some ⟨b, off, none⟩) len cap, .int .i64 n]).run P w = .ok (.slice (some ⟨b, off, none⟩) (len + n) cap) w' := by
  simp only [appOK, Bool.and_eq_true, ble_d, beq_d, decide_eq_true_iff, Option.isSome_iff_exists] at hok
  obtain ⟨⟨⟨c1, c2⟩, c3⟩, z, hz⟩ := hok
  have hrr : (Builtin.zeroCells zv.cells n) = (repX n zv.cells.toList).toArray := range_rep zv.cells n
  have hwl : (repX n zv.cells.toList).length = n * j.size := by rw [repX_length]; simp [hzs]
  have happ : (if n * j.size = 0 then (#[] : Array Value) else Builtin.zeroCells zv.cells n) = (repX n zv.cells.toList).toArray := by
    split
    · rename_i h; rw [h] at hwl; rw [List.length_eq_zero_iff.1 hwl]
    · exact hrr
  generalize repX n zv.cells.toList = ys at hrr hwl happ hst
  have g4 : IntKind.i64.wrap (n : Int) = n := Go.IntWalk.i64_in _ (by omega)
  have g5 : ¬ ((n : Int) < 0) := by omega
  have g6 : ¬ ((n : Int) * (inf.bytes : Int) > 2 ^ 48) := by
    have h5 : n * inf.bytes ≤ 1048576 * 65536 := Nat.mul_le_mul (by omega) (by rw [← T.bytes]; exact c2)
    have h6 : ((n * inf.bytes : Nat) : Int) ≤ ((1048576 * 65536 : Nat) : Int) := Int.ofNat_le.2 h5
    rw [Int.natCast_mul] at h6
    omega
  unfold Builtin.append_
  simp only [h0, h1, List.getElem?_toArray, List.getElem?_cons_zero, List.getElem?_cons_succ]
  rw [Sem.run_bind, run_underlying ht, Result.andThen_ok]
  simp only [Sem.run_bind, run_sizeOf T.info, Result.andThen_ok, run_underlying hu, Sem.run_pure]
  rw [← T.size]
  have hz2 : ∀ w2 : World, (zeroValue e).run P w2 = .ok zv w2 := fun w2 => run_zeroValue T.info z1
  have hi2 : ∀ w2 : World, (typeInfo e).run P w2 = .ok inf w2 := fun w2 => run_typeInfo T.info
  simp only [if_true, asInt, asIntOf, Sem.run_pure, Sem.run_bind, Result.andThen_ok, g4, g5, if_false, hi2, g6, Int.toNat_natCast, hlt, Bool.not_true, Bool.false_eq_true]
  have hap2 : ∀ w2 : World, (if n * j.size = 0 then (pure #[] : Sem (Array Value)) else do let z ← zeroValue e; pure (Builtin.zeroCells z.cells n)).run P w2 = .ok ys.toArray w2 := fun w2 => by
    rw [← happ]
    split
    · rw [Sem.run_pure]
    · rw [Sem.run_bind, hz2, Result.andThen_ok, Sem.run_pure]
  simp only [hap2, Result.andThen_ok, addr_add, hst]
theorem append_sound (hE : EnvOK P E) (R : Rel N σ h w) {ts : Array TypeId} {ty : TypeId} {x y v : V} {xx yx : Value} {h' : Hp} (hc : vappend E h ts x y = some (v, h')) (hx : Rep σ x xx) (hy : Rep σ y yx) :
    ∃ r w', (Builtin.append_ ts ty #[xx, yx]).run P w = .ok r w' ∧ Does N σ h w v h' r w' := by
  simp only [vappend, Option.bind_eq_some_iff] at hc
  obtain ⟨t, h0, u, h1, iu, hiu, i, hi, hc⟩ := hc
  obtain ⟨du, infu, Tu⟩ := hE.is hiu
  obtain ⟨d, inf, T⟩ := hE.is hi
  split at hc
  · rename_i k e hk hk1
    rw [T.k] at hk1
    obtain rfl := kOf_sl hk1.symm
    rw [Tu.k] at hk
    obtain rfl := kOf_int hk.symm
    rw [Option.bind_eq_some_iff] at hc
    obtain ⟨j, hj, hc⟩ := hc
    obtain ⟨d2, inf2, T2⟩ := hE.is hj
    split at hc
    · rename_i n
      cases hy
      unfold zappTo at hc
      split at hc
      · rename_i B off len cap
        cases hx with
        | sl _ _ _ _ b m hσ =>
          cases hok : appOK j (len + n) with
          | false => rw [hok] at hc; cases hc
          | true =>
            rw [hok] at hc
            simp only [cond_true] at hc
            cases hle : Nat.ble (len + n) cap with
            | true =>
              rw [hle] at hc
              simp only [cond_true, Option.bind_eq_some_iff, Option.some.injEq, Prod.mk.injEq] at hc
              obtain ⟨h2, hwr, rfl, rfl⟩ := hc
              have hok2 := hok
              simp only [appOK, Bool.and_eq_true, ble_d, beq_d, decide_eq_true_iff, Option.isSome_iff_exists] at hok2
              obtain ⟨⟨⟨c1, c2⟩, c3⟩, z, hz⟩ := hok2
              rw [hz] at c3 hwr
              simp only [Option.getD_some] at c3 hwr
              obtain ⟨zv, z1, z2⟩ := zero_rep (σ := σ) T2 hz
              have hzs : zv.cells.size = j.size := by have := z2.length; rw [c3] at this; simpa using this.symm
              obtain ⟨w', h3, h4, h5⟩ := wr_sound (P := P) R hσ (rep_rep z2 n) hwr
              exact ⟨_, w', zfit_run T2 h0 h1 T.und Tu.und hok (Nat.le_of_ble_eq_true hle) z1 hzs h3, .stay (.sl _ _ _ _ _ _ hσ) h4 h5 (wr_n hwr)⟩
            | false =>
              rw [hle] at hc
              simp only [cond_false, Option.bind_eq_some_iff, Option.some.injEq, Prod.mk.injEq] at hc
              obtain ⟨vs, h2, l, h3, rfl, rfl⟩ := hc
              obtain ⟨xs, h4, h5⟩ := (R.drewn.at_ hσ h2).cells (P := P) h3
              obtain ⟨r, w', h6, h7⟩ := zgrow_run (σ := σ) (ty := ty) (cap := cap) (base := some ⟨b, off, none⟩) T2 h0 h1 T.und Tu.und hok (fun h => by rw [ble_d] at hle; simp at hle; omega) h4 (sub_some h3).2.1 h5
              exact ⟨r, w', h6, R.made h7⟩
      · cases hc
    · cases hc
  · cases hc
  · rename_i e hk hk1
    rw [T.k] at hk
    obtain rfl := kOf_sl hk.symm
    have hdu : ∀ k, du ≠ .int k := fun k e => by subst e; exact hk1 k (by rw [Tu.k]; rfl)
    rw [Option.bind_eq_some_iff] at hc
    obtain ⟨j, hj, hc⟩ := hc
    obtain ⟨d2, inf2, T2⟩ := hE.is hj
    cases hs : (!isStr y || Nat.beq j.size 1) with
    | false => rw [hs] at hc; cases hc
    | true =>
      rw [hs] at hc
      simp only [cond_true, Option.bind_eq_some_iff] at hc
      obtain ⟨⟨ws, n⟩, he, hc⟩ := hc
      have hb : isStr y = true → j.size = 1 := fun e => by
        rw [e] at hs
        simpa [beq_d] using hs
      have hwl := elemsW_len he hb
      obtain ⟨ys, hw, hn, hno⟩ := elemsW_sound (P := P) hE R he hy hb
      obtain ⟨ys', hw', hn', _⟩ := elemsW_sound (P := P) hE R.drewn he hy hb
      unfold appTo at hc
      cases hx <;> simp only at hc <;> (try (cases hc; done))
      case nils =>
        cases hz : Nat.beq n 0 with
        | true =>
          rw [hz] at hc
          simp only [cond_true, Option.some.injEq, Prod.mk.injEq] at hc
          obtain ⟨rfl, rfl⟩ := hc
          obtain rfl := Nat.eq_of_beq_eq_true hz
          exact ⟨_, w, nil_run T2 h0 h1 T.und Tu.und hdu hn hno, .stay .nils R (Below.refl _ _) (Nat.le_refl _)⟩
        | false =>
          rw [hz] at hc
          simp only [cond_false] at hc
          cases hok : appOK j n with
          | false => rw [hok] at hc; cases hc
          | true =>
            rw [hok] at hc
            simp only [cond_true, Option.some.injEq, Prod.mk.injEq] at hc
            obtain ⟨rfl, rfl⟩ := hc
            have hpos : ¬ 0 + n ≤ 0 := fun h => by rw [beq_d] at hz; simp at hz; omega
            obtain ⟨r, w', h2, h3⟩ := grow_run (σ := σ) (len := 0) (l := []) (xs := []) (ty := ty) (base := none) T2 h0 h1 T.und Tu.und hdu (by rw [Nat.zero_add]; exact hok) hpos .nil hw' (by simp) hwl rfl hn' hno
            rw [Nat.zero_add] at h3
            exact ⟨r, w', h2, R.made h3⟩
      case sl B off len cap b m hσ =>
        cases hle : Nat.ble (len + n) cap with
        | true =>
          rw [hle] at hc
          simp only [cond_true, Option.bind_eq_some_iff, Option.some.injEq, Prod.mk.injEq] at hc
          obtain ⟨h2, hwr, rfl, rfl⟩ := hc
          obtain ⟨w', h3, h4, h5⟩ := wr_sound (P := P) R hσ hw hwr
          exact ⟨_, w', fit_run T2 h0 h1 T.und Tu.und hdu (Nat.le_of_ble_eq_true hle) hn hno h3, .stay (.sl _ _ _ _ _ _ hσ) h4 h5 (wr_n hwr)⟩
        | false =>
          rw [hle] at hc
          simp only [cond_false] at hc
          cases hok : appOK j (len + n) with
          | false => rw [hok] at hc; cases hc
          | true =>
            rw [hok] at hc
            simp only [cond_true, Option.bind_eq_some_iff, Option.some.injEq, Prod.mk.injEq] at hc
            obtain ⟨vs, h2, l, h3, rfl, rfl⟩ := hc
            obtain ⟨xs, h4, h5⟩ := (R.drewn.at_ hσ h2).cells (P := P) h3
            obtain ⟨r, w', h6, h7⟩ := grow_run (σ := σ) (ty := ty) (cap := cap) (base := some ⟨b, off, none⟩) T2 h0 h1 T.und Tu.und hdu hok (fun h => by rw [ble_d] at hle; simp at hle; omega) h4 hw' (sub_some h3).2.1 hwl h5 hn' hno
            exact ⟨r, w', h6, R.made h7⟩
      case slo B off len lo sz b m c hσ hlc hll hm =>
        cases hsz : Nat.beq sz j.size with
        | false => rw [hsz] at hc; cases hc
        | true =>
          rw [hsz] at hc
          simp only [cond_true] at hc
          obtain rfl := Nat.eq_of_beq_eq_true hsz
          cases hle : Nat.ble (len + n) lo with
          | true =>
            rw [hle] at hc
            simp only [cond_true, Option.bind_eq_some_iff, Option.some.injEq, Prod.mk.injEq] at hc
            obtain ⟨h2, hwr, rfl, rfl⟩ := hc
            obtain ⟨w', h3, h4, h5⟩ := wr_sound (P := P) R hσ hw hwr
            have hle2 := Nat.le_of_ble_eq_true hle
            exact ⟨_, w', fit_run T2 h0 h1 T.und Tu.und hdu (by omega) hn hno h3, .stay (.slo _ _ _ _ _ _ _ _ hσ hlc hle2 hm) h4 h5 (wr_n hwr)⟩
          | false =>
            rw [hle] at hc
            simp only [cond_false] at hc
            cases hok : (Nat.beq off 0 && appOK j (len + n)) with
            | false => rw [hok] at hc; cases hc
            | true =>
              rw [hok] at hc
              simp only [cond_true] at hc
              rw [Bool.and_eq_true] at hok
              obtain rfl := Nat.eq_of_beq_eq_true hok.1
              unfold grow at hc
              split at hc
              · rename_i vs el hB
                cases hq : (Nat.beq vs.length (len * j.size) && Nat.beq el e && allCells ws) with
                | false => rw [hq] at hc; cases hc
                | true =>
                  rw [hq] at hc
                  simp only [cond_true, Option.some.injEq, Prod.mk.injEq] at hc
                  obtain ⟨rfl, rfl⟩ := hc
                  simp only [Bool.and_eq_true, beq_d, decide_eq_true_iff] at hq
                  obtain ⟨⟨hvl, rfl⟩, hcell⟩ := hq
                  by_cases hfit : len + n ≤ c
                  · obtain ⟨el', xs, zs, fz, g1, g2, g3, g4⟩ := R.cells hσ (vs := vs) (by unfold rdCells; rw [hB])
                    have hx1 := g2.length
                    have hy1 := hw.length
                    have hcm : (len + n) * j.size ≤ m := by
                      have := Nat.mul_le_mul_right j.size hfit
                      omega
                    have hyz : ys.length ≤ zs.length := by
                      rw [List.length_append] at g3
                      rw [Nat.add_mul] at hcm
                      omega
                    have hel : el' = el := by
                      obtain ⟨_, hb', k, hk, ho⟩ := R.has B b m hσ
                      rw [hB] at hk
                      cases hk
                      obtain ⟨xs', ys', fz', e1, _⟩ := (ho _ g1).out
                      injection e1 with _ e2
                    subst hel
                    obtain ⟨w', k1, k2, k3⟩ := store_run (P := P) (b := b) (off := len * j.size) (el := el') (fz := fz) ys 0 (xs ++ zs) w g1 (fun i hi => g4 _ hB i (by rw [← g3]; exact hi)) (.inr (by simp; omega)) (allCells_rep hcell hw)
                    have hput := putAll_at ys (len * j.size) 0 xs zs (by omega) hyz
                    rw [hput] at k2
                    obtain ⟨m1, m2⟩ := R.move (k' := .cells (vs ++ ws) el' false) hσ hB (by simp) (by simp) k3 (fun o ho => by
                      rw [k2] at ho
                      cases ho
                      refine ⟨xs ++ ys, zs.drop ys.length, fz, rfl, g2.append hw, ?_, fun _ => g4 _ hB⟩
                      rw [← g3]
                      simp
                      omega)
                    refine ⟨_, w', fit_run T2 h0 h1 T.und Tu.und hdu hfit hn hno (by simpa using k1), σ.put h.n (b, m), Mp.Ext.put R.free (Nat.le_refl _), Nat.le_succ _, .slo _ _ _ _ _ _ _ _ (Mp.put_same _ _ _) hfit (Nat.le_refl _) hm, m1, k3.below m2⟩
                  · have hsub : sub vs 0 (len * j.size) = some vs := by
                      unfold sub
                      simp [List.take_of_length_le (Nat.le_of_eq hvl), hvl]
                    obtain ⟨xs, h4, h5⟩ := (R.drewn.at_ hσ (vs := vs) (by unfold rdCells; rw [hB])).cells (P := P) hsub
                    obtain ⟨r, w', h6, h7⟩ := grow_run (σ := σ) (ty := ty) (base := some ⟨b, 0, none⟩) T2 h0 h1 T.und Tu.und hdu hok.2 hfit h4 hw' hvl hwl h5 hn' hno
                    obtain ⟨σ', h8, hn8, h9, h10, h11⟩ := R.made h7
                    exact ⟨r, w', h6, σ', h8, hn8, h9, h10.kill B, h11⟩
              · cases hc
  · cases hc
theorem sub_take {vs l : List V} {off m n : Nat} (h : sub vs off m = some l) (hn : n ≤ m) : sub vs off n = some (l.take n) := by
  obtain ⟨h1, h2, _⟩ := sub_some h
  subst h1
  unfold sub
  simp only [List.length_take, List.length_drop] at h2
  have e : ((vs.drop off).take n).length = n := by simp only [List.length_take, List.length_drop]; omega
  rw [List.take_take, Nat.min_eq_left hn]
  simp only [e, Nat.beq_refl, cond_true]
/-- the first cells of what is copied -/
theorem elems_take (R : Rel N σ h w) {sz n m : Nat} {y : V} {yx : Value} {ws : List V} (he : elemsV h sz y = some (ws, n)) (hy : Rep σ y yx) (hb : isStr y = false) (hm : m ≤ n) :
    ∃ ys, RepL σ (ws.take (m * sz)) ys ∧ (Builtin.firstCells sz m yx).run P w = .ok ys.toArray w ∧ (Builtin.lenOf yx).run P w = .ok n w := by
  cases hy <;> simp only [elemsV] at he <;> (try (cases he; done)) <;> (try (cases hb; done))
  case nils =>
    simp only [Option.some.injEq, Prod.mk.injEq] at he
    obtain ⟨rfl, rfl⟩ := he
    exact ⟨[], by simpa using .nil, rfl, rfl⟩
  case emp aa c =>
    simp only [Option.some.injEq, Prod.mk.injEq] at he
    obtain ⟨rfl, rfl⟩ := he
    obtain rfl : m = 0 := by omega
    refine ⟨[], by simpa using .nil, ?_, rfl⟩
    cases aa with
    | none => rfl
    | some a => show (loadCells a (0 * sz)).run P w = _; rw [Nat.zero_mul]; rfl
  case sl B off len cap b k hσ =>
    simp only [Option.bind_eq_some_iff, Option.some.injEq, Prod.mk.injEq] at he
    obtain ⟨vs, h1, l, h2, rfl, rfl⟩ := he
    obtain ⟨xs, h3, h4⟩ := (R.at_ hσ h1).cells (P := P) (sub_take h2 (Nat.mul_le_mul_right sz hm))
    exact ⟨xs, h3, h4, rfl⟩
  case slo B off len lo z b k c hσ _ _ _ =>
    simp only [Option.bind_eq_some_iff, Option.some.injEq, Prod.mk.injEq] at he
    obtain ⟨vs, h1, l, h2, rfl, rfl⟩ := he
    obtain ⟨xs, h3, h4⟩ := (R.at_ hσ h1).cells (P := P) (sub_take h2 (Nat.mul_le_mul_right sz hm))
    exact ⟨xs, h3, h4, rfl⟩
theorem copy_sound (hE : EnvOK P E) (R : Rel N σ h w) {ts : Array TypeId} {ty : TypeId} {x y v : V} {xx yx : Value} {h' : Hp} (hc : vcopy E h ts x y = some (v, h')) (hx : Rep σ x xx) (hy : Rep σ y yx) :
    ∃ r w', (Builtin.copy_ ts ty #[xx, yx]).run P w = .ok r w' ∧ Does N σ h w v h' r w' := by
  simp only [vcopy, Option.bind_eq_some_iff] at hc
  obtain ⟨t, h0, i, hi, hc⟩ := hc
  obtain ⟨d, inf, T⟩ := hE.is hi
  split at hc
  · rename_i e hk
    rw [T.k] at hk
    obtain rfl := kOf_sl hk.symm
    rw [Option.bind_eq_some_iff] at hc
    obtain ⟨j, hj, hc⟩ := hc
    obtain ⟨d2, inf2, T2⟩ := hE.is hj
    cases hs : isStr y with
    | true => rw [hs] at hc; cases hc
    | false =>
      rw [hs] at hc
      simp only [cond_false, Option.bind_eq_some_iff] at hc
      obtain ⟨⟨ws, n⟩, he, hc⟩ := hc
      simp only at hc
      unfold copyTo at hc
      have go : ∀ (B off len cap b m : Nat), σ B = some (b, m) → ((wrCells h B off (ws.take (min n len * j.size))).bind fun h' => some (mkInt .i64 (.ofNat (min n len)), h')) = some (v, h') →
          ∃ r w', (Builtin.copy_ ts ty #[.slice (some ⟨b, off, none⟩) len cap, yx]).run P w = .ok r w' ∧ Does N σ h w v h' r w' := by
        intro B off len cap b m hσ hc
        simp only [Option.bind_eq_some_iff, Option.some.injEq, Prod.mk.injEq] at hc
        obtain ⟨h2, hwr, rfl, rfl⟩ := hc
        obtain ⟨ys, g1, g2, g3⟩ := elems_take (P := P) R he hy hs (Nat.min_le_left n len)
        obtain ⟨w', g4, g5, g6⟩ := wr_sound (P := P) R hσ g1 hwr
        refine ⟨.int .i64 (min n len : Nat), w', ?_, .stay (by rw [mkInt_eq]; exact .int _ _) g5 g6 (wr_n hwr)⟩
        simp only [Builtin.copy_, h0, List.getElem?_toArray, List.getElem?_cons_zero, List.getElem?_cons_succ]
        rw [Sem.run_bind, run_underlying T.und, Result.andThen_ok]
        simp only [Sem.run_bind, run_sizeOf T2.info, Result.andThen_ok, Sem.run_pure, g3]
        rw [← T2.size]
        have g2' : (Builtin.firstCells j.size (Nat.min n len) yx).run P w = .ok ys.toArray w := g2
        simp only [g2', Result.andThen_ok, g4]
        rfl
      cases hx <;> simp only at hc <;> (try (cases hc; done))
      case nils =>
        simp only [Option.some.injEq, Prod.mk.injEq] at hc
        obtain ⟨rfl, rfl⟩ := hc
        obtain ⟨ys, g1, g2, g3⟩ := elems_take (P := P) R he hy hs (Nat.zero_le n)
        refine ⟨.int .i64 0, w, ?_, .stay (.int _ _) R (Below.refl _ _) (Nat.le_refl _)⟩
        simp only [Builtin.copy_, h0, List.getElem?_toArray, List.getElem?_cons_zero, List.getElem?_cons_succ]
        rw [Sem.run_bind, run_underlying T.und, Result.andThen_ok]
        simp only [Sem.run_bind, run_sizeOf T2.info, Result.andThen_ok, Sem.run_pure, g3]
        rw [← T2.size]
        have e0 : Nat.min n 0 = 0 := Nat.min_zero n
        simp only [e0, g2, Result.andThen_ok]
        rfl
      case sl B off len cap b m hσ => exact go B off len cap b m hσ hc
      case slo B off len lo sz b m c hσ _ _ _ => exact go B off len c b m hσ hc
  · cases hc
end
end Go.Proofs.YtehbfpcfbpbllaaGreatDoor.VM
