/- chequerref7's AllSpots, Find, inside, GetCell, Spots, waits; chequerlaw13.at: by labels. · A slice of cells grows; chequerref7.AllSpots, by labels. · Nodes of formulas; chequerref7.named, by labels. · cell.May, cell.Formula, chequerref7.Formula at the texts of cells by numbers: from the memos. · What labels of functions ask for. Written by pe.py. · chequerref7.Needs, by labels. · chequerref7.Order, by labels. · chequerref7.Order: what it answers. -/
import Derived.Test.YtlllhhjlfmhmlaaGreatDoorMg7
namespace Go.Proofs.YtlllhhjlfmhmlaaGreatDoor.VM
open Go
set_option linter.unusedVariables false
set_option linter.unusedSimpArgs false
set_option maxRecDepth 20000
noncomputable section
attribute [local instance] syZ
theorem w64 (n : Nat) (h : n < 9223372036854775808) : IntKind.i64.wrap (n : Int) = (n : Int) := by
  unfold IntKind.wrap
  simp [IntKind.bits, IntKind.signed]
  omega
theorem pu_inc (t : Nat) (cx cy : Bool) (n : Nat) (h : n < 9223372036854775807) (q : V → Prop) : (Pu EE).bin .add t cx cy (.int .i64 n) (.int .i64 1) q ↔ q (.int .i64 ((n + 1 : Nat) : Int)) := by
  rw [pu_add]
  have : IntKind.i64.wrap ((n : Int) + 1) = ((n + 1 : Nat) : Int) := by
    rw [show (n : Int) + 1 = ((n + 1 : Nat) : Int) by omega]
    exact w64 _ (by omega)
  rw [this]
theorem pu_lssN (t : Nat) (cx cy : Bool) (a b : Nat) (q : V → Prop) : (Pu EE).bin .lss t cx cy (.int .i64 a) (.int .i64 b) q ↔ q (.bool (decide (a < b))) := by
  rw [pu_lss]
  have : decide ((a : Int) < (b : Int)) = decide (a < b) := by rw [decide_eq_decide]; omega
  rw [this]
/-- cells alike -/
theorem keySpt : KeyOf EE 26 spV := keyOf3 Spt.s Spt.r Spt.c (fun _ => rfl) (fun a b => by obtain ⟨x, y, z⟩ := a; obtain ⟨u, v, w⟩ := b; simp) (by kernel_rfl)
theorem aeq_spt : ∃ i, EE.ty.get 26 = some i ∧ ∀ a b : Spt, veq EE i (spV a) (spV b) = some (decide (a = b)) := by
  obtain ⟨j, h1, h2⟩ := keySpt
  refine ⟨j, h1, fun a b => ?_⟩
  have h3 := h2 a b
  have hk : ∃ fs, j.k = .struct fs := by
    have e : (EE.ty.get 26).map (fun j => (match j.k with | .struct _ => true | _ => false)) = some true := by kernel_rfl
    rw [h1] at e
    simp only [Option.map_some, Option.some.injEq] at e
    split at e
    · rename_i fs h; exact ⟨fs, h⟩
    · cases e
  obtain ⟨fs, hk⟩ := hk
  unfold veqK at h3
  unfold veq
  rw [hk] at h3 ⊢
  exact h3
theorem pu_speq (cx cy : Bool) (a b : Spt) (q : V → Prop) : (Pu EE).bin .eql 26 cx cy (spV a) (spV b) q ↔ q (.bool (decide (a = b))) := by
  obtain ⟨i, h1, h2⟩ := aeq_spt
  show (∃ v, vbinB EE .eql 26 cx cy (spV a) (spV b) = some v ∧ q v) ↔ _
  have : vbinB EE .eql 26 cx cy (spV a) (spV b) = some (.bool (decide (a = b))) := by
    show eqOp .eql ((EE.ty.get 26).bind fun i => veq EE i (spV a) (spV b)) = _
    rw [h1, Option.bind_some, h2]
    rfl
  rw [this, ex_some]
theorem pu_spne (cx cy : Bool) (a b : Spt) (q : V → Prop) : (Pu EE).bin .neq 26 cx cy (spV a) (spV b) q ↔ q (.bool (!decide (a = b))) := by
  obtain ⟨i, h1, h2⟩ := aeq_spt
  show (∃ v, vbinB EE .neq 26 cx cy (spV a) (spV b) = some v ∧ q v) ↔ _
  have : vbinB EE .neq 26 cx cy (spV a) (spV b) = some (.bool (!decide (a = b))) := by
    show eqOp .neq ((EE.ty.get 26).bind fun i => veq EE i (spV a) (spV b)) = _
    rw [h1, Option.bind_some, h2]
    rfl
  rw [this, ex_some]
/-! ### Spots, waits, at -/
theorem spots_loop (Q : V → Hp → Prop) (h : Hp) (v u : V) (l m : List Spt) (hv : Sps h v l) (hu : Sps h u m) (hl : l.length = m.length) (hb : l.length < 1000000) : ∀ (k i : Nat), l.length - i = k → i ≤ l.length → l.take i = m.take i → (∀ b : Bool, b = decide (l = m) → Q (.bool b) h) → L_r7_Spots_1 Q v u (.int .i64 i) h := by
  intro k
  induction k with
  | zero =>
    intro i hk hi ht hq
    apply r_r7_Spots_1
    unfold t_r7_Spots_1
    rw [pu_len hv s_sl_api_Spot, pu_lssN, pu_cond_d]
    refine ⟨fun h1 => absurd h1 (by omega), fun _ => hq true ?_⟩
    have e : i = l.length := by omega
    rw [e, List.take_length, hl, List.take_length] at ht
    simp [ht]
  | succ k ih =>
    intro i hk hi ht hq
    apply r_r7_Spots_1
    unfold t_r7_Spots_1
    rw [pu_len hv s_sl_api_Spot, pu_lssN, pu_cond_d]
    refine ⟨fun h1 => ?_, fun h1 => absurd (by omega) h1⟩
    obtain ⟨b1, o1, g1, g2, _⟩ := sps_get hv s_sl_api_Spot l_api_Spot (List.getElem?_eq_getElem h1)
    obtain ⟨b2, o2, g3, g4, _⟩ := sps_get hu s_sl_api_Spot l_api_Spot (List.getElem?_eq_getElem (by omega : i < m.length))
    rw [g1, g2, g3, g4, pu_spne, pu_cond_n]
    refine ⟨fun h2 => hq false ?_, fun h2 => ?_⟩
    · have : l ≠ m := fun e => h2 (by subst e; rfl)
      simp [this]
    · rw [pu_inc _ _ _ _ (by omega)]
      refine ih (i + 1) (by omega) (by omega) ?_ hq
      rw [List.take_succ_eq_append_getElem h1, List.take_succ_eq_append_getElem (by omega : i < m.length), ht, h2]
theorem spots_ok (h : Hp) (v u : V) (l m : List Spt) (hv : Sps h v l) (hu : Sps h u m) (hb : l.length < 1000000) : Ans EE 11 [v, u] h fun x h' => x = .bool (decide (l = m)) ∧ h' = h := by
  apply a_r7_Spots
  unfold t_r7_Spots_0
  rw [pu_len hv s_sl_api_Spot, pu_len hu s_sl_api_Spot, pu_neq, pu_cond_n]
  refine ⟨fun h1 => ⟨?_, rfl⟩, fun h1 => ?_⟩
  · have : l ≠ m := fun e => h1 (by subst e; rfl)
    simp [this]
  · exact spots_loop _ h v u l m hv hu (by omega) hb l.length 0 (by omega) (by omega) rfl fun b e => ⟨by rw [e], rfl⟩
theorem drop_cons {α : Type} {l : List α} {i : Nat} (h : i < l.length) : l.drop i = l[i] :: l.drop (i + 1) := by rw [List.drop_eq_getElem_cons h]
theorem waits_loop (Q : V → Hp → Prop) (h : Hp) (v u : V) (l m : List Spt) (hv : Sps h v l) (hu : Sps h u m) (hb : l.length < 1000000) (hb2 : m.length < 1000000) : ∀ (k i : Nat), l.length - i = k → i ≤ l.length → (∀ b : Bool, b = waits (l.drop i) m → Q (.bool b) h) → L_r7_waits_1 Q v u (.int .i64 i) h := by
  intro k
  induction k with
  | zero =>
    intro i hk hi hq
    apply r_r7_waits_1
    unfold t_r7_waits_1
    rw [pu_len hv s_sl_api_Spot, pu_lssN, pu_cond_d]
    refine ⟨fun h1 => absurd h1 (by omega), fun _ => hq false ?_⟩
    rw [List.drop_eq_nil_of_le (by omega)]
    rfl
  | succ k ih =>
    intro i hk hi hq
    apply r_r7_waits_1
    unfold t_r7_waits_1
    rw [pu_len hv s_sl_api_Spot, pu_lssN, pu_cond_d]
    refine ⟨fun h1 => ?_, fun h1 => absurd (by omega) h1⟩
    have inner : ∀ (d j : Nat), m.length - j = d → j ≤ m.length → (∀ b : Bool, b = ((m.drop j).contains l[i] || waits (l.drop (i + 1)) m) → Q (.bool b) h) → L_r7_waits_2 Q v u (.int .i64 i) (.int .i64 j) h := by
      intro d
      induction d with
      | zero =>
        intro j hd hj hq2
        apply r_r7_waits_2
        unfold t_r7_waits_2
        rw [pu_len hu s_sl_api_Spot, pu_lssN, pu_cond_d]
        refine ⟨fun h2 => absurd h2 (by omega), fun _ => ?_⟩
        rw [pu_inc _ _ _ _ (by omega)]
        refine ih (i + 1) (by omega) (by omega) fun b e => hq2 b ?_
        rw [List.drop_eq_nil_of_le (by omega : m.length ≤ j), e]
        rfl
      | succ d ihd =>
        intro j hd hj hq2
        apply r_r7_waits_2
        unfold t_r7_waits_2
        rw [pu_len hu s_sl_api_Spot, pu_lssN, pu_cond_d]
        refine ⟨fun h2 => ?_, fun h2 => absurd (by omega) h2⟩
        obtain ⟨b1, o1, g1, g2, _⟩ := sps_get hv s_sl_api_Spot l_api_Spot (List.getElem?_eq_getElem h1)
        obtain ⟨b2, o2, g3, g4, _⟩ := sps_get hu s_sl_api_Spot l_api_Spot (List.getElem?_eq_getElem h2)
        rw [g1, g2, g3, g4, pu_speq, pu_cond_d]
        rw [drop_cons h2] at hq2
        refine ⟨fun h3 => hq2 true ?_, fun h3 => ?_⟩
        · rw [List.contains_cons, h3, beq_self_eq_true, Bool.true_or, Bool.true_or]
        · rw [pu_inc _ _ _ _ (by omega)]
          refine ihd (j + 1) (by omega) (by omega) fun b e => hq2 b ?_
          have h4 : (l[i] == m[j]) = false := by simpa using h3
          rw [e, List.contains_cons, h4, Bool.false_or]
    refine inner m.length 0 (by omega) (by omega) fun b e => hq b ?_
    rw [e, drop_cons h1]
    rfl
theorem waits_ok (h : Hp) (v u : V) (l m : List Spt) (hv : Sps h v l) (hu : Sps h u m) (hb : l.length < 1000000) (hb2 : m.length < 1000000) : Ans EE 28 [v, u] h fun x h' => x = .bool (waits l m) ∧ h' = h := by
  apply a_r7_waits
  unfold t_r7_waits_0
  exact waits_loop _ h v u l m hv hu hb hb2 l.length 0 (by omega) (by omega) fun b e => ⟨by rw [e]; rfl, rfl⟩
def atI (l : List Spt) (s : Spt) : Int := match atR l s 0 with
  | some j => j
  | none => -1
theorem at_loop (Q : V → Hp → Prop) (h : Hp) (v : V) (l : List Spt) (s : Spt) (b : Nat) (hv : Sps h v l) (hs : h.t.get b = some (.cells (spC s) 26 false)) (hb : l.length < 1000000) : ∀ (k i : Nat), l.length - i = k → i ≤ l.length →
    (∀ z : Int, z = (match atR (l.drop i) s i with | some j => (j : Int) | none => -1) → Q (.int .i64 z) h) → L_law13_at_1 Q v (.ptr b 0) (.int .i64 i) h := by
  intro k
  induction k with
  | zero =>
    intro i hk hi hq
    apply r_law13_at_1
    unfold t_law13_at_1
    rw [pu_len hv s_sl_api_Spot, pu_lssN, pu_cond_d]
    refine ⟨fun h1 => absurd h1 (by omega), fun _ => hq (-1) ?_⟩
    rw [List.drop_eq_nil_of_le (by omega)]
    rfl
  | succ k ih =>
    intro i hk hi hq
    apply r_law13_at_1
    unfold t_law13_at_1
    rw [pu_len hv s_sl_api_Spot, pu_lssN, pu_cond_d]
    refine ⟨fun h1 => ?_, fun h1 => absurd (by omega) h1⟩
    obtain ⟨b1, o1, g1, g2, _⟩ := sps_get hv s_sl_api_Spot l_api_Spot (List.getElem?_eq_getElem h1)
    rw [g1, g2, pu_loadS l_api_Spot hs (l := spC s) rfl]
    show (Pu EE).bin .eql _ _ _ (spV l[i]) (spV s) _
    rw [pu_speq, pu_cond_d]
    rw [drop_cons h1] at hq
    simp only [atR] at hq
    refine ⟨fun h3 => hq i ?_, fun h3 => ?_⟩
    · rw [if_pos h3]
    · rw [if_neg h3] at hq
      rw [pu_inc _ _ _ _ (by omega)]
      exact ih (i + 1) (by omega) (by omega) hq
theorem at_ok (N : Nat) (h : Hp) (v : V) (l : List Spt) (s : Spt) (hv : Sps h v l) (hi : In h.n v) (hb : l.length < 1000000) : Ans EE 18 [v, spV s] h fun x h' => x = .int .i64 (atI l s) ∧ Ext h.n h h' := by
  apply a_law13_at
  unfold t_law13_at_0
  refine pu_boxX (cs := spC s) rfl fun h1 b w => ?_
  have hx := w.ext (Nat.le_refl _)
  refine at_loop _ h1 v l s b (hv.ext hx hi) w.at_ hb l.length 0 (by omega) (by omega) fun z e => ⟨?_, hx⟩
  rw [e]; rfl
/-! ### Find, inside, GetCell -/
def findN : Bok → List Nat → Nat → Option Nat
  | [], _, _ => none
  | s :: b, nm, i => if s.name = nm then some i else findN b nm (i + 1)
def findZ (b : Bok) (nm : List Nat) : Int := match findN b nm 0 with
  | some j => j
  | none => -1
theorem findN_some {nm : List Nat} : ∀ {b : Bok} {i j : Nat}, findN b nm i = some j → i ≤ j ∧ ∃ s, b[j - i]? = some s ∧ s.name = nm ∧ findR b nm = some s
  | [], i, j, h => by cases h
  | s :: b, i, j, h => by
    rw [findN] at h
    by_cases e : s.name = nm
    · rw [if_pos e] at h
      cases h
      refine ⟨Nat.le_refl _, s, by simp, e, ?_⟩
      unfold findR
      rw [List.find?_cons]
      simp [e]
    · rw [if_neg e] at h
      obtain ⟨h1, t, h2, h3, h4⟩ := findN_some h
      refine ⟨by omega, t, ?_, h3, ?_⟩
      · rw [show j - i = (j - (i + 1)) + 1 by omega]; exact h2
      · unfold findR at h4 ⊢
        rw [List.find?_cons]
        simp [e, h4]
theorem findN_none {nm : List Nat} : ∀ {b : Bok} {i : Nat}, findN b nm i = none → findR b nm = none
  | [], i, h => rfl
  | s :: b, i, h => by
    rw [findN] at h
    by_cases e : s.name = nm
    · rw [if_pos e] at h; cases h
    · rw [if_neg e] at h
      have := findN_none h
      unfold findR at this ⊢
      rw [List.find?_cons]
      simp [e, this]
theorem find_loop (Q : V → Hp → Prop) (N : Nat) (h : Hp) (sv : V) (bk : Bok) (nm : List Nat) (b : Nat) (hv : ShsAt N h sv bk) (hs : h.t.get b = some (.cells [sv] 24 false)) (hb : bk.length < 1000000) : ∀ (k i : Nat), bk.length - i = k → i ≤ bk.length →
    (∀ z : Int, z = (match findN (bk.drop i) nm i with | some j => (j : Int) | none => -1) → Q (.int .i64 z) h) → L_r7_Find_1 Q (.str nm) (.ptr b 0) (.int .i64 i) h := by
  obtain ⟨cs, hrd⟩ := hv.rd
  intro k
  induction k with
  | zero =>
    intro i hk hi hq
    apply r_r7_Find_1
    unfold t_r7_Find_1
    rw [fa_api_Book_0, pu_load1 l_sl_api_Sheet hs rfl, pu_len hrd s_sl_api_Sheet, pu_lssN, pu_cond_d]
    refine ⟨fun h1 => absurd h1 (by omega), fun _ => hq (-1) ?_⟩
    rw [List.drop_eq_nil_of_le (by omega)]
    rfl
  | succ k ih =>
    intro i hk hi hq
    apply r_r7_Find_1
    unfold t_r7_Find_1
    rw [fa_api_Book_0, pu_load1 l_sl_api_Sheet hs rfl, pu_len hrd s_sl_api_Sheet, pu_lssN, pu_cond_d]
    refine ⟨fun h1 => ?_, fun h1 => absurd (by omega) h1⟩
    obtain ⟨b1, o1, rv, g1, g2, g3, vs, f, ro, g4, g5⟩ := sht_get hv s_sl_api_Sheet l_api_Sheet (List.getElem?_eq_getElem h1)
    rw [fa_api_Book_0, pu_load1 l_sl_api_Sheet hs rfl, g1, fa_api_Sheet_0, pu_load1 l_string g4 (g5 0 _ rfl), pu_seql, pu_cond_d]
    rw [drop_cons h1] at hq
    simp only [findN] at hq
    refine ⟨fun h3 => hq i ?_, fun h3 => ?_⟩
    · rw [if_pos h3]
    · rw [if_neg h3] at hq
      rw [pu_inc _ _ _ _ (by omega)]
      exact ih (i + 1) (by omega) (by omega) hq
theorem rfind_ok (N : Nat) (h : Hp) (v : V) (bk : Bok) (nm : List Nat) (hv : BokAt N h v bk) (hN : N ≤ h.n) (hb : bk.length < 1000000) : Ans EE 37 [v, .str nm] h fun x h' => x = .int .i64 (findZ bk nm) ∧ Ext h.n h h' := by
  obtain ⟨sv, rfl, hs⟩ := hv
  apply a_r7_Find
  unfold t_r7_Find_0
  obtain ⟨cs, hrd⟩ := hs.rd
  refine pu_boxX (cs := [sv]) (by have := hrd.c1; simp [allCells, this.2]) fun h1 b w => ?_
  have hx := w.ext (Nat.le_refl _)
  refine find_loop _ N h1 sv bk nm b (hs.ext (hx.mono hN)) w.at_ hb bk.length 0 (by omega) (by omega) fun z e => ⟨?_, hx⟩
  rw [e]; rfl
def insideB (s : Sht) (r c : Nat) : Bool := match s.rows[r]? with
  | some row => decide (c < row.length)
  | none => false
theorem inside_ok (N : Nat) (h : Hp) (s : Sht) (rv : V) (r c : Nat) (hv : RowsAt N h rv s.rows) (hN : N ≤ h.n) (hC : C1 rv) : Ans EE 38 [.agg (shtC s rv), .int .i64 r, .int .i64 c] h fun x h' => x = .bool (insideB s r c) ∧ Ext h.n h h' := by
  apply a_r7_inside
  unfold t_r7_inside_0
  have hcl : allCells (shtC s rv) = true := by
    show (bif rv.isCell then allCells [] else false) = true
    rw [hC.2]; rfl
  refine pu_boxX (cs := shtC s rv) hcl fun h1 b w => ?_
  have hx := w.ext (Nat.le_refl _)
  have hv1 := hv.ext (hx.mono hN)
  obtain ⟨vs, hrd⟩ := hv1.rd
  have p0 : ∀ n : Nat, decide ((0 : Int) ≤ (n : Int)) = true := fun n => decide_eq_true (by omega)
  rw [pu_geq, p0]
  simp only [pu_gval_y, pu_pick_t]
  rw [fa_api_Sheet_2, pu_load1 l_sl_sl_string w.at_ rfl, pu_len hrd s_sl_sl_string, pu_lssN]
  unfold insideB
  by_cases hr : r < s.rows.length
  · rw [decide_eq_true hr]
    simp only [pu_gval_y, pu_pick_t]
    obtain ⟨b2, o2, w2, g1, g2, g3⟩ := rows_get hv1 s_sl_sl_string l_sl_string (List.getElem?_eq_getElem hr)
    rw [pu_geq, p0]
    simp only [pu_gval_y, pu_pick_t]
    rw [fa_api_Sheet_2, pu_load1 l_sl_sl_string w.at_ rfl, g1, g2, pu_len g3.1 s_sl_string, pu_lssN, List.getElem?_eq_getElem hr]
    exact ⟨rfl, hx⟩
  · rw [decide_eq_false hr]
    simp only [pu_gval_ft, pu_pick_f]
    rw [List.getElem?_eq_none (by omega)]
    exact ⟨rfl, hx⟩
def getC (bk : Bok) (s : Spt) : List Nat := match findR bk s.s with
  | none => []
  | some t => match t.rows[s.r]? with
    | none => []
    | some row => (row[s.c]?).getD []
theorem rget_ok (N : Nat) (h : Hp) (v : V) (bk : Bok) (s : Spt) (hv : BokAt N h v bk) (hN : N ≤ h.n) (hb : bk.length < 1000000) : Ans EE 17 [v, spV s] h fun x h' => x = .str (getC bk s) ∧ Ext h.n h h' := by
  have hv0 := hv
  obtain ⟨sv, rfl, hs⟩ := hv
  obtain ⟨cs, hrd⟩ := hs.rd
  have hcell : allCells [sv] = true := by have := hrd.c1; simp [allCells, this.2]
  apply a_r7_GetCell
  unfold t_r7_GetCell_0
  refine pu_boxX (cs := [sv]) hcell fun h1 b1 w1 => ?_
  refine pu_boxX (cs := spC s) rfl fun h2 b2 w2 => ?_
  have n1 := w1.n
  have n2 := w2.n
  have e1 := w1.b
  have e2 := w2.b
  have hx1 := w1.ext (Nat.le_refl h.n)
  have hx2 : Ext h.n h h2 := hx1.trans (w2.ext (by omega))
  have hb1 : h2.t.get b1 = some (.cells [sv] 24 false) := by rw [w2.old b1 (by omega)]; exact w1.at_
  rw [pu_loadS l_api_Book hb1 (l := [sv]) rfl, fa_api_Spot_0, pu_load1 l_string w2.at_ rfl]
  have hv2 := hv0.ext (hx2.mono hN)
  refine (rfind_ok N h2 _ bk s.s hv2 (by omega) hb).mono ?_
  rintro x h3 ⟨rfl, hx3⟩
  have hx : Ext h.n h h3 := hx2.trans (hx3.mono (by omega))
  have hs3 := hs.ext (hx.mono hN)
  have hb13 : h3.t.get b1 = some (.cells [sv] 24 false) := by rw [hx3.old b1 (by omega)]; exact hb1
  have hb23 : h3.t.get b2 = some (.cells (spC s) 26 false) := by rw [hx3.old b2 (by omega)]; exact w2.at_
  have hn3 := hx3.n
  unfold findZ getC
  cases hf : findN bk s.s 0 with
  | none =>
    rw [findN_none hf]
    simp only
    rw [pu_lss, decide_eq_true (by decide : (-1 : Int) < 0)]
    simp only [pu_gval_tf, pu_geff_tf, pu_pick_t, pu_cond_t]
    exact ⟨by first | trivial | rfl, hx⟩
  | some j =>
    obtain ⟨_, t, ht, hnm, hfr⟩ := findN_some hf
    rw [Nat.sub_zero] at ht
    rw [hfr]
    simp only
    obtain ⟨b4, o4, rv, g1, g2, g3, vs, f, ro, g4, g5⟩ := sht_get hs3 s_sl_api_Sheet l_api_Sheet ht
    rw [pu_lss, decide_eq_false (by omega : ¬ ((j : Int) < 0))]
    simp only [pu_gval_y, pu_geff_y, pu_pick_f, fa_api_Book_0]
    rw [pu_load1 l_sl_api_Sheet hb13 rfl, g1, g2, fa_api_Spot_1, pu_load1 l_int hb23 rfl, fa_api_Spot_2, pu_load1 l_int hb23 rfl]
    have hrv : C1 rv := by obtain ⟨us, hu⟩ := g3.rd; exact hu.c1
    refine (inside_ok N h3 t rv s.r s.c g3 (by omega) hrv).mono ?_
    rintro x h4 ⟨rfl, hx4⟩
    have hx5 : Ext h.n h h4 := hx.trans (hx4.mono (by omega))
    rw [pu_not]
    unfold insideB
    cases hrow : t.rows[s.r]? with
    | none =>
      simp only [Bool.not_false, pu_cond_t]
      exact ⟨by first | trivial | rfl, hx5⟩
    | some row =>
      simp only [pu_cond_n]
      refine ⟨fun h9 => ?_, fun h9 => ?_⟩
      · rw [List.getElem?_eq_none (by omega)]
        exact ⟨by first | trivial | rfl, hx5⟩
      · have hb14 : h4.t.get b1 = some (.cells [sv] 24 false) := by rw [hx4.old b1 (by omega)]; exact hb13
        have hb24 : h4.t.get b2 = some (.cells (spC s) 26 false) := by rw [hx4.old b2 (by omega)]; exact hb23
        have hs4 := hs.ext (hx5.mono hN)
        obtain ⟨b6, o6, rv6, k1, k2, k3, vs6, f6, ro6, k4, k5⟩ := sht_get hs4 s_sl_api_Sheet l_api_Sheet ht
        rw [pu_load1 l_sl_api_Sheet hb14 rfl, k1, fa_api_Sheet_2, pu_load1 l_sl_sl_string k4 (k5 2 _ rfl), fa_api_Spot_1, pu_load1 l_int hb24 rfl]
        obtain ⟨b7, o7, w7, m1, m2, m3⟩ := rows_get k3 s_sl_sl_string l_sl_string hrow
        rw [m1, m2, fa_api_Spot_2, pu_load1 l_int hb24 rfl]
        obtain ⟨b8, o8, m4, m5⟩ := row_get m3 s_sl_string l_string (List.getElem?_eq_getElem h9)
        rw [m4, m5, List.getElem?_eq_getElem h9]
        exact ⟨by first | trivial | rfl, hx5⟩
end
end Go.Proofs.YtlllhhjlfmhmlaaGreatDoor.VM
namespace Go.Proofs.YtlllhhjlfmhmlaaGreatDoor.VM
open Go
set_option linter.unusedVariables false
set_option linter.unusedSimpArgs false
set_option linter.unusedSectionVars false
set_option maxRecDepth 20000
noncomputable section
attribute [local instance] syZ
theorem noIntS : ∃ iu, EE.ty.get 29 = some iu ∧ ∀ k, iu.k ≠ .int k := by
  obtain ⟨i, h1, h2⟩ := s_sl_api_Spot; exact ⟨i, h1, fun k => by rw [h2]; simp⟩
theorem mk_spot (s : List Nat) (r c : Nat) (q : V → Prop) : (Pu EE).build 26 [(0, .str s), (1, .int .i64 r), (2, .int .i64 c)] q ↔ q (spV ⟨s, r, c⟩) :=
  pu_build so_api_Spot _ (by simp [c1_int, c1_str]) rfl q
/-- a slice of cells of one's own -/
abbrev OwnS (N : Nat) (h : Hp) (v : V) (l : List Spt) : Prop := Own N h v 26 3 l.length (spCs l)
theorem OwnS.sps {N : Nat} {h : Hp} {v : V} {l : List Spt} (o : OwnS N h v l) : Sps h v l := o.rd
theorem OwnS.nil (N : Nat) (h : Hp) : OwnS N h .nils [] := Own.nil _ _ _ _
/-- one cell more -/
theorem append_spot {N : Nat} {h : Hp} {v : V} {l : List Spt} (o : OwnS N h v l) (s : Spt) (hlen : l.length + 1 ≤ 1048576) (hN : N ≤ h.n) (q : V → Hp → Prop)
    (hq : ∀ v' h', OwnS N h' v' (l ++ [s]) → Ext N h h' → (∀ c, c < h.n → blkOf v ≠ some c → h'.t.get c = h.t.get c) → (∀ c, blkOf v' = some c → blkOf v = some c ∨ h.n ≤ c) → q v' h') :
    (Pu EE).bsl h 29 1 [(0, spV s)] fun x h1 _ => (Pu EE).ebui h1 #[29, 29] .append [v, x] q := by
  rw [pu_lit1 s_sl_api_Spot l_api_Spot _ rfl (by omega)]
  have o1 : OwnS N (h.new (.cells (spC s) 26 false)) v l := o.keep (Nat.le_succ _) (fun c hc => by rw [Hp.get_new, if_neg (Nat.ne_of_lt (o.in_ c hc))])
  obtain ⟨v', h', h1, h2, h3, h4, h5⟩ := own_append (ts := #[29, 29]) o1 rfl rfl s_sl_api_Spot noIntS l_api_Spot (elems_rd (rd_lit (h := h) (e := 26) (ws := spC s) rfl).rd).1 (fun e => by cases e) rfl hlen (Nat.le_succ_of_le hN)
  refine (h1 q).2 (hq v' h' ?_ ((Ext.new hN _).trans h3) (fun c hc hne => ?_) (fun c hc => ?_))
  · have e : spCs (l ++ [s]) = spCs l ++ spC s := by rw [spCs_app]; simp [spCs]
    show Own _ _ _ _ _ (l ++ [s]).length _
    rw [List.length_append, e]
    exact h2
  · rw [h4 c (Nat.lt_succ_of_lt hc) hne, Hp.get_new, if_neg (Nat.ne_of_lt hc)]
  · rcases h5 c hc with h6 | h6
    · exact .inl h6
    · exact .inr (Nat.le_of_succ_le h6)
theorem colsL_end {nm : List Nat} {r c n : Nat} (h : n ≤ c) : colsL nm r c n = [] := by
  unfold colsL
  rw [show n - c = 0 by omega]; rfl
theorem colsL_step {nm : List Nat} {r c n : Nat} (h : c < n) : colsL nm r c n = ⟨nm, r, c⟩ :: colsL nm r (c + 1) n := by
  unfold colsL
  rw [show n - c = (n - (c + 1)) + 1 by omega, List.range_succ_eq_map, List.map_cons, List.map_map]
  congr 1
  apply List.map_congr_left
  intro i _
  simp only [Function.comp]
  congr 1
  omega
theorem rowSpots_cols (nm : List Nat) (r : Nat) (row : List (List Nat)) : rowSpots nm r row = colsL nm r 0 row.length := by
  unfold rowSpots colsL
  simp
section
variable (Q : V → Hp → Prop) (h0 : Hp) (M N : Nat) (bk : Bok) (sv : V) (b : Nat)
/-- what stands while AllSpots goes on -/
structure AS (h : Hp) (v : V) (acc : List Spt) : Prop where
  bk : ShsAt M h sv bk
  box : h.t.get b = some (.cells [sv] 24 false)
  own : OwnS N h v acc
  n : N ≤ h.n
  ext : Ext N h0 h
variable (hM : M ≤ N) (hbN : b < N) (hfit : (allSpots bk).length ≤ 1000000) (hbl : bk.length < 1000000) (hrl : ∀ s ∈ bk, s.rows.length < 1000000 ∧ ∀ row ∈ s.rows, row.length < 1000000)
include hM hbN
theorem AS.next {h h' : Hp} {v v' : V} {acc acc' : List Spt} (a : AS h0 M N bk sv b h v acc) (x : Ext N h h') (o : OwnS N h' v' acc') : AS h0 M N bk sv b h' v' acc' :=
  ⟨a.bk.ext (x.mono hM), by rw [x.old b hbN]; exact a.box, o, Nat.le_trans a.n x.n, a.ext.trans x⟩
include hfit hrl hbl
theorem all_loop3 (i r : Nat) (s : Sht) (row : List (List Nat)) (hs : bk[i]? = some s) (hrow : s.rows[r]? = some row)
    (hnext : ∀ (h : Hp) (v : V) (acc : List Spt), AS h0 M N bk sv b h v acc → acc ++ (rowsSpots s.name (r + 1) (s.rows.drop (r + 1)) ++ allSpots (bk.drop (i + 1))) = allSpots bk → L_r7_AllSpots_2 Q (.ptr b 0) v (.int .i64 i) (.int .i64 (r + 1 : Nat)) h) :
    ∀ (k c : Nat), row.length - c = k → ∀ (h : Hp) (v : V) (acc : List Spt), AS h0 M N bk sv b h v acc → acc ++ (colsL s.name r c row.length ++ (rowsSpots s.name (r + 1) (s.rows.drop (r + 1)) ++ allSpots (bk.drop (i + 1)))) = allSpots bk → c ≤ row.length →
      L_r7_AllSpots_3 Q (.ptr b 0) v (.int .i64 i) (.int .i64 r) (.int .i64 c) h := by
  have hrl1 := (hrl s (List.mem_of_getElem? hs))
  have hrr := (List.getElem?_eq_some_iff.1 hrow).1
  have hrowl := hrl1.2 row (List.mem_of_getElem? hrow)
  intro k
  induction k with
  | zero =>
    intro c hk h v acc a he hc
    apply r_r7_AllSpots_3
    unfold t_r7_AllSpots_3
    obtain ⟨b4, o4, rv, g1, g2, g3, vs, f, ro, g4, g5⟩ := sht_get a.bk s_sl_api_Sheet l_api_Sheet hs
    obtain ⟨b2, o2, w2, g6, g7, g8⟩ := rows_get g3 s_sl_sl_string l_sl_string hrow
    rw [fa_api_Book_0, pu_load1 l_sl_api_Sheet a.box rfl, g1, fa_api_Sheet_2, pu_load1 l_sl_sl_string g4 (g5 2 _ rfl), g6, g7, pu_len g8.1 s_sl_string, pu_lssN, pu_cond_d]
    refine ⟨fun h1 => absurd h1 (by omega), fun _ => ?_⟩
    rw [pu_inc _ _ _ _ (by omega)]
    rw [colsL_end (by omega), List.nil_append] at he
    exact hnext h v acc a he
  | succ k ih =>
    intro c hk h v acc a he hc
    apply r_r7_AllSpots_3
    unfold t_r7_AllSpots_3
    obtain ⟨b4, o4, rv, g1, g2, g3, vs, f, ro, g4, g5⟩ := sht_get a.bk s_sl_api_Sheet l_api_Sheet hs
    obtain ⟨b2, o2, w2, g6, g7, g8⟩ := rows_get g3 s_sl_sl_string l_sl_string hrow
    rw [fa_api_Book_0, pu_load1 l_sl_api_Sheet a.box rfl, g1, fa_api_Sheet_2, pu_load1 l_sl_sl_string g4 (g5 2 _ rfl), g6, g7, pu_len g8.1 s_sl_string, pu_lssN, pu_cond_d]
    refine ⟨fun h1 => ?_, fun h1 => absurd (by omega) h1⟩
    rw [fa_api_Book_0, pu_load1 l_sl_api_Sheet a.box rfl, g1, fa_api_Sheet_0, pu_load1 l_string g4 (g5 0 _ rfl), mk_spot]
    rw [colsL_step h1] at he
    have hl : acc.length + 1 ≤ 1048576 := by
      have := congrArg List.length he
      simp only [List.length_append, List.cons_append, List.length_cons] at this
      omega
    refine append_spot a.own _ hl a.n _ fun v' h' o' x _ _ => ?_
    rw [pu_inc _ _ _ _ (by omega)]
    refine ih (c + 1) (by omega) h' v' (acc ++ [⟨s.name, r, c⟩]) (a.next h0 M N bk sv b hM hbN x o') ?_ (by omega)
    rw [← he]
    simp
theorem all_loop2 (i : Nat) (s : Sht) (hs : bk[i]? = some s)
    (hnext : ∀ (h : Hp) (v : V) (acc : List Spt), AS h0 M N bk sv b h v acc → acc ++ allSpots (bk.drop (i + 1)) = allSpots bk → L_r7_AllSpots_1 Q (.ptr b 0) v (.int .i64 (i + 1 : Nat)) h) :
    ∀ (k r : Nat), s.rows.length - r = k → ∀ (h : Hp) (v : V) (acc : List Spt), AS h0 M N bk sv b h v acc → acc ++ (rowsSpots s.name r (s.rows.drop r) ++ allSpots (bk.drop (i + 1))) = allSpots bk → r ≤ s.rows.length →
      L_r7_AllSpots_2 Q (.ptr b 0) v (.int .i64 i) (.int .i64 r) h := by
  have hrl1 := (hrl s (List.mem_of_getElem? hs))
  have hil := (List.getElem?_eq_some_iff.1 hs).1
  intro k
  induction k with
  | zero =>
    intro r hk h v acc a he hr
    apply r_r7_AllSpots_2
    unfold t_r7_AllSpots_2
    obtain ⟨b4, o4, rv, g1, g2, g3, vs, f, ro, g4, g5⟩ := sht_get a.bk s_sl_api_Sheet l_api_Sheet hs
    obtain ⟨us, hu⟩ := g3.rd
    rw [fa_api_Book_0, pu_load1 l_sl_api_Sheet a.box rfl, g1, fa_api_Sheet_2, pu_load1 l_sl_sl_string g4 (g5 2 _ rfl), pu_len hu s_sl_sl_string, pu_lssN, pu_cond_d]
    refine ⟨fun h1 => absurd h1 (by omega), fun _ => ?_⟩
    rw [pu_inc _ _ _ _ (by omega)]
    rw [List.drop_eq_nil_of_le (by omega : s.rows.length ≤ r)] at he
    exact hnext h v acc a he
  | succ k ih =>
    intro r hk h v acc a he hr
    apply r_r7_AllSpots_2
    unfold t_r7_AllSpots_2
    obtain ⟨b4, o4, rv, g1, g2, g3, vs, f, ro, g4, g5⟩ := sht_get a.bk s_sl_api_Sheet l_api_Sheet hs
    obtain ⟨us, hu⟩ := g3.rd
    rw [fa_api_Book_0, pu_load1 l_sl_api_Sheet a.box rfl, g1, fa_api_Sheet_2, pu_load1 l_sl_sl_string g4 (g5 2 _ rfl), pu_len hu s_sl_sl_string, pu_lssN, pu_cond_d]
    refine ⟨fun h1 => ?_, fun h1 => absurd (by omega) h1⟩
    rw [drop_cons h1, rowsSpots, rowSpots_cols, List.append_assoc] at he
    exact all_loop3 Q h0 M N bk sv b hM hbN hfit hbl hrl i r s s.rows[r] hs (List.getElem?_eq_getElem h1) (fun h' v' acc' a' he' => ih (r + 1) (by omega) h' v' acc' a' he' (by omega)) _ 0 rfl h v acc a he (by omega)
theorem all_loop1 (hq : ∀ (h : Hp) (v : V), AS h0 M N bk sv b h v (allSpots bk) → Q v h) :
    ∀ (k i : Nat), bk.length - i = k → ∀ (h : Hp) (v : V) (acc : List Spt), AS h0 M N bk sv b h v acc → acc ++ allSpots (bk.drop i) = allSpots bk → i ≤ bk.length → L_r7_AllSpots_1 Q (.ptr b 0) v (.int .i64 i) h := by
  intro k
  induction k with
  | zero =>
    intro i hk h v acc a he hi
    apply r_r7_AllSpots_1
    unfold t_r7_AllSpots_1
    obtain ⟨cs, hrd⟩ := a.bk.rd
    rw [fa_api_Book_0, pu_load1 l_sl_api_Sheet a.box rfl, pu_len hrd s_sl_api_Sheet, pu_lssN, pu_cond_d]
    refine ⟨fun h1 => absurd h1 (by omega), fun _ => ?_⟩
    rw [List.drop_eq_nil_of_le (by omega : bk.length ≤ i)] at he
    have e : acc = allSpots bk := by simpa [allSpots] using he
    subst e
    exact hq h v a
  | succ k ih =>
    intro i hk h v acc a he hi
    apply r_r7_AllSpots_1
    unfold t_r7_AllSpots_1
    obtain ⟨cs, hrd⟩ := a.bk.rd
    rw [fa_api_Book_0, pu_load1 l_sl_api_Sheet a.box rfl, pu_len hrd s_sl_api_Sheet, pu_lssN, pu_cond_d]
    refine ⟨fun h1 => ?_, fun h1 => absurd (by omega) h1⟩
    rw [drop_cons h1, allSpots] at he
    exact all_loop2 Q h0 M N bk sv b hM hbN hfit hbl hrl i bk[i] (List.getElem?_eq_getElem h1) (fun h' v' acc' a' he' => ih (i + 1) (by omega) h' v' acc' a' he' (by omega)) _ 0 rfl h v acc a he (by omega)
end
/-- books of a bearable size -/
structure Fit (bk : Bok) : Prop where
  spots : (allSpots bk).length ≤ 100000
  len : bk.length < 1000000
  rows : ∀ s ∈ bk, s.rows.length < 1000000 ∧ ∀ row ∈ s.rows, row.length < 1000000
theorem all_ok (M : Nat) (h : Hp) (v : V) (bk : Bok) (hv : BokAt M h v bk) (hM : M ≤ h.n) (f : Fit bk) : Ans EE 15 [v] h fun x h' => OwnS h.n h' x (allSpots bk) ∧ Ext h.n h h' := by
  obtain ⟨sv, rfl, hs⟩ := hv
  obtain ⟨cs, hrd⟩ := hs.rd
  have hcell : allCells [sv] = true := by have := hrd.c1; simp [allCells, this.2]
  apply a_r7_AllSpots
  unfold t_r7_AllSpots_0
  refine pu_boxX (cs := [sv]) hcell fun h1 b w => ?_
  have n1 := w.n
  have e1 := w.b
  have hx := w.ext (Nat.le_refl h.n)
  exact all_loop1 _ h1 M h1.n bk sv b (by omega) (by omega) (Nat.le_trans f.spots (by omega)) f.len f.rows (fun h2 v2 a => ⟨a.own.mono (by omega), hx.trans (a.ext.mono (by omega))⟩) _ 0 rfl h1 .nils []
    ⟨hs.ext (hx.mono hM), w.at_, OwnS.nil _ _, Nat.le_refl _, Ext.refl _ _⟩ (by simp) (by omega)
end
end Go.Proofs.YtlllhhjlfmhmlaaGreatDoor.VM
namespace Go.Proofs.YtlllhhjlfmhmlaaGreatDoor.VM
open Go
set_option linter.unusedVariables false
set_option linter.unusedSimpArgs false
set_option linter.unusedSectionVars false
set_option maxRecDepth 20000
noncomputable section
attribute [local instance] syZ
theorem allCells_iff : ∀ {l : List V}, allCells l = true ↔ ∀ v ∈ l, v.isCell = true
  | [] => by simp [allCells]
  | v :: l => by
    rw [allCells]
    cases h : v.isCell with
    | true => simp [h, allCells_iff (l := l)]
    | false => simp [h]
/-- a node: what of it counts, and the rest -/
structure Nd where
  k : Nat
  s : List Nat
  c : Nat
  r : Nat
  c1 : Nat
  r1 : Nat
  y : List V
def Nd.z (d : Nd) (i : Nat) : V := (d.y[i]?).getD .nils
def Nd.cells (d : Nd) : List V := [.int .i64 d.k, d.z 0, d.z 1, .str d.s, .int .i64 d.c, .int .i64 d.r, d.z 2, d.z 3, d.z 4, .int .i64 d.c1, .int .i64 d.r1, d.z 5, d.z 6, d.z 7]
def Nd.rect (own : List Nat) (d : Nd) : Option Rct :=
  if d.k = 5 then some ⟨if d.s = [] then own else d.s, d.r, d.c, d.r, d.c⟩ else if d.k = 6 then some ⟨if d.s = [] then own else d.s, d.r, d.c, d.r1, d.c1⟩ else none
def rectsN (own : List Nat) (l : List Nd) : List Rct := l.filterMap (Nd.rect own)
def ndCs (l : List Nd) : List V := l.flatMap Nd.cells
/-- nodes in memory -/
structure NodesAt (N : Nat) (h : Hp) (v : V) (l : List Nd) : Prop where
  rd : Rd h 14 v l.length (ndCs l)
  in_ : In N v
  cell : ∀ d ∈ l, allCells d.cells = true
theorem NodesAt.ext {N : Nat} {h h' : Hp} {v : V} {l : List Nd} (a : NodesAt N h v l) (x : Ext N h h') : NodesAt N h' v l := ⟨a.rd.ext x a.in_, a.in_, a.cell⟩
theorem ndCs_at : ∀ (l : List Nd) (i : Nat) (d : Nd), l[i]? = some d → ((ndCs l).drop (i * 14)).take 14 = d.cells
  | [], i, s, h => by simp at h
  | a :: l, 0, s, h => by
    simp only [List.getElem?_cons_zero, Option.some.injEq] at h
    subst h
    simp [ndCs, Nd.cells]
  | a :: l, i + 1, s, h => by
    simp only [List.getElem?_cons_succ] at h
    have := ndCs_at l i s h
    have e : (ndCs (a :: l)).drop ((i + 1) * 14) = (ndCs l).drop (i * 14) := by
      have : (i + 1) * 14 = 14 + i * 14 := by omega
      rw [this]
      unfold ndCs
      rw [List.flatMap_cons, ← List.drop_drop]
      congr 1
    rw [e, this]
theorem nd_get {N : Nat} {h : Hp} {v : V} {l : List Nd} (a : NodesAt N h v l) {i : Nat} {d : Nd} (hd : l[i]? = some d) :
    ∃ b o, (∀ (k : IntKind) (q : V → Prop), (Pu EE).iaddr 39 v (.int k i) q ↔ q (.ptr b o)) ∧ (∀ q : V → Prop, (Pu EE).load h 66 (.ptr b o) q ↔ q (.agg d.cells)) := by
  obtain ⟨b, o, h1, h2, _⟩ := rd_getS a.rd s_sl_api_Node l_api_Node (by omega) (List.getElem?_eq_some_iff.1 hd).1 (ndCs_at l i d hd)
  exact ⟨b, o, h1, h2⟩
theorem geqN (a b : Nat) (t : Nat) (cx cy : Bool) (q : V → Prop) : (Pu EE).bin .geq t cx cy (.int .i64 a) (.int .i64 b) q ↔ q (.bool (decide (b ≤ a))) := by
  rw [pu_geq]
  have : decide ((b : Int) ≤ (a : Int)) = decide (b ≤ a) := by rw [decide_eq_decide]; omega
  rw [this]
theorem leqN (a b : Nat) (t : Nat) (cx cy : Bool) (q : V → Prop) : (Pu EE).bin .leq t cx cy (.int .i64 a) (.int .i64 b) q ↔ q (.bool (decide (a ≤ b))) := by
  rw [pu_leq]
  have : decide ((a : Int) ≤ (b : Int)) = decide (a ≤ b) := by rw [decide_eq_decide]; omega
  rw [this]
theorem eqlN (a : Nat) (b : Nat) (t : Nat) (cx cy : Bool) (q : V → Prop) : (Pu EE).bin .eql t cx cy (.int .i64 a) (.int .i64 b) q ↔ q (.bool (decide (a = b))) := by
  rw [pu_eql]
  have : decide ((a : Int) = (b : Int)) = decide (a = b) := by rw [decide_eq_decide]; omega
  rw [this]
theorem named_l3 (Q : V → Hp → Prop) (v0 v1 : V) (i : Nat) (d : Nd) (s : Spt) (nm : List Nat) (tr tc : Nat) (t0 t3 t4 : V) (bs b8 b10 : Nat) (h : Hp) (hi : i < 1000000)
    (hbs : h.t.get bs = some (.cells (spC s) 26 false)) (hb8 : h.t.get b8 = some (.cells d.cells 66 false)) (hb10 : h.t.get b10 = some (.cells [t0, .int .i64 tc, .int .i64 tr, t3, t4] 63 false))
    (hy : (d.k = 5 ∨ d.k = 6) → Rct.has ⟨nm, d.r, d.c, tr, tc⟩ s = true → Q (.bool true) h) (hn : ¬ ((d.k = 5 ∨ d.k = 6) ∧ Rct.has ⟨nm, d.r, d.c, tr, tc⟩ s = true) → L_r7_named_1 Q v0 v1 (.ptr bs 0) (.int .i64 (i + 1 : Nat)) h) :
    L_r7_named_3 Q v0 v1 (.ptr bs 0) (.int .i64 i) (.ptr b8 0) (.str nm) (.ptr b10 0) h := by
  have hh : Rct.has ⟨nm, d.r, d.c, tr, tc⟩ s = true ↔ nm = s.s ∧ d.r ≤ s.r ∧ s.r ≤ tr ∧ d.c ≤ s.c ∧ s.c ≤ tc := by simp [Rct.has, and_assoc]
  rw [hh] at hy hn
  apply r_r7_named_3
  unfold t_r7_named_3
  rw [fa_api_Node_0, pu_load1 l_int hb8 rfl, show (5 : Int) = ((5 : Nat) : Int) from rfl, eqlN]
  by_cases hk : d.k = 5 ∨ d.k = 6
  · have hkk : ∀ q : V → Prop, ((Pu EE).gval (.bool (decide (d.k = 5))) false (fun k4 => (Pu EE).faddr 66 (.ptr b8 0) 0 fun x5 => k4 x5) fun x6 =>
        (Pu EE).gval (.bool (decide (d.k = 5))) false (fun k7 => (Pu EE).load h 3 x6 fun x8 => k7 x8) fun x9 =>
        (Pu EE).gval (.bool (decide (d.k = 5))) false (fun k10 => (Pu EE).bin .eql 3 false true x9 (.int .i64 6) fun x11 => k10 x11) fun x12 =>
        (Pu EE).pick (.bool (decide (d.k = 5))) (some (.bool true)) (some x12) q) ↔ q (.bool true) := by
      intro q
      by_cases h5 : d.k = 5
      · rw [decide_eq_true h5]
        simp only [pu_gval_tf, pu_pick_t]
      · have h6 : d.k = 6 := by omega
        rw [decide_eq_false h5]
        simp only [pu_gval_y, pu_pick_f, fa_api_Node_0]
        rw [pu_load1 l_int hb8 rfl, show (6 : Int) = ((6 : Nat) : Int) from rfl, eqlN, decide_eq_true h6]
    rw [hkk]
    simp only [fa_api_Spot_0, fa_api_Spot_1, fa_api_Spot_2, fa_api_Node_0, fa_api_Node_3, fa_api_Ref_1, fa_api_Ref_2]
    simp only [pu_gval_y]
    rw [pu_load1 l_string hbs rfl, pu_seql]
    simp only [pu_pick_t]
    by_cases c1 : nm = s.s
    · rw [decide_eq_true c1]
      simp only [pu_gval_y, pu_pick_t]
      rw [pu_load1 l_int hbs rfl]
      try simp only [fa_api_Spot_0, fa_api_Spot_1, fa_api_Spot_2, fa_api_Node_0, fa_api_Node_3, fa_api_Ref_1, fa_api_Ref_2]
      rw [pu_load1 l_int hb8 rfl, geqN]
      by_cases c2 : d.r ≤ s.r
      · rw [decide_eq_true c2]
        simp only [pu_gval_y, pu_pick_t]
        try simp only [fa_api_Spot_0, fa_api_Spot_1, fa_api_Spot_2, fa_api_Node_0, fa_api_Node_3, fa_api_Ref_1, fa_api_Ref_2]
        rw [pu_load1 l_int hbs rfl]
        try simp only [fa_api_Spot_0, fa_api_Spot_1, fa_api_Spot_2, fa_api_Node_0, fa_api_Node_3, fa_api_Ref_1, fa_api_Ref_2]
        rw [pu_load1 l_int hb10 rfl, leqN]
        by_cases c3 : s.r ≤ tr
        · rw [decide_eq_true c3]
          simp only [pu_gval_y, pu_pick_t]
          try simp only [fa_api_Spot_0, fa_api_Spot_1, fa_api_Spot_2, fa_api_Node_0, fa_api_Node_3, fa_api_Ref_1, fa_api_Ref_2]
          rw [pu_load1 l_int hbs rfl]
          try simp only [fa_api_Spot_0, fa_api_Spot_1, fa_api_Spot_2, fa_api_Node_0, fa_api_Node_3, fa_api_Ref_1, fa_api_Ref_2]
          rw [pu_load1 l_int hb8 rfl, geqN]
          by_cases c4 : d.c ≤ s.c
          · rw [decide_eq_true c4]
            simp only [pu_gval_y, pu_pick_t]
            try simp only [fa_api_Spot_0, fa_api_Spot_1, fa_api_Spot_2, fa_api_Node_0, fa_api_Node_3, fa_api_Ref_1, fa_api_Ref_2]
            rw [pu_load1 l_int hbs rfl]
            try simp only [fa_api_Spot_0, fa_api_Spot_1, fa_api_Spot_2, fa_api_Node_0, fa_api_Node_3, fa_api_Ref_1, fa_api_Ref_2]
            rw [pu_load1 l_int hb10 rfl, leqN, pu_cond_d]
            refine ⟨fun c5 => hy hk ⟨c1, c2, c3, c4, c5⟩, fun c5 => ?_⟩
            rw [pu_inc _ _ _ _ (by omega)]
            exact hn fun q => c5 q.2.2.2.2.2
          · rw [decide_eq_false c4]
            simp only [pu_gval_ft, pu_pick_f, pu_cond_f]
            rw [pu_inc _ _ _ _ (by omega)]
            exact hn fun q => c4 q.2.2.2.2.1
        · rw [decide_eq_false c3]
          simp only [pu_gval_ft, pu_pick_f, pu_cond_f]
          rw [pu_inc _ _ _ _ (by omega)]
          exact hn fun q => c3 q.2.2.2.1
      · rw [decide_eq_false c2]
        simp only [pu_gval_ft, pu_pick_f, pu_cond_f]
        rw [pu_inc _ _ _ _ (by omega)]
        exact hn fun q => c2 q.2.2.1
    · rw [decide_eq_false c1]
      simp only [pu_gval_ft, pu_pick_f, pu_cond_f]
      rw [pu_inc _ _ _ _ (by omega)]
      exact hn fun q => c1 q.2.1
  · have h5 : ¬ d.k = 5 := fun e => hk (.inl e)
    have h6 : ¬ d.k = 6 := fun e => hk (.inr e)
    rw [decide_eq_false h5]
    simp only [pu_gval_y, pu_pick_f, fa_api_Node_0]
    rw [pu_load1 l_int hb8 rfl, show (6 : Int) = ((6 : Nat) : Int) from rfl, eqlN, decide_eq_false h6]
    simp only [pu_gval_ft, pu_pick_f, pu_cond_f]
    rw [pu_inc _ _ _ _ (by omega)]
    exact hn fun q => hk q.1
theorem named_loop (Q : V → Hp → Prop) (N bs : Nat) (h0 : Hp) (v : V) (l : List Nd) (own : List Nat) (s : Spt) (hN : N ≤ h0.n) (hbn : bs < h0.n) (hbs : h0.t.get bs = some (.cells (spC s) 26 false)) (hv : NodesAt N h0 v l) (hl : l.length < 1000000) :
    ∀ (k i : Nat), l.length - i = k → i ≤ l.length → ∀ h : Hp, Ext h0.n h0 h → (∀ (b : Bool) (h' : Hp), b = named (rectsN own (l.drop i)) s → Ext h0.n h0 h' → Q (.bool b) h') → L_r7_named_1 Q v (.str own) (.ptr bs 0) (.int .i64 i) h := by
  intro k
  induction k with
  | zero =>
    intro i hk hi h x hq
    apply r_r7_named_1
    unfold t_r7_named_1
    have hv1 := hv.ext (x.mono hN)
    rw [pu_len hv1.rd s_sl_api_Node, pu_lssN, pu_cond_d]
    refine ⟨fun h1 => absurd h1 (by omega), fun _ => hq false h ?_ x⟩
    rw [List.drop_eq_nil_of_le (by omega)]
    rfl
  | succ k ih =>
    intro i hk hi h x hq
    apply r_r7_named_1
    unfold t_r7_named_1
    have hv1 := hv.ext (x.mono hN)
    rw [pu_len hv1.rd s_sl_api_Node, pu_lssN, pu_cond_d]
    refine ⟨fun h1 => ?_, fun h1 => absurd (by omega) h1⟩
    obtain ⟨d, hd⟩ : ∃ d, d = l[i] := ⟨_, rfl⟩
    have hdl : l[i]? = some d := by rw [hd]; exact List.getElem?_eq_getElem h1
    obtain ⟨b1, o1, g1, g2⟩ := nd_get hv1 hdl
    have hcell := hv.cell d (List.mem_of_getElem? hdl)
    rw [g1, g2]
    refine pu_allocX l_api_Node fun h2 b8 w8 => ?_
    refine pu_storeX l_api_Node w8.at_ (x := .agg d.cells) rfl hcell (r := d.cells) rfl fun h3 w9 => ?_
    have n2 := w8.n
    have e2 := w8.b
    have n3 := w9.n
    have x3 : Ext h0.n h0 h3 := x.trans ((w8.ext x.n).trans (w9.ext (by have := x.n; omega)))
    have hxn := x.n
    rw [drop_cons h1, ← hd] at hq
    have step : ∀ nm : List Nat, nm = (if d.s = [] then own else d.s) → L_r7_named_2 Q v (.str own) (.ptr bs 0) (.int .i64 i) (.ptr b8 0) (.str nm) h3 := by
      intro nm hnm
      apply r_r7_named_2
      unfold t_r7_named_2
      rw [fa_api_Node_4, pu_loadS l_api_Ref w9.at_ (l := [d.z 4, .int .i64 d.c1, .int .i64 d.r1, d.z 5, d.z 6]) rfl]
      refine pu_allocX l_api_Ref fun h4 b10 w10 => ?_
      have hc2 : allCells [d.z 4, .int .i64 d.c1, .int .i64 d.r1, d.z 5, d.z 6] = true := by
        refine allCells_iff.2 fun u hu => allCells_iff.1 hcell u ?_
        simp only [List.mem_cons, List.not_mem_nil, or_false] at hu
        rcases hu with rfl | rfl | rfl | rfl | rfl <;> simp [Nd.cells]
      refine pu_storeX l_api_Ref w10.at_ (x := .agg [d.z 4, .int .i64 d.c1, .int .i64 d.r1, d.z 5, d.z 6]) rfl hc2 rfl fun h5 w11 => ?_
      have n4 := w10.n
      have e4 := w10.b
      have n5 := w11.n
      have x5 : Ext h0.n h0 h5 := x3.trans ((w10.ext x3.n).trans (w11.ext (by have := x3.n; omega)))
      have hb8 : h5.t.get b8 = some (.cells d.cells 66 false) := by rw [w11.other b8 (by omega), w10.old b8 (by omega)]; exact w9.at_
      have hb5 : h5.t.get bs = some (.cells (spC s) 26 false) := by rw [x5.old bs hbn]; exact hbs
      have fin : ∀ (h6 : Hp) (tr tc : Nat) (t0 t3 t4 : V), Ext h0.n h0 h6 → h6.t.get b8 = some (.cells d.cells 66 false) → h6.t.get b10 = some (.cells [t0, .int .i64 tc, .int .i64 tr, t3, t4] 63 false) →
          (d.k = 5 → tr = d.r ∧ tc = d.c) → (d.k ≠ 5 → tr = d.r1 ∧ tc = d.c1) → L_r7_named_3 Q v (.str own) (.ptr bs 0) (.int .i64 i) (.ptr b8 0) (.str nm) (.ptr b10 0) h6 := by
        intro h6 tr tc t0 t3 t4 x6 k8 k10 k5 k6
        have hrect : d.rect own = if d.k = 5 ∨ d.k = 6 then some ⟨nm, d.r, d.c, tr, tc⟩ else none := by
          unfold Nd.rect
          rw [hnm]
          by_cases q5 : d.k = 5
          · obtain ⟨e1, e2⟩ := k5 q5
            simp [q5, e1, e2]
          · obtain ⟨e1, e2⟩ := k6 q5
            by_cases q6 : d.k = 6
            · simp [q6, e1, e2]
            · simp [q5, q6]
        refine named_l3 Q v _ i d s nm tr tc t0 t3 t4 bs b8 b10 h6 (by omega) (by rw [x6.old bs hbn]; exact hbs) k8 k10 (fun hk hh => hq true h6 ?_ x6) (fun hn => ?_)
        · unfold rectsN named
          rw [List.filterMap_cons, hrect, if_pos hk]
          simp only [List.any_cons, hh, Bool.true_or]
        · refine ih (i + 1) (by omega) (by omega) h6 x6 fun b h' e x' => hq b h' ?_ x'
          rw [e]
          unfold rectsN named
          rw [List.filterMap_cons, hrect]
          by_cases hk : d.k = 5 ∨ d.k = 6
          · rw [if_pos hk]
            have : Rct.has ⟨nm, d.r, d.c, tr, tc⟩ s = false := by
              cases q : Rct.has ⟨nm, d.r, d.c, tr, tc⟩ s with
              | false => rfl
              | true => exact absurd ⟨hk, q⟩ hn
            simp only [List.any_cons, this, Bool.false_or]
          · rw [if_neg hk]
      rw [fa_api_Node_0, pu_load1 l_int hb8 rfl, show (5 : Int) = ((5 : Nat) : Int) from rfl, eqlN, pu_cond_d]
      refine ⟨fun q5 => ?_, fun q5 => ?_⟩
      · rw [fa_api_Node_3, pu_loadS l_api_Ref hb8 (l := [.str d.s, .int .i64 d.c, .int .i64 d.r, d.z 2, d.z 3]) rfl]
        have hc3 : allCells [V.str d.s, .int .i64 d.c, .int .i64 d.r, d.z 2, d.z 3] = true := by
          refine allCells_iff.2 fun u hu => allCells_iff.1 hcell u ?_
          simp only [List.mem_cons, List.not_mem_nil, or_false] at hu
          rcases hu with rfl | rfl | rfl | rfl | rfl <;> simp [Nd.cells]
        refine pu_storeX l_api_Ref w11.at_ (x := .agg [.str d.s, .int .i64 d.c, .int .i64 d.r, d.z 2, d.z 3]) rfl hc3 rfl fun h6 w12 => ?_
        exact fin h6 d.r d.c _ _ _ (x5.trans (w12.ext (by have := x3.n; omega))) (by rw [w12.other b8 (by omega)]; exact hb8) w12.at_ (fun _ => ⟨rfl, rfl⟩) (fun q => absurd q5 q)
      · exact fin h5 d.r1 d.c1 _ _ _ x5 hb8 w11.at_ (fun q => absurd q q5) (fun _ => ⟨rfl, rfl⟩)
    rw [fa_api_Node_3, fa_api_Ref_0, pu_load1 l_string w9.at_ rfl, pu_seql, pu_cond_d]
    refine ⟨fun e => step own ?_, fun e => step d.s ?_⟩
    · rw [if_pos e]
    · rw [if_neg e]
theorem named_ok (N : Nat) (h : Hp) (v : V) (l : List Nd) (own : List Nat) (s : Spt) (hN : N ≤ h.n) (hv : NodesAt N h v l) (hl : l.length < 1000000) : Ans EE 33 [v, .str own, spV s] h fun x h' => x = .bool (named (rectsN own l) s) ∧ Ext h.n h h' := by
  apply a_r7_named
  unfold t_r7_named_0
  refine pu_boxX (cs := spC s) rfl fun h1 b w => ?_
  have hx := w.ext (Nat.le_refl h.n)
  have n1 := w.n
  have e1 := w.b
  exact named_loop _ N b h1 v l own s (by omega) (by omega) w.at_ (hv.ext (hx.mono hN)) hl l.length 0 (by omega) (by omega) h1 (Ext.refl _ _) fun b h' e x => ⟨by rw [e]; rfl, hx.trans (x.mono (by omega))⟩
end
end Go.Proofs.YtlllhhjlfmhmlaaGreatDoor.VM
namespace Go.Proofs.YtlllhhjlfmhmlaaGreatDoor.VM
open Go
set_option linter.unusedVariables false
set_option linter.unusedSectionVars false
set_option maxRecDepth 20000
noncomputable section
attribute [local instance] syZ
def lookM : List Memo → List Nat → Option Memo
  | [], _ => none
  | m :: r, t => bif eqS m.al [.str t] then some m else lookM r t
theorem memoH_look : ∀ {ms : List Memo} {t : List Nat} {m : Memo}, lookM ms t = some m → ∀ h : Hp, memoH ms [.str t] h = some (m.v.ren fun i => h.n + i, h.app (m.bs.map (Blk.ren fun i => h.n + i)))
  | [], _, _, h, _ => by cases h
  | m' :: r, t, m, hl, h => by
    rw [lookM] at hl
    rw [memoH]
    cases hb : eqS m'.al [.str t] with
    | true => rw [hb] at hl; cases hl; rfl
    | false => rw [hb] at hl; exact memoH_look hl h
def ndOf : List V → Option Nd
  | [.int .i64 (.ofNat k), x1, x2, .str s, .int .i64 (.ofNat c), .int .i64 (.ofNat r), x6, x7, x8, .int .i64 (.ofNat c1), .int .i64 (.ofNat r1), x11, x12, x13] => some ⟨k, s, c, r, c1, r1, [x1, x2, x6, x7, x8, x11, x12, x13]⟩
  | _ => none
theorem ndOf_ok {l : List V} {d : Nd} (h : ndOf l = some d) : d.cells = l := by
  unfold ndOf at h
  split at h
  · cases h; rfl
  · cases h
def ndsOf : Nat → List V → Option (List Nd)
  | 0, [] => some []
  | 0, _ :: _ => none
  | n + 1, l => (ndOf (l.take 14)).bind fun d => (ndsOf n (l.drop 14)).bind fun r => some (d :: r)
theorem ndsOf_ok : ∀ {n : Nat} {l : List V} {ds : List Nd}, ndsOf n l = some ds → ndCs ds = l ∧ ds.length = n
  | 0, [], ds, h => by cases h; exact ⟨rfl, rfl⟩
  | 0, _ :: _, ds, h => by cases h
  | n + 1, l, ds, h => by
    simp only [ndsOf, Option.bind_eq_some_iff, Option.some.injEq] at h
    obtain ⟨d, h1, r, h2, rfl⟩ := h
    obtain ⟨h3, h4⟩ := ndsOf_ok h2
    refine ⟨?_, by simp [h4]⟩
    unfold ndCs at h3 ⊢
    rw [List.flatMap_cons, h3, ndOf_ok h1, List.take_append_drop]
def Nd.ren (f : Nat → Nat) (d : Nd) : Nd := { d with y := d.y.map (V.ren f) }
theorem ren_cells (f : Nat → Nat) (d : Nd) : (d.ren f).cells = d.cells.map (V.ren f) := by
  have hz : ∀ i, (d.ren f).z i = V.ren f (d.z i) := fun i => by
    unfold Nd.z Nd.ren
    simp only [List.getElem?_map]
    cases d.y[i]? with
    | none => simp [V.ren]
    | some v => rfl
  simp only [Nd.cells, hz, List.map_cons, List.map_nil, V.ren]
  rfl
theorem ren_ndCs (f : Nat → Nat) (l : List Nd) : ndCs (l.map (Nd.ren f)) = (ndCs l).map (V.ren f) := by
  unfold ndCs
  induction l with
  | nil => rfl
  | cons d l ih => rw [List.map_cons, List.flatMap_cons, List.flatMap_cons, List.map_append, ih, ren_cells]
theorem ren_isCell (f : Nat → Nat) (v : V) : (V.ren f v).isCell = v.isCell := by cases v <;> simp [V.ren, V.isCell]
theorem ren_allCells (f : Nat → Nat) (l : List V) (h : allCells l = true) : allCells (l.map (V.ren f)) = true := by
  refine allCells_iff.2 fun v hv => ?_
  obtain ⟨u, hu, rfl⟩ := List.mem_map.1 hv
  rw [ren_isCell]
  exact allCells_iff.1 h u hu
theorem ren_rects (f : Nat → Nat) (own : List Nat) (l : List Nd) : rectsN own (l.map (Nd.ren f)) = rectsN own l := by
  unfold rectsN
  rw [List.filterMap_map]
  rfl
theorem renL_map (f : Nat → Nat) : ∀ l : List V, V.renL f l = l.map (V.ren f)
  | [] => rfl
  | v :: l => by rw [V.renL, renL_map f l]; rfl
/-- what a formula's memo tells: none: no formula -/
def formM (m : Memo) : Option (Option (List Nd)) :=
  match m.v with
  | .tup [.nils, .bool false] => some none
  | .tup [.slo 0 0 n lo 14, .bool true] => match m.bs with
    | .cells cs _ false :: _ => bif Nat.beq lo n then (ndsOf n cs).bind fun ds => bif ds.all fun d => allCells d.cells then some (some ds) else none else none
    | _ => none
  | _ => none
def formT (ms : List Memo) (t : List Nat) : Option (Option (List Nd)) := (lookM ms t).bind formM
/-- what Formula answers -/
def FormPost (h : Hp) (o : Option (List Nd)) (v : V) (h' : Hp) : Prop := Ext h.n h h' ∧ match o with
  | none => v = .tup [.nils, .bool false]
  | some ds => ∃ sv ds', v = .tup [sv, .bool true] ∧ NodesAt h'.n h' sv ds' ∧ ds'.length = ds.length ∧ ∀ own, rectsN own ds' = rectsN own ds
theorem form_ans {f : Nat} {ms : List Memo} (hk : EE.hook f = some (memoH ms)) {t : List Nat} {o : Option (List Nd)} (ht : formT ms t = some o) (h : Hp) : Ans EE f [.str t] h (FormPost h o) := by
  unfold formT at ht
  rw [Option.bind_eq_some_iff] at ht
  obtain ⟨m, h1, h2⟩ := ht
  refine ⟨_, _, Cs.hook hk (memoH_look h1 h), ⟨by simp [Hp.app], fun b hb => Hp.get_app_old _ _ hb⟩, ?_⟩
  unfold formM at h2
  split at h2
  · rename_i hv
    cases h2
    simp only
    rw [hv]
    simp [V.ren, V.renL]
  · rename_i n lo hv
    split at h2
    · rename_i cs e rest hbs
      cases hb : Nat.beq lo n with
      | false => rw [hb] at h2; cases h2
      | true =>
        have hlo := Nat.eq_of_beq_eq_true hb
        subst hlo
        rw [hb] at h2
        simp only [cond_true, Option.bind_eq_some_iff] at h2
        obtain ⟨ds, h3, h4⟩ := h2
        cases hc : (ds.all fun d => allCells d.cells) with
        | false => rw [hc] at h4; cases h4
        | true =>
          rw [hc] at h4
          cases h4
          obtain ⟨h5, h6⟩ := ndsOf_ok h3
          rw [List.all_eq_true] at hc
          simp only
          have hcell : (h.app (m.bs.map (Blk.ren fun i => h.n + i))).t.get h.n = some (.cells (cs.map (V.ren fun i => h.n + i)) e false) := by
            have := Hp.get_app_new h (m.bs.map (Blk.ren fun i => h.n + i)) 0 (b := Blk.ren (fun i => h.n + i) (.cells cs e false)) (by rw [hbs]; rfl)
            rw [Nat.add_zero] at this
            rw [this]
            simp [Blk.ren, renL_map]
          refine ⟨.slo h.n 0 lo lo 14, ds.map (Nd.ren fun i => h.n + i), ?_, ⟨?_, ?_, ?_⟩, by simp, fun own => ren_rects _ own ds⟩
          · rw [hv]
            simp [V.ren, V.renL]
          · rw [List.length_map, h6, ren_ndCs, h5]
            have hl : cs.length = lo * 14 := by
              rw [← h5, ← h6]
              unfold ndCs
              clear h3 h5 h6 hc
              induction ds with
              | nil => rfl
              | cons d l ih => rw [List.flatMap_cons, List.length_append, ih]; simp [Nd.cells]; omega
            refine ⟨by simp [hl], .inr ⟨h.n, 0, _, rdCells_of hcell, sub_all (by simp [hl]), .inr ⟨lo, 14, rfl⟩⟩⟩
          · intro b hb'
            cases hb'
            simp only [Hp.app, List.length_map, hbs, List.length_cons]
            omega
          · intro d hd
            obtain ⟨d0, hd0, rfl⟩ := List.mem_map.1 hd
            rw [ren_cells]
            exact ren_allCells _ _ (hc d0 hd0)
    · cases h2
  · cases h2
/-- the texts of cells by numbers -/
def textL : List (List Nat) := dpM.filterMap fun m => match m.al with
  | [.str s] => some s
  | _ => none
def formP (t : List Nat) : Option (List Nd) := (formT dpF t).getD none
def formR (t : List Nat) : Option (List Nd) := (formT dpR t).getD none
def keyN (d : Nd) : Nat × List Nat × Nat × Nat × Nat × Nat := (d.k, d.s, d.c, d.r, d.c1, d.r1)
theorem rects_key {a b : List Nd} (h : a.map keyN = b.map keyN) (own : List Nat) : rectsN own a = rectsN own b := by
  have hr : ∀ d e : Nd, keyN d = keyN e → d.rect own = e.rect own := fun d e q => by
    simp only [keyN, Prod.mk.injEq] at q
    obtain ⟨q1, q2, q3, q4, q5, q6⟩ := q
    unfold Nd.rect
    rw [q1, q2, q3, q4, q5, q6]
  unfold rectsN
  induction a generalizing b with
  | nil => cases b with
    | nil => rfl
    | cons _ _ => cases h
  | cons d a ih => cases b with
    | nil => cases h
    | cons e b =>
      simp only [List.map_cons, List.cons.injEq] at h
      rw [List.filterMap_cons, List.filterMap_cons, hr d e h.1, ih h.2]
def is61 : List Nat → Bool
  | c :: _ => Nat.beq c 61
  | [] => false
/-- looked at text by text -/
def textOK (t : List Nat) : Bool :=
  (match lookM dpM t with
   | some m => (match m.v, m.bs with | .bool true, [] => true | _, _ => false)
   | none => false) &&
  (match formT dpF t, formT dpR t with
   | some none, some none => (!is61 t)
   | some (some a), some (some b) => is61 t && decide (a.map keyN = b.map keyN) && Nat.ble a.length 20 && Nat.ble b.length 20
   | _, _ => false)
theorem texts_ok : (textL.all textOK) = true := by kernel_rfl
end
end Go.Proofs.YtlllhhjlfmhmlaaGreatDoor.VM
namespace Go.Proofs.YtlllhhjlfmhmlaaGreatDoor.VM
open Go
set_option linter.unusedVariables false
set_option maxRecDepth 100000
noncomputable section
noncomputable def c_r7_Needs : Code := match Tryz.f13.body with | some c => c | none => .skip
theorem b_r7_Needs : Tryz.f13.body = some c_r7_Needs := by kernel_rfl
theorem e_r7_Needs : EE.fn.get 13 = some Tryz.f13 := by kernel_rfl
noncomputable def L_r7_Needs_1 (Q : V → Hp → Prop) (v3 v5 v7 v8 v9 : V) (h : Hp) : Prop := ∀ s : List V, s.length = (Tryz.f13).ntmps → nth s 3 = v3 ∧ nth s 5 = v5 ∧ nth s 7 = v7 ∧ nth s 8 = v8 ∧ nth s 9 = v9 → Lab EE Tryz.f13 c_r7_Needs Q [false, true, false, true, true, true, true, true] s h []
noncomputable def X_r7_Needs (l1 : V → V → V → V → V → Hp → Prop) : Lb := fun π s h d => match d with
  | [] => bif eqB [false, true, false, true, true, true, true, true] π then l1 (nth s 3) (nth s 5) (nth s 7) (nth s 8) (nth s 9) h else False
  | _ => False
theorem o_r7_Needs (Q : V → Hp → Prop) : ∀ π s h d, X_r7_Needs (L_r7_Needs_1 Q) π s h d → s.length = (Tryz.f13).ntmps → Lab EE Tryz.f13 c_r7_Needs Q π s h d := by
  intro π s h d hx hl
  cases d with
  | cons _ _ => exact hx.elim
  | nil =>
    simp only [X_r7_Needs] at hx
    cases hk : eqB [false, true, false, true, true, true, true, true] π with
    | true => rw [hk, cond_true] at hx; rw [← eqB_eq hk]; exact hx s hl ⟨rfl, rfl, rfl, rfl, rfl⟩
    | false =>
    rw [hk, cond_false] at hx
    exact hx.elim
noncomputable def t_r7_Needs_0 (p : Pr) (l1 : V → V → V → V → V → Hp → Prop) (Q : V → Hp → Prop) (v0 v1 : V) (h : Hp) : Prop :=
  p.box h 24 v0 fun x1 h2 b3 =>
  p.box h2 26 v1 fun x4 h5 b6 =>
  p.load h5 24 x1 fun x7 =>
  p.load h5 26 x4 fun x8 =>
  p.call 17 [x7, x8] h5 fun x9 h10 =>
  p.call 16 [x9] h10 fun x11 h12 =>
  p.extr x11 0 fun x13 =>
  p.extr x11 1 fun x14 =>
  p.un .not x14 fun x15 =>
  p.cond x15
  (fun _ =>
   Q .nils h12)
  (fun _ =>
   p.load h12 24 x1 fun x16 =>
   p.call 15 [x16] h12 fun x17 h18 =>
   l1 x4 x13 .nils x17 (.int .i64 0) h18)
theorem q_r7_Needs_0 (p : Pr) (l1 : V → V → V → V → V → Hp → Prop) (Q : V → Hp → Prop) (v0 v1 : V) (h : Hp) : t_r7_Needs_0 p l1 Q v0 v1 h = KAt p EE (cutOf [[false, true, false, true, true, true, true, true]]) (X_r7_Needs l1) c_r7_Needs [] [] (finK p Tryz.f13 Q) ([v0, v1] ++ List.replicate 41 u0) h [] := by kernel_rfl
theorem a_r7_Needs {Q : V → Hp → Prop} {v0 v1 : V} {h : Hp} (H : t_r7_Needs_0 (Pu EE) (L_r7_Needs_1 Q) Q v0 v1 h) : Ans EE 13 [v0, v1] h Q :=
  ans_of (by kernel_rfl) e_r7_Needs b_r7_Needs (by kernel_rfl) (lab_ofX (o_r7_Needs Q) [] (cast (q_r7_Needs_0 (Pu EE) (L_r7_Needs_1 Q) Q v0 v1 h) H))
noncomputable def t_r7_Needs_1 (p : Pr) (l1 : V → V → V → V → V → Hp → Prop) (Q : V → Hp → Prop) (v3 v5 v7 v8 v9 : V) (h : Hp) : Prop :=
  p.lbui h #[29] .len [v8] fun x1 =>
  p.bin .lss 3 false false v9 x1 fun x2 =>
  p.cond x2
  (fun _ =>
   p.faddr 26 v3 0 fun x3 =>
   p.load h 9 x3 fun x4 =>
   p.iaddr 29 v8 v9 fun x5 =>
   p.load h 26 x5 fun x6 =>
   p.call 33 [v5, x4, x6] h fun x7 h8 =>
   p.cond x7
   (fun _ =>
    p.iaddr 29 v8 v9 fun x9 =>
    p.load h8 26 x9 fun x10 =>
    p.bsl h8 29 1 [(0, x10)] fun x11 h12 b13 =>
    p.ebui h12 #[29, 29] .append [v7, x11] fun x14 h15 =>
    p.bin .add 3 false true v9 (.int .i64 1) fun x16 =>
    l1 v3 v5 x14 v8 x16 h15)
   (fun _ =>
    p.bin .add 3 false true v9 (.int .i64 1) fun x17 =>
    l1 v3 v5 v7 v8 x17 h8))
  (fun _ =>
   Q v7 h)
theorem q_r7_Needs_1 (p : Pr) (l1 : V → V → V → V → V → Hp → Prop) (Q : V → Hp → Prop) (s : List V) (h : Hp) : t_r7_Needs_1 p l1 Q (nth s 3) (nth s 5) (nth s 7) (nth s 8) (nth s 9) h = KAt p EE (cutOf [[false, true, false, true, true, true, true, true]]) (X_r7_Needs l1) c_r7_Needs [] [true, true, true, true, true, false, true, false] (finK p Tryz.f13 Q) (nths s 43 0) h [] := by kernel_rfl
theorem r_r7_Needs_1 {Q : V → Hp → Prop} {v3 v5 v7 v8 v9 : V} {h : Hp} (H : t_r7_Needs_1 (Pu EE) (L_r7_Needs_1 Q) Q v3 v5 v7 v8 v9 h) : L_r7_Needs_1 Q v3 v5 v7 v8 v9 h := by
  intro s hl ⟨e3, e5, e7, e8, e9⟩
  subst e3 e5 e7 e8 e9
  have hl : s.length = 43 := hl
  rw [nth_all hl]
  exact lab_ofX (o_r7_Needs Q) [true, true, true, true, true, false, true, false] (cast (q_r7_Needs_1 (Pu EE) (L_r7_Needs_1 Q) Q s h) H)
noncomputable def c_r7_Order : Code := match Tryz.f10.body with | some c => c | none => .skip
theorem b_r7_Order : Tryz.f10.body = some c_r7_Order := by kernel_rfl
theorem e_r7_Order : EE.fn.get 10 = some Tryz.f10 := by kernel_rfl
noncomputable def L_r7_Order_1 (Q : V → Hp → Prop) (v1 v4 v5 v6 v7 : V) (h : Hp) : Prop := ∀ s : List V, s.length = (Tryz.f10).ntmps → nth s 1 = v1 ∧ nth s 4 = v4 ∧ nth s 5 = v5 ∧ nth s 6 = v6 ∧ nth s 7 = v7 → Lab EE Tryz.f10 c_r7_Order Q [false, true, false, true, true, true, true] s h []
noncomputable def L_r7_Order_2 (Q : V → Hp → Prop) (v4 v5 v10 : V) (h : Hp) : Prop := ∀ s : List V, s.length = (Tryz.f10).ntmps → nth s 4 = v4 ∧ nth s 5 = v5 ∧ nth s 10 = v10 → Lab EE Tryz.f10 c_r7_Order Q [false, true, true, true, true, true, true] s h []
noncomputable def L_r7_Order_3 (Q : V → Hp → Prop) (v4 v5 v10 v11 : V) (h : Hp) : Prop := ∀ s : List V, s.length = (Tryz.f10).ntmps → nth s 4 = v4 ∧ nth s 5 = v5 ∧ nth s 10 = v10 ∧ nth s 11 = v11 → Lab EE Tryz.f10 c_r7_Order Q [false, false, true, false, false, false, true, true, true, true, true, true] s h []
noncomputable def X_r7_Order (l1 : V → V → V → V → V → Hp → Prop) (l2 : V → V → V → Hp → Prop) (l3 : V → V → V → V → Hp → Prop) : Lb := fun π s h d => match d with
  | [] => bif eqB [false, true, false, true, true, true, true] π then l1 (nth s 1) (nth s 4) (nth s 5) (nth s 6) (nth s 7) h else bif eqB [false, true, true, true, true, true, true] π then l2 (nth s 4) (nth s 5) (nth s 10) h else bif eqB [false, false, true, false, false, false, true, true, true, true, true, true] π then l3 (nth s 4) (nth s 5) (nth s 10) (nth s 11) h else False
  | _ => False
theorem o_r7_Order (Q : V → Hp → Prop) : ∀ π s h d, X_r7_Order (L_r7_Order_1 Q) (L_r7_Order_2 Q) (L_r7_Order_3 Q) π s h d → s.length = (Tryz.f10).ntmps → Lab EE Tryz.f10 c_r7_Order Q π s h d := by
  intro π s h d hx hl
  cases d with
  | cons _ _ => exact hx.elim
  | nil =>
    simp only [X_r7_Order] at hx
    cases hk : eqB [false, true, false, true, true, true, true] π with
    | true => rw [hk, cond_true] at hx; rw [← eqB_eq hk]; exact hx s hl ⟨rfl, rfl, rfl, rfl, rfl⟩
    | false =>
    rw [hk, cond_false] at hx
    cases hk : eqB [false, true, true, true, true, true, true] π with
    | true => rw [hk, cond_true] at hx; rw [← eqB_eq hk]; exact hx s hl ⟨rfl, rfl, rfl⟩
    | false =>
    rw [hk, cond_false] at hx
    cases hk : eqB [false, false, true, false, false, false, true, true, true, true, true, true] π with
    | true => rw [hk, cond_true] at hx; rw [← eqB_eq hk]; exact hx s hl ⟨rfl, rfl, rfl, rfl⟩
    | false =>
    rw [hk, cond_false] at hx
    exact hx.elim
noncomputable def t_r7_Order_0 (p : Pr) (l1 : V → V → V → V → V → Hp → Prop) (l2 : V → V → V → Hp → Prop) (l3 : V → V → V → V → Hp → Prop) (Q : V → Hp → Prop) (v0 : V) (h : Hp) : Prop :=
  p.box h 24 v0 fun x1 h2 b3 =>
  p.load h2 24 x1 fun x4 =>
  p.call 15 [x4] h2 fun x5 h6 =>
  l1 x1 .nils .nils x5 (.int .i64 0) h6
theorem q_r7_Order_0 (p : Pr) (l1 : V → V → V → V → V → Hp → Prop) (l2 : V → V → V → Hp → Prop) (l3 : V → V → V → V → Hp → Prop) (Q : V → Hp → Prop) (v0 : V) (h : Hp) : t_r7_Order_0 p l1 l2 l3 Q v0 h = KAt p EE (cutOf [[false, true, false, true, true, true, true], [false, true, true, true, true, true, true], [false, false, true, false, false, false, true, true, true, true, true, true]]) (X_r7_Order l1 l2 l3) c_r7_Order [] [] (finK p Tryz.f10 Q) ([v0] ++ List.replicate 97 u0) h [] := by kernel_rfl
theorem a_r7_Order {Q : V → Hp → Prop} {v0 : V} {h : Hp} (H : t_r7_Order_0 (Pu EE) (L_r7_Order_1 Q) (L_r7_Order_2 Q) (L_r7_Order_3 Q) Q v0 h) : Ans EE 10 [v0] h Q :=
  ans_of (by kernel_rfl) e_r7_Order b_r7_Order (by kernel_rfl) (lab_ofX (o_r7_Order Q) [] (cast (q_r7_Order_0 (Pu EE) (L_r7_Order_1 Q) (L_r7_Order_2 Q) (L_r7_Order_3 Q) Q v0 h) H))
noncomputable def t_r7_Order_1 (p : Pr) (l1 : V → V → V → V → V → Hp → Prop) (l2 : V → V → V → Hp → Prop) (l3 : V → V → V → V → Hp → Prop) (Q : V → Hp → Prop) (v1 v4 v5 v6 v7 : V) (h : Hp) : Prop :=
  p.lbui h #[29] .len [v6] fun x1 =>
  p.bin .lss 3 false false v7 x1 fun x2 =>
  p.cond x2
  (fun _ =>
   p.load h 24 v1 fun x3 =>
   p.iaddr 29 v6 v7 fun x4 =>
   p.load h 26 x4 fun x5 =>
   p.call 17 [x3, x5] h fun x6 h7 =>
   p.call 16 [x6] h7 fun x8 h9 =>
   p.extr x8 0 fun x10 =>
   p.extr x8 1 fun x11 =>
   p.cond x11
   (fun _ =>
    p.iaddr 29 v6 v7 fun x12 =>
    p.load h9 26 x12 fun x13 =>
    p.bsl h9 29 1 [(0, x13)] fun x14 h15 b16 =>
    p.ebui h15 #[29, 29] .append [v4, x14] fun x17 h18 =>
    p.load h18 24 v1 fun x19 =>
    p.iaddr 29 v6 v7 fun x20 =>
    p.load h18 26 x20 fun x21 =>
    p.call 13 [x19, x21] h18 fun x22 h23 =>
    p.bsl h23 61 1 [(0, x22)] fun x24 h25 b26 =>
    p.ebui h25 #[61, 61] .append [v5, x24] fun x27 h28 =>
    p.bin .add 3 false true v7 (.int .i64 1) fun x29 =>
    l1 v1 x17 x27 v6 x29 h28)
   (fun _ =>
    p.bin .add 3 false true v7 (.int .i64 1) fun x30 =>
    l1 v1 v4 v5 v6 x30 h9))
  (fun _ =>
   l2 v4 v5 .nils h)
theorem q_r7_Order_1 (p : Pr) (l1 : V → V → V → V → V → Hp → Prop) (l2 : V → V → V → Hp → Prop) (l3 : V → V → V → V → Hp → Prop) (Q : V → Hp → Prop) (s : List V) (h : Hp) : t_r7_Order_1 p l1 l2 l3 Q (nth s 1) (nth s 4) (nth s 5) (nth s 6) (nth s 7) h = KAt p EE (cutOf [[false, true, false, true, true, true, true], [false, true, true, true, true, true, true], [false, false, true, false, false, false, true, true, true, true, true, true]]) (X_r7_Order l1 l2 l3) c_r7_Order [] [true, true, true, true, false, true, false] (finK p Tryz.f10 Q) (nths s 98 0) h [] := by kernel_rfl
theorem r_r7_Order_1 {Q : V → Hp → Prop} {v1 v4 v5 v6 v7 : V} {h : Hp} (H : t_r7_Order_1 (Pu EE) (L_r7_Order_1 Q) (L_r7_Order_2 Q) (L_r7_Order_3 Q) Q v1 v4 v5 v6 v7 h) : L_r7_Order_1 Q v1 v4 v5 v6 v7 h := by
  intro s hl ⟨e1, e4, e5, e6, e7⟩
  subst e1 e4 e5 e6 e7
  have hl : s.length = 98 := hl
  rw [nth_all hl]
  exact lab_ofX (o_r7_Order Q) [true, true, true, true, false, true, false] (cast (q_r7_Order_1 (Pu EE) (L_r7_Order_1 Q) (L_r7_Order_2 Q) (L_r7_Order_3 Q) Q s h) H)
noncomputable def t_r7_Order_2 (p : Pr) (l1 : V → V → V → V → V → Hp → Prop) (l2 : V → V → V → Hp → Prop) (l3 : V → V → V → V → Hp → Prop) (Q : V → Hp → Prop) (v4 v5 v10 : V) (h : Hp) : Prop :=
  l3 v4 v5 v10 (.int .i64 0) h
theorem q_r7_Order_2 (p : Pr) (l1 : V → V → V → V → V → Hp → Prop) (l2 : V → V → V → Hp → Prop) (l3 : V → V → V → V → Hp → Prop) (Q : V → Hp → Prop) (s : List V) (h : Hp) : t_r7_Order_2 p l1 l2 l3 Q (nth s 4) (nth s 5) (nth s 10) h = KAt p EE (cutOf [[false, true, false, true, true, true, true], [false, true, true, true, true, true, true], [false, false, true, false, false, false, true, true, true, true, true, true]]) (X_r7_Order l1 l2 l3) c_r7_Order [] [true, true, true, true, true, true, false] (finK p Tryz.f10 Q) (nths s 98 0) h [] := by kernel_rfl
theorem r_r7_Order_2 {Q : V → Hp → Prop} {v4 v5 v10 : V} {h : Hp} (H : t_r7_Order_2 (Pu EE) (L_r7_Order_1 Q) (L_r7_Order_2 Q) (L_r7_Order_3 Q) Q v4 v5 v10 h) : L_r7_Order_2 Q v4 v5 v10 h := by
  intro s hl ⟨e4, e5, e10⟩
  subst e4 e5 e10
  have hl : s.length = 98 := hl
  rw [nth_all hl]
  exact lab_ofX (o_r7_Order Q) [true, true, true, true, true, true, false] (cast (q_r7_Order_2 (Pu EE) (L_r7_Order_1 Q) (L_r7_Order_2 Q) (L_r7_Order_3 Q) Q s h) H)
noncomputable def t_r7_Order_3 (p : Pr) (l1 : V → V → V → V → V → Hp → Prop) (l2 : V → V → V → Hp → Prop) (l3 : V → V → V → V → Hp → Prop) (Q : V → Hp → Prop) (v4 v5 v10 v11 : V) (h : Hp) : Prop :=
  p.lbui h #[29] .len [v4] fun x1 =>
  p.bin .lss 3 false false v11 x1 fun x2 =>
  p.gval x2 true (fun k3 =>
   k3 v5) fun x4 =>
  p.gval x2 true (fun k5 =>
   k5 v11) fun x6 =>
  p.gval x2 true (fun k7 =>
   p.iaddr 61 x4 x6 fun x8 =>
   k7 x8) fun x9 =>
  p.gval x2 true (fun k10 =>
   p.load h 29 x9 fun x11 =>
   k10 x11) fun x12 =>
  p.gval x2 true (fun k13 =>
   k13 v4) fun x14 =>
  p.geff x2 true (fun k15 =>
   p.call 28 [x12, x14] h fun x16 h17 =>
   k15 x16 h17) h fun x18 h19 =>
  p.pick x2 (some x18) (some (.bool false)) fun x20 =>
  p.cond x20
  (fun _ =>
   p.bin .add 3 false true v11 (.int .i64 1) fun x21 =>
   l3 v4 v5 v10 x21 h19)
  (fun _ =>
   p.lbui h19 #[29] .len [v4] fun x22 =>
   p.bin .eql 3 false false v11 x22 fun x23 =>
   p.cond x23
   (fun _ =>
    Q (.tup [v10, v4]) h19)
   (fun _ =>
    p.iaddr 29 v4 v11 fun x24 =>
    p.load h19 26 x24 fun x25 =>
    p.bsl h19 29 1 [(0, x25)] fun x26 h27 b28 =>
    p.ebui h27 #[29, 29] .append [v10, x26] fun x29 h30 =>
    p.bsl h30 29 0 [] fun x31 h32 b33 =>
    p.slice 29 v4 none (some v11) none fun x34 =>
    p.ebui h32 #[29, 29] .append [x31, x34] fun x35 h36 =>
    p.bin .add 3 false true v11 (.int .i64 1) fun x37 =>
    p.slice 29 v4 (some x37) none none fun x38 =>
    p.ebui h36 #[29, 29] .append [x35, x38] fun x39 h40 =>
    p.bsl h40 61 0 [] fun x41 h42 b43 =>
    p.slice 61 v5 none (some v11) none fun x44 =>
    p.ebui h42 #[61, 61] .append [x41, x44] fun x45 h46 =>
    p.bin .add 3 false true v11 (.int .i64 1) fun x47 =>
    p.slice 61 v5 (some x47) none none fun x48 =>
    p.ebui h46 #[61, 61] .append [x45, x48] fun x49 h50 =>
    l2 x39 x49 x29 h50))
theorem q_r7_Order_3 (p : Pr) (l1 : V → V → V → V → V → Hp → Prop) (l2 : V → V → V → Hp → Prop) (l3 : V → V → V → V → Hp → Prop) (Q : V → Hp → Prop) (s : List V) (h : Hp) : t_r7_Order_3 p l1 l2 l3 Q (nth s 4) (nth s 5) (nth s 10) (nth s 11) h = KAt p EE (cutOf [[false, true, false, true, true, true, true], [false, true, true, true, true, true, true], [false, false, true, false, false, false, true, true, true, true, true, true]]) (X_r7_Order l1 l2 l3) c_r7_Order [] [true, true, true, true, true, true, false, false, false, true, false, false] (finK p Tryz.f10 Q) (nths s 98 0) h [] := by kernel_rfl
theorem r_r7_Order_3 {Q : V → Hp → Prop} {v4 v5 v10 v11 : V} {h : Hp} (H : t_r7_Order_3 (Pu EE) (L_r7_Order_1 Q) (L_r7_Order_2 Q) (L_r7_Order_3 Q) Q v4 v5 v10 v11 h) : L_r7_Order_3 Q v4 v5 v10 v11 h := by
  intro s hl ⟨e4, e5, e10, e11⟩
  subst e4 e5 e10 e11
  have hl : s.length = 98 := hl
  rw [nth_all hl]
  exact lab_ofX (o_r7_Order Q) [true, true, true, true, true, true, false, false, false, true, false, false] (cast (q_r7_Order_3 (Pu EE) (L_r7_Order_1 Q) (L_r7_Order_2 Q) (L_r7_Order_3 Q) Q s h) H)
end
end Go.Proofs.YtlllhhjlfmhmlaaGreatDoor.VM
namespace Go.Proofs.YtlllhhjlfmhmlaaGreatDoor.VM
open Go
set_option linter.unusedVariables false
set_option linter.unusedSectionVars false
set_option linter.unusedSimpArgs false
set_option maxRecDepth 20000
noncomputable section
attribute [local instance] syZ
/-- a text that is looked at -/
structure TextIs (t : List Nat) : Prop where
  may : ∃ m, lookM dpM t = some m ∧ m.v = .bool true ∧ m.bs = []
  prog : formT dpF t = some (formP t)
  ref : formT dpR t = some (formR t)
  some_ : (formP t).isSome = (formR t).isSome
  rects : ∀ own a b, formP t = some a → formR t = some b → rectsN own a = rectsN own b
  few : ∀ a b, formP t = some a → formR t = some b → a.length ≤ 20 ∧ b.length ≤ 20
  eq61 : (formP t).isSome = is61 t
theorem textIs {t : List Nat} (h : t ∈ textL) : TextIs t := by
  have hk := List.all_eq_true.1 texts_ok t h
  unfold textOK at hk
  rw [Bool.and_eq_true] at hk
  obtain ⟨h1, h2⟩ := hk
  have hm : ∃ m, lookM dpM t = some m ∧ m.v = .bool true ∧ m.bs = [] := by
    split at h1
    · rename_i m hm
      split at h1
      · rename_i e1 e2; exact ⟨m, hm, e1, e2⟩
      · cases h1
    · cases h1
  split at h2
  · rename_i e1 e2
    have p : formP t = none := by unfold formP; rw [e1]; rfl
    have r : formR t = none := by unfold formR; rw [e2]; rfl
    refine ⟨hm, by rw [e1, p], by rw [e2, r], by rw [p, r], fun _ _ _ q => (by rw [p] at q; cases q), fun _ _ q => (by rw [p] at q; cases q), ?_⟩
    rw [p]
    simpa using h2.symm
  · rename_i a b e1 e2
    have p : formP t = some a := by unfold formP; rw [e1]; rfl
    have r : formR t = some b := by unfold formR; rw [e2]; rfl
    simp only [Bool.and_eq_true, decide_eq_true_iff, Nat.ble_eq] at h2
    obtain ⟨⟨⟨h3, h4⟩, h5⟩, h6⟩ := h2
    refine ⟨hm, by rw [e1, p], by rw [e2, r], by rw [p, r]; rfl, fun own x y q s => ?_, fun x y q s => ?_, ?_⟩
    · rw [p] at q; rw [r] at s; cases q; cases s
      exact rects_key h4 own
    · rw [p] at q; rw [r] at s; cases q; cases s
      exact ⟨h5, h6⟩
    · rw [p, h3]; rfl
  · cases h2
/-- what a text's rectangles are -/
def rectsT (own t : List Nat) : List Rct := match formR t with
  | some l => rectsN own l
  | none => []
theorem rectsT_prog {t : List Nat} (h : TextIs t) (own : List Nat) : (match formP t with | some l => rectsN own l | none => []) = rectsT own t := by
  unfold rectsT
  cases p : formP t with
  | none =>
    have := h.some_
    rw [p] at this
    cases r : formR t with
    | none => rfl
    | some b => rw [r] at this; cases this
  | some a =>
    cases r : formR t with
    | none => have := h.some_; rw [p, r] at this; cases this
    | some b => exact h.rects own a b p r
theorem hook_R : EE.hook 16 = some (memoH dpR) := by kernel_rfl
theorem hook_F : EE.hook 29 = some (memoH dpF) := by kernel_rfl
theorem hook_M : EE.hook 46 = some (memoH dpM) := by kernel_rfl
theorem rform_ok {t : List Nat} (ht : TextIs t) (h : Hp) : Ans EE 16 [.str t] h (FormPost h (formR t)) := form_ans hook_R ht.ref h
theorem pform_ok {t : List Nat} (ht : TextIs t) (h : Hp) : Ans EE 29 [.str t] h (FormPost h (formP t)) := form_ans hook_F ht.prog h
theorem may_ok {t : List Nat} (ht : TextIs t) (h : Hp) : Ans EE 46 [.str t] h fun v h' => v = .bool true ∧ Ext h.n h h' := by
  obtain ⟨m, h1, h2, h3⟩ := ht.may
  refine ⟨_, _, Cs.hook hook_M (memoH_look h1 h), ?_, by simp [Hp.app], fun b hb => Hp.get_app_old _ _ hb⟩
  rw [h2]
  simp [V.ren]
/-- a book of such texts, of a bearable size -/
structure Good (bk : Bok) : Prop where
  fit : Fit bk
  ris : Rises bk
  text : ∀ s ∈ bk, ∀ row ∈ s.rows, ∀ t ∈ row, TextIs t
theorem text0 : TextIs [] := textIs (by decide +kernel)
theorem Good.get {bk : Bok} (g : Good bk) (s : Spt) : TextIs (getC bk s) := by
  unfold getC
  cases hf : findR bk s.s with
  | none => exact text0
  | some t =>
    simp only
    cases hr : t.rows[s.r]? with
    | none => exact text0
    | some row =>
      simp only
      cases hc : row[s.c]? with
      | none => exact text0
      | some x => exact g.text t (List.mem_of_find?_eq_some hf) row (List.mem_of_getElem? hr) x (List.mem_of_getElem? hc)
/-- what a cell needs -/
def ndR (bk : Bok) (s : Spt) : List Spt := needsR (rectsT s.s (getC bk s)) bk
theorem ndR_none {bk : Bok} {s : Spt} (h : formR (getC bk s) = none) : ndR bk s = [] := by
  unfold ndR rectsT
  rw [h]
  unfold needsR
  simp [named]
theorem take_snocS {l : List Spt} {i : Nat} (h : i < l.length) : l.take (i + 1) = l.take i ++ [l[i]] := by rw [List.take_succ_eq_append_getElem h]
theorem needs_loop (Q : V → Hp → Prop) (N M b : Nat) (h0 : Hp) (nv av : V) (nds : List Nd) (s : Spt) (bk : Bok) (hN : N ≤ h0.n) (hM : M ≤ h0.n) (hb : b < h0.n) (hs : h0.t.get b = some (.cells (spC s) 26 false)) (hnv : NodesAt N h0 nv nds) (hnl : nds.length < 1000000)
    (hav : Sps h0 av (allSpots bk)) (hai : In h0.n av) (hfit : (allSpots bk).length ≤ 100000)
    (hq : ∀ (v : V) (h : Hp), OwnS h0.n h v ((allSpots bk).filter (named (rectsN s.s nds))) → Ext h0.n h0 h → Q v h) :
    ∀ (k i : Nat), (allSpots bk).length - i = k → i ≤ (allSpots bk).length → ∀ (h : Hp) (v : V) (acc : List Spt), Ext h0.n h0 h → OwnS h0.n h v acc → acc = ((allSpots bk).take i).filter (named (rectsN s.s nds)) →
      L_r7_Needs_1 Q (.ptr b 0) nv v av (.int .i64 i) h := by
  intro k
  induction k with
  | zero =>
    intro i hk hi h v acc x o ha
    apply r_r7_Needs_1
    unfold t_r7_Needs_1
    rw [pu_len (hav.ext x hai) s_sl_api_Spot, pu_lssN, pu_cond_d]
    refine ⟨fun h1 => absurd h1 (by omega), fun _ => hq v h ?_ x⟩
    rw [List.take_of_length_le (by omega)] at ha
    rw [← ha]; exact o
  | succ k ih =>
    intro i hk hi h v acc x o ha
    apply r_r7_Needs_1
    unfold t_r7_Needs_1
    rw [pu_len (hav.ext x hai) s_sl_api_Spot, pu_lssN, pu_cond_d]
    refine ⟨fun h1 => ?_, fun h1 => absurd (by omega) h1⟩
    have hxn := x.n
    obtain ⟨b1, o1, g1, g2, _⟩ := sps_get (hav.ext x hai) s_sl_api_Spot l_api_Spot (List.getElem?_eq_getElem h1)
    have hbs : h.t.get b = some (.cells (spC s) 26 false) := by rw [x.old b hb]; exact hs
    rw [fa_api_Spot_0, pu_load1 l_string hbs rfl, g1, g2]
    refine (named_ok N h nv nds s.s _ (by omega) (hnv.ext (x.mono hN)) hnl).mono ?_
    rintro y h2 ⟨rfl, hx2⟩
    have x2 : Ext h0.n h0 h2 := x.trans (hx2.mono hxn)
    have hn2 := hx2.n
    have o2 : OwnS h0.n h2 v acc := o.keep hx2.n fun c hc => hx2.old c (o.in_ c hc)
    have hal : acc.length + 1 ≤ 1048576 := by
      have := List.length_filter_le (named (rectsN s.s nds)) ((allSpots bk).take i)
      rw [← ha] at this
      have := List.length_take_le i (allSpots bk)
      omega
    cases hnm : named (rectsN s.s nds) (allSpots bk)[i] with
    | true =>
      rw [pu_cond_t]
      obtain ⟨b3, o3, g3, g4, _⟩ := sps_get (hav.ext x2 hai) s_sl_api_Spot l_api_Spot (List.getElem?_eq_getElem h1)
      rw [g3, g4]
      refine append_spot o2 _ hal (by omega) _ fun v' h' o' x' _ _ => ?_
      rw [pu_inc _ _ _ _ (by omega)]
      refine ih (i + 1) (by omega) (by omega) h' v' _ (x2.trans x') o' ?_
      rw [take_snocS h1, List.filter_append, ha]
      simp [hnm]
    | false =>
      rw [pu_cond_f, pu_inc _ _ _ _ (by omega)]
      refine ih (i + 1) (by omega) (by omega) h2 v acc x2 o2 ?_
      rw [take_snocS h1, List.filter_append, ← ha]
      simp [hnm]
theorem rneeds_ok (N : Nat) (h : Hp) (v : V) (bk : Bok) (s : Spt) (hv : BokAt N h v bk) (hN : N ≤ h.n) (g : Good bk) : Ans EE 13 [v, spV s] h fun x h' => OwnS h.n h' x (ndR bk s) ∧ Ext h.n h h' := by
  have hv0 := hv
  obtain ⟨sv, rfl, hs⟩ := hv
  obtain ⟨cs, hrd⟩ := hs.rd
  have hcell : allCells [sv] = true := by have := hrd.c1; simp [allCells, this.2]
  apply a_r7_Needs
  unfold t_r7_Needs_0
  refine pu_boxX (cs := [sv]) hcell fun h1 b1 w1 => ?_
  refine pu_boxX (cs := spC s) rfl fun h2 b2 w2 => ?_
  have n1 := w1.n
  have n2 := w2.n
  have e1 := w1.b
  have e2 := w2.b
  have hx2 : Ext h.n h h2 := (w1.ext (Nat.le_refl h.n)).trans (w2.ext (by omega))
  have hb1 : h2.t.get b1 = some (.cells [sv] 24 false) := by rw [w2.old b1 (by omega)]; exact w1.at_
  rw [pu_loadS l_api_Book hb1 (l := [sv]) rfl, pu_loadS l_api_Spot w2.at_ (l := spC s) rfl]
  refine (rget_ok N h2 _ bk s (hv0.ext (hx2.mono hN)) (by omega) g.fit.len).mono ?_
  rintro y h3 ⟨rfl, hx3⟩
  have n3 := hx3.n
  have ht := g.get s
  refine (rform_ok ht h3).mono ?_
  rintro y h4 ⟨hx4, hp⟩
  have n4 := hx4.n
  have x4 : Ext h2.n h2 h4 := hx3.trans (hx4.mono n3)
  have xx : Ext h.n h h4 := hx2.trans (x4.mono (by omega))
  cases hf : formR (getC bk s) with
  | none =>
    rw [hf] at hp
    simp only at hp
    subst hp
    rw [pu_extr0, pu_extr1, pu_not]
    simp only [Bool.not_false, pu_cond_t]
    rw [ndR_none hf]
    exact ⟨OwnS.nil _ _, xx⟩
  | some ds =>
    rw [hf] at hp
    obtain ⟨nv, ds', rfl, hnd, hlen, hrc⟩ := hp
    rw [pu_extr0, pu_extr1, pu_not]
    simp only [Bool.not_true, pu_cond_f]
    have hb14 : h4.t.get b1 = some (.cells [sv] 24 false) := by rw [x4.old b1 (by omega)]; exact hb1
    rw [pu_loadS l_api_Book hb14 (l := [sv]) rfl]
    refine (all_ok N h4 _ bk (hv0.ext (xx.mono hN)) (by omega) g.fit).mono ?_
    rintro av h5 ⟨ho, hx5⟩
    have n5 := hx5.n
    have hfew : ds'.length < 1000000 := by
      cases p : formP (getC bk s) with
      | none => have := ht.some_; rw [p, hf] at this; cases this
      | some a => have := (ht.few a ds p hf).2; omega
    have hbs : h5.t.get b2 = some (.cells (spC s) 26 false) := by rw [hx5.old b2 (by omega), x4.old b2 (by omega)]; exact w2.at_
    refine needs_loop _ h4.n N b2 h5 nv av ds' s bk n5 (by omega) (by omega) hbs (hnd.ext hx5) hfew ho.sps ho.in_ g.fit.spots (fun v6 h6 o6 x6 => ⟨?_, xx.trans ((hx5.mono (by omega)).trans (x6.mono (by omega)))⟩) _ 0 rfl (by omega) h5 .nils [] (Ext.refl _ _) (OwnS.nil _ _) (by simp)
    have e : ndR bk s = (allSpots bk).filter (named (rectsN s.s ds')) := by
      unfold ndR rectsT needsR
      rw [hf, hrc]
    rw [e]
    exact o6.mono (by omega)
end
end Go.Proofs.YtlllhhjlfmhmlaaGreatDoor.VM
namespace Go.Proofs.YtlllhhjlfmhmlaaGreatDoor.VM
open Go
set_option linter.unusedVariables false
set_option linter.unusedSectionVars false
set_option linter.unusedSimpArgs false
set_option maxRecDepth 20000
noncomputable section
attribute [local instance] syZ
theorem noIntSS : ∃ iu, EE.ty.get 61 = some iu ∧ ∀ k, iu.k ≠ .int k := by
  obtain ⟨i, h1, h2⟩ := s_sl_sl_api_Spot; exact ⟨i, h1, fun k => by rw [h2]; simp⟩
/-- a slice more -/
theorem app_all {N : Nat} {h : Hp} {v : V} {el sz len : Nat} {cs : List V} (o : Own N h v el sz len cs) {t : Nat} (ht : IsSl EE t el) {z : List V} {ag : Bool} (he : El EE el sz z ag) {y : V} {n : Nat} {ws : List V} (r : Rd h sz y n ws) (hw : allCells ws = true) (hlen : len + n ≤ 1048576) (hN : N ≤ h.n) {q : V → Hp → Prop}
    (hq : ∀ v' h', Own N h' v' el sz (len + n) (cs ++ ws) → Ext N h h' → (∀ c, c < h.n → blkOf v ≠ some c → h'.t.get c = h.t.get c) → (∀ c, blkOf v' = some c → blkOf v = some c ∨ h.n ≤ c) → q v' h') : (Pu EE).ebui h #[t, t] .append [v, y] q := by
  have hni : ∃ iu, EE.ty.get t = some iu ∧ ∀ k, iu.k ≠ .int k := by obtain ⟨i, h1, h2⟩ := ht; exact ⟨i, h1, fun k => by rw [h2]; simp⟩
  obtain ⟨e1, e2⟩ := elems_rd r
  obtain ⟨v', h', h1, h2, h3, h4, h5⟩ := own_append (ts := #[t, t]) o rfl rfl ht hni he e1 (fun q => by rw [e2] at q; cases q) hw hlen hN
  exact (h1 q).2 (hq v' h' h2 h3 h4 h5)
theorem pu_bsl0 {h : Hp} {t e sz : Nat} {z : List V} {ag : Bool} (ht : IsSl EE t e) (he : El EE e sz z ag) (q : V → Hp → Blk → Prop) : (Pu EE).bsl h t 0 [] q ↔ q (.sl h.n 0 0 0) (h.new (.cells [] e false)) (.cells [] e false) := by
  obtain ⟨ti, h1, h2⟩ := ht
  obtain ⟨⟨j, h3, h4, h5, h6, h7⟩, h8⟩ := he
  have : vbuildSlice EE t 0 [] = some (.sl 0 0, .cells [] e false) := by
    have hb : (Nat.ble (0 * j.size) 16777216 && Nat.beq ((j.zero.getD []).length) j.size) = true := by
      rw [h5, h4]
      simp [h8]
    simp only [vbuildSlice, h1, Option.bind_some, h2, h3]
    rw [hb]
    simp only [cond_true, h5, Option.bind_some]
    rfl
  show (∃ y, vbuildSlice EE t 0 [] = some y ∧ q (y.1.at h.n) (h.new y.2) y.2) ↔ _
  rw [this]
  constructor
  · rintro ⟨y, h9, h10⟩; cases h9; exact h10
  · intro h9; exact ⟨_, rfl, h9⟩
/-- a list without one of its elements, in memory of its own -/
theorem del_one {N : Nat} {h : Hp} {v : V} {el sz len : Nat} {cs : List V} (o : Own N h v el sz len cs) {t : Nat} (ht : IsSl EE t el) {z : List V} {ag : Bool} (he : El EE el sz z ag) (hw : allCells cs = true) {k : Nat} (hk : k < len) (hlen : len ≤ 1000000) {q : V → Hp → Prop}
    (hq : ∀ v' h', Own h.n h' v' el sz (len - 1) (cs.take (k * sz) ++ cs.drop ((k + 1) * sz)) → Ext h.n h h' → q v' h') :
    (Pu EE).bsl h t 0 [] fun x1 h1 _ => (Pu EE).slice t v none (some (.int .i64 k)) none fun x2 => (Pu EE).ebui h1 #[t, t] .append [x1, x2] fun x3 h2 => (Pu EE).bin .add 3 false true (.int .i64 k) (.int .i64 1) fun x4 => (Pu EE).slice t v (some x4) none none fun x5 => (Pu EE).ebui h2 #[t, t] .append [x3, x5] q := by
  rw [pu_bsl0 ht he]
  obtain ⟨h1, hh1⟩ : ∃ h1, h1 = h.new (.cells [] el false) := ⟨_, rfl⟩
  rw [← hh1]
  have n1 : h1.n = h.n + 1 := by rw [hh1]; rfl
  have x1 : Ext h.n h h1 := by rw [hh1]; exact Ext.new (Nat.le_refl _) _
  have o1 : Own h.n h1 (.sl h.n 0 0 0) el sz 0 [] := ⟨by simp, .inr ⟨h.n, Nat.le_refl _, by omega, by rw [hh1, Hp.get_new, if_pos rfl], .inr rfl⟩⟩
  obtain ⟨u, c1, c2, c3, _, _⟩ := cut_sub (o.rd.ext x1 o.in_) o.fits.1 ht he o.fits.2 (lo := none) (hi := some (.int .i64 (k : Nat))) (a := 0) (b := k) (by omega) (by omega) fun cap hcap => bounds_to _ _ cap _ (by omega)
  rw [c1]
  have hcs := o.sized
  have hmk : k * sz ≤ len * sz := Nat.mul_le_mul_right _ (by omega)
  have hmk2 : (k + 1) * sz ≤ len * sz := Nat.mul_le_mul_right _ (by omega)
  have sub_c : ∀ l : List V, (∀ x ∈ l, x ∈ cs) → allCells l = true := fun l hl => allCells_iff.2 fun x hx => allCells_iff.1 hw x (hl x hx)
  simp only [Nat.zero_mul, List.drop_zero, Nat.sub_zero] at c2
  refine app_all o1 ht he c2 (sub_c _ fun x hx => List.mem_of_mem_take hx) (by omega) (by omega) fun v2 h2 o2 x2 f2 _ => ?_
  have n2 := x2.n
  have x2' : Ext h.n h h2 := x1.trans x2
  rw [pu_inc _ _ _ _ (by omega)]
  obtain ⟨u3, d1, d2, d3, _, _⟩ := cut_sub (o.rd.ext x2' o.in_) o.fits.1 ht he o.fits.2 (lo := some (.int .i64 ((k + 1 : Nat) : Int))) (hi := none) (a := k + 1) (b := len) (by omega) (by omega) fun cap hcap => bounds_from _ _ cap _ (by omega)
  rw [d1]
  have e1 : (cs.drop ((k + 1) * sz)).take ((len - (k + 1)) * sz) = cs.drop ((k + 1) * sz) := by
    apply List.take_of_length_le
    rw [List.length_drop, hcs, Nat.sub_mul]
    omega
  rw [e1] at d2
  refine app_all o2 ht he d2 (sub_c _ fun x hx => List.mem_of_mem_drop hx) (by omega) (by omega) fun v4 h4 o4 x4 _ _ => hq v4 h4 ?_ (x2'.trans x4)
  rw [List.nil_append, show 0 + k + (len - (k + 1)) = len - 1 by omega] at o4
  exact o4
theorem spCs_take : ∀ (l : List Spt) (k : Nat), (spCs l).take (k * 3) = spCs (l.take k)
  | [], k => by simp [spCs]
  | a :: l, 0 => by simp [spCs]
  | a :: l, k + 1 => by
    have e : (k + 1) * 3 = 3 + k * 3 := by omega
    rw [e, List.take_succ_cons]
    show (spC a ++ spCs l).take (3 + k * 3) = spC a ++ spCs (l.take k)
    rw [← spCs_take l k, List.take_append]
    congr 1
    · exact List.take_of_length_le (by simp [spC])
    · congr 1
      simp [spC]
theorem spCs_drop : ∀ (l : List Spt) (k : Nat), (spCs l).drop (k * 3) = spCs (l.drop k)
  | [], k => by simp [spCs]
  | a :: l, 0 => by simp
  | a :: l, k + 1 => by
    have e : (k + 1) * 3 = 3 + k * 3 := by omega
    rw [e, List.drop_succ_cons, ← spCs_drop l k, ← List.drop_drop]
    rfl
theorem spCs_del (l : List Spt) (k : Nat) : (spCs l).take (k * 3) ++ (spCs l).drop ((k + 1) * 3) = spCs (l.take k ++ l.drop (k + 1)) := by rw [spCs_take, spCs_drop, spCs_app]
theorem erase_at : ∀ {l : List Spt} {k : Nat} (hd : l.Nodup) (hk : k < l.length), l.erase l[k] = l.take k ++ l.drop (k + 1)
  | [], k, _, hk => by simp at hk
  | a :: l, 0, _, _ => by simp
  | a :: l, k + 1, hd, hk => by
    have h1 := List.nodup_cons.1 hd
    simp only [List.length_cons] at hk
    have hne : a ≠ l[k] := fun e => h1.1 (e ▸ List.getElem_mem _)
    simp only [List.getElem_cons_succ, List.take_succ_cons, List.drop_succ_cons, List.cons_append]
    rw [List.erase_cons_tail (by simpa using hne), erase_at h1.2 (by omega)]
section
variable (Q : V → Hp → Prop) (nd : Spt → List Spt) (B : Nat) (hB : Hp) (F : List Spt) (hF : F.length ≤ 100000) (hnl : ∀ s ∈ F, (nd s).length ≤ 100000)
structure LS (h : Hp) (v4 v5 v10 : V) (l out : List Spt) (ws : List V) : Prop where
  left : OwnS 0 h v4 l
  needs : Own 0 h v5 29 1 l.length ws
  wc : allCells ws = true
  el : ∀ (k : Nat) (s : Spt) (w : V), l[k]? = some s → ws[k]? = some w → Sps h w (nd s) ∧ In B w
  own : OwnS B h v10 out
  sep : ∀ c, blkOf v10 = some c → blkOf v4 ≠ some c ∧ blkOf v5 ≠ some c
  n : B ≤ h.n
  ext : Ext B hB h
  sub : l.Sublist F
  fit : out.length + l.length ≤ 100000
include hF hnl
theorem order_loop (hnd : F.Nodup) (hq : ∀ (v10 v4 : V) (h : Hp) (O C : List Spt), OwnS B h v10 O → OwnS 0 h v4 C → Ext B hB h → (O, C) = orderR nd F.length F → Q (.tup [v10, v4]) h) :
    ∀ (m : Nat) (l out : List Spt) (ws : List V) (h : Hp) (v4 v5 v10 : V), l.length = m → LS nd B hB F h v4 v5 v10 l out ws → (out ++ (orderR nd l.length l).1, (orderR nd l.length l).2) = orderR nd F.length F → L_r7_Order_2 Q v4 v5 v10 h := by
  intro m
  induction m using Nat.strongRecOn with
  | ind m ih =>
  intro l out ws h v4 v5 v10 hm S hres
  apply r_r7_Order_2
  unfold t_r7_Order_2
  have hln : l.length ≤ 100000 := Nat.le_trans S.sub.length_le hF
  have hwl : ws.length = l.length := by have := S.needs.sized; omega
  have key : ∀ (d k : Nat), l.length - k = d → k ≤ l.length → ∀ hh : Hp, LS nd B hB F hh v4 v5 v10 l out ws → (∀ j (hj : j < k) (hjl : j < l.length), waits (nd l[j]) l = true) → L_r7_Order_3 Q v4 v5 v10 (.int .i64 k) hh := by
    intro d
    induction d with
    | zero =>
      intro k hd hk hh S hw
      have hkl : k = l.length := by omega
      apply r_r7_Order_3
      unfold t_r7_Order_3
      rw [pu_len S.left.sps s_sl_api_Spot, pu_lssN, decide_eq_false (by omega : ¬ k < l.length)]
      simp only [pu_gval_ft, pu_geff_ft, pu_pick_f, pu_cond_f]
      rw [pu_len S.left.sps s_sl_api_Spot, eqlN, decide_eq_true hkl, pu_cond_t]
      have hp : pickR nd l = none := by
        unfold pickR
        rw [List.find?_eq_none]
        intro s hs
        obtain ⟨j, hj, e⟩ := List.getElem_of_mem hs
        have := hw j (by omega) hj
        rw [e] at this
        simp [this]
      rw [orderR_none hp] at hres
      exact hq v10 v4 hh out l S.own S.left S.ext (by rw [← hres]; simp)
    | succ d ihd =>
      intro k hd hk hh S hw
      have hkl : k < l.length := by omega
      apply r_r7_Order_3
      unfold t_r7_Order_3
      rw [pu_len S.left.sps s_sl_api_Spot, pu_lssN, decide_eq_true hkl]
      simp only [pu_gval_y, pu_geff_y, pu_pick_t]
      obtain ⟨w, hwk⟩ : ∃ w, ws[k]? = some w := ⟨_, List.getElem?_eq_getElem (by omega)⟩
      obtain ⟨hel, hin⟩ := S.el k l[k] w (List.getElem?_eq_getElem hkl) hwk
      obtain ⟨b1, o1, g1, g2, _⟩ := rd_get1 S.needs.rd s_sl_sl_api_Spot l_sl_api_Spot hwk
      rw [g1, g2]
      refine (waits_ok hh w v4 (nd l[k]) l hel S.left.sps (Nat.lt_of_le_of_lt (hnl _ (S.sub.mem (List.getElem_mem _))) (by omega)) (by omega)).mono ?_
      rintro y h2 ⟨rfl, rfl⟩
      cases hwt : waits (nd l[k]) l with
      | true =>
        rw [pu_cond_t, pu_inc _ _ _ _ (by omega)]
        refine ihd (k + 1) (by omega) (by omega) h2 S fun j hj hjl => ?_
        by_cases e : j = k
        · subst e; exact hwt
        · exact hw j (by omega) hjl
      | false =>
        rw [pu_cond_f, pu_len S.left.sps s_sl_api_Spot, eqlN, decide_eq_false (by omega : ¬ k = l.length), pu_cond_f]
        obtain ⟨b2, o2, g3, g4, _⟩ := sps_get S.left.sps s_sl_api_Spot l_api_Spot (List.getElem?_eq_getElem hkl)
        rw [g3, g4]
        have hfit := S.fit
        refine append_spot S.own l[k] (by omega) S.n _ fun v11 h3 o3 x3 f3 b3 => ?_
        have n3 := x3.n
        have k4 : OwnS 0 h3 v4 l := S.left.keep x3.n fun c hc => f3 c (S.left.in_ c hc) fun e => (S.sep c e).1 hc
        have k5 : Own 0 h3 v5 29 1 l.length ws := S.needs.keep x3.n fun c hc => f3 c (S.needs.in_ c hc) fun e => (S.sep c e).2 hc
        refine del_one k4 s_sl_api_Spot l_api_Spot (spCs_cells l) hkl (by omega) fun v12 h4 o4 x4 => ?_
        have n4 := x4.n
        rw [spCs_del] at o4
        refine del_one (k5.keep x4.n fun c hc => x4.old c (k5.in_ c hc)) s_sl_sl_api_Spot l_sl_api_Spot S.wc hkl (by omega) fun v13 h5 o5 x5 => ?_
        have n5 := x5.n
        rw [Nat.mul_one, Nat.mul_one] at o5
        have hnl2 : l.Nodup := hnd.sublist S.sub
        have hlen' : (l.take k ++ l.drop (k + 1)).length = l.length - 1 := by simp; omega
        have hpick : pickR nd l = some l[k] := by
          unfold pickR
          refine List.find?_eq_some_iff_getElem.2 ⟨by simp [hwt], k, hkl, rfl, fun j hj => ?_⟩
          have := hw j hj (by omega)
          simp [this]
        have her := erase_at hnl2 hkl
        refine ih (l.length - 1) (by omega) (l.take k ++ l.drop (k + 1)) (out ++ [l[k]]) (ws.take k ++ ws.drop (k + 1)) h5 v12 v13 v11 hlen' ⟨?_, ?_, ?_, ?_, ?_, ?_, by have := S.n; omega, S.ext.trans (x3.trans ((x4.mono (by have := S.n; omega)).trans (x5.mono (by have := S.n; omega)))), ?_, ?_⟩ ?_
        · have o4' : OwnS h3.n h4 v12 (l.take k ++ l.drop (k + 1)) := by
            show Own _ _ _ _ _ (l.take k ++ l.drop (k + 1)).length _
            rw [hlen']; exact o4
          exact (o4'.keep x5.n fun c hc => x5.old c (o4'.in_ c hc)).mono (by omega)
        · rw [hlen']; exact o5.mono (by omega)
        · refine allCells_iff.2 fun x hx => allCells_iff.1 S.wc x ?_
          rcases List.mem_append.1 hx with hx | hx
          · exact List.mem_of_mem_take hx
          · exact List.mem_of_mem_drop hx
        · intro j s u hs hu
          have hj : ∃ j' : Nat, l[j']? = some s ∧ ws[j']? = some u := by
            by_cases hjk : j < k
            · refine ⟨j, ?_, ?_⟩
              · rw [List.getElem?_append_left (by simp; omega), List.getElem?_take_of_lt hjk] at hs; exact hs
              · rw [List.getElem?_append_left (by simp; omega), List.getElem?_take_of_lt hjk] at hu; exact hu
            · refine ⟨j + 1, ?_, ?_⟩
              · rw [List.getElem?_append_right (by simp; omega), List.getElem?_drop] at hs
                rw [← hs]; congr 1; simp; omega
              · rw [List.getElem?_append_right (by simp; omega), List.getElem?_drop] at hu
                rw [← hu]; congr 1; simp; omega
          obtain ⟨j', h6, h7⟩ := hj
          obtain ⟨h8, h9⟩ := S.el j' s u h6 h7
          exact ⟨h8.ext (x3.trans ((x4.mono (by have := S.n; omega)).trans (x5.mono (by have := S.n; omega)))) h9, h9⟩
        · have o3' := o3.keep x4.n fun c hc => x4.old c (o3.in_ c hc)
          exact o3'.keep x5.n fun c hc => x5.old c (o3'.in_ c hc)
        · intro c hc
          have hc3 : c < h3.n := o3.in_ c hc
          refine ⟨fun e => ?_, fun e => ?_⟩
          · have := o4.ge c e; omega
          · have := o5.ge c e; omega
        · exact ((List.erase_sublist (a := l[k])).trans S.sub |> fun q => by rw [her] at q; exact q)
        · rw [List.length_append, hlen']; simp; omega
        · rw [hlen', ← her, ← hres]
          obtain ⟨f, hf⟩ : ∃ f, l.length = f + 1 := ⟨l.length - 1, by omega⟩
          rw [hf, orderR_some hpick, Nat.add_sub_cancel]
          simp
  exact key l.length 0 (by omega) (by omega) h S fun j hj => absurd hj (by omega)
end
end
end Go.Proofs.YtlllhhjlfmhmlaaGreatDoor.VM
namespace Go.Proofs.YtlllhhjlfmhmlaaGreatDoor.VM
open Go
set_option linter.unusedVariables false
set_option linter.unusedSectionVars false
set_option linter.unusedSimpArgs false
set_option maxRecDepth 20000
noncomputable section
attribute [local instance] syZ
/-- one slice more -/
theorem append_sl {N : Nat} {h : Hp} {v : V} {len : Nat} {ws : List V} (o : Own N h v 29 1 len ws) (w : V) (hc : C1 w) (hlen : len + 1 ≤ 1048576) (hN : N ≤ h.n) (q : V → Hp → Prop)
    (hq : ∀ v' h', Own N h' v' 29 1 (len + 1) (ws ++ [w]) → Ext N h h' → (∀ c, c < h.n → blkOf v ≠ some c → h'.t.get c = h.t.get c) → (∀ c, blkOf v' = some c → blkOf v = some c ∨ h.n ≤ c) → q v' h') :
    (Pu EE).bsl h 61 1 [(0, w)] fun x h1 _ => (Pu EE).ebui h1 #[61, 61] .append [v, x] q := by
  rw [pu_lit1 s_sl_sl_api_Spot l_sl_api_Spot _ (by rw [hc.1]; rfl) (by omega)]
  have o1 : Own N (h.new (.cells w.cells 29 false)) v 29 1 len ws := o.keep (Nat.le_succ _) (fun c hc => by rw [Hp.get_new, if_neg (Nat.ne_of_lt (o.in_ c hc))])
  refine app_all o1 s_sl_sl_api_Spot l_sl_api_Spot (rd_lit (h := h) (e := 29) (ws := w.cells) (by rw [hc.1]; rfl)).rd (by rw [hc.1]; simp [allCells, hc.2]) hlen (Nat.le_succ_of_le hN) fun v' h' o2 x2 f2 b2 => hq v' h' ?_ ((Ext.new hN _).trans x2) (fun c hc hne => ?_) (fun c hc => ?_)
  · rw [hc.1] at o2; exact o2
  · rw [f2 c (Nat.lt_succ_of_lt hc) hne, Hp.get_new, if_neg (Nat.ne_of_lt hc)]
  · rcases b2 c hc with h6 | h6
    · exact .inl h6
    · exact .inr (Nat.le_of_succ_le h6)
def hasF (bk : Bok) (s : Spt) : Bool := (formR (getC bk s)).isSome
/-- cells that have a formula -/
def fCells (bk : Bok) : List Spt := (allSpots bk).filter (hasF bk)
theorem ndR_len {bk : Bok} (g : Good bk) (s : Spt) : (ndR bk s).length ≤ 100000 := Nat.le_trans (List.length_filter_le _ _) g.fit.spots
theorem fCells_len {bk : Bok} (g : Good bk) : (fCells bk).length ≤ 100000 := Nat.le_trans (List.length_filter_le _ _) g.fit.spots
theorem fCells_ris {bk : Bok} (g : Good bk) : Ris (fCells bk) := (allSpots_ris g.ris).sub List.filter_sublist
structure OB (bk : Bok) (N : Nat) (h0 h : Hp) (v4 v5 : V) (acc : List Spt) (ws : List V) : Prop where
  left : OwnS N h v4 acc
  needs : Own N h v5 29 1 acc.length ws
  wc : allCells ws = true
  el : ∀ (k : Nat) (s : Spt) (w : V), acc[k]? = some s → ws[k]? = some w → Sps h w (ndR bk s) ∧ In h.n w ∧ ∀ c, blkOf w = some c → blkOf v4 ≠ some c ∧ blkOf v5 ≠ some c
  sep : ∀ c, blkOf v4 = some c → blkOf v5 ≠ some c
  n : N ≤ h.n
  ext : Ext N h0 h
theorem OB.keep {bk : Bok} {N : Nat} {h0 h h' : Hp} {v4 v5 : V} {acc : List Spt} {ws : List V} (S : OB bk N h0 h v4 v5 acc ws) (x : Ext h.n h h') : OB bk N h0 h' v4 v5 acc ws :=
  ⟨S.left.keep x.n fun c hc => x.old c (S.left.in_ c hc), S.needs.keep x.n fun c hc => x.old c (S.needs.in_ c hc), S.wc, fun k s w h1 h2 => by
    obtain ⟨a, b, c⟩ := S.el k s w h1 h2
    exact ⟨a.ext x b, b.mono x.n, c⟩, S.sep, Nat.le_trans S.n x.n, S.ext.trans (x.mono S.n)⟩
theorem build_loop (Q : V → Hp → Prop) (M N b : Nat) (h0 : Hp) (sv av : V) (bk : Bok) (g : Good bk) (hN0 : N = h0.n) (hM : M ≤ N) (hb : b < N) (hbox : h0.t.get b = some (.cells [sv] 24 false)) (hs : ShsAt M h0 sv bk) (hav : Sps h0 av (allSpots bk)) (hai : In N av)
    (hq : ∀ (h : Hp) (v4 v5 : V) (ws : List V), OB bk N h0 h v4 v5 (fCells bk) ws → L_r7_Order_2 Q v4 v5 .nils h) :
    ∀ (k i : Nat), (allSpots bk).length - i = k → i ≤ (allSpots bk).length → ∀ (h : Hp) (v4 v5 : V) (acc : List Spt) (ws : List V), OB bk N h0 h v4 v5 acc ws → acc = ((allSpots bk).take i).filter (hasF bk) →
      L_r7_Order_1 Q (.ptr b 0) v4 v5 av (.int .i64 i) h := by
  have hfit := g.fit.spots
  intro k
  induction k with
  | zero =>
    intro i hk hi h v4 v5 acc ws S ha
    apply r_r7_Order_1
    unfold t_r7_Order_1
    rw [pu_len (hav.ext S.ext hai) s_sl_api_Spot, pu_lssN, pu_cond_d]
    refine ⟨fun h1 => absurd h1 (by omega), fun _ => ?_⟩
    rw [List.take_of_length_le (by omega)] at ha
    subst ha
    exact hq h v4 v5 ws S
  | succ k ih =>
    intro i hk hi h v4 v5 acc ws S ha
    apply r_r7_Order_1
    unfold t_r7_Order_1
    rw [pu_len (hav.ext S.ext hai) s_sl_api_Spot, pu_lssN, pu_cond_d]
    refine ⟨fun h1 => ?_, fun h1 => absurd (by omega) h1⟩
    have hbx : ∀ h' : Hp, Ext N h0 h' → h'.t.get b = some (.cells [sv] 24 false) := fun h' x => by rw [x.old b hb]; exact hbox
    obtain ⟨s, hse⟩ : ∃ s, s = (allSpots bk)[i] := ⟨_, rfl⟩
    have hsi : (allSpots bk)[i]? = some s := by rw [hse]; exact List.getElem?_eq_getElem h1
    have hbk : ∀ h' : Hp, Ext N h0 h' → BokAt M h' (.agg [sv]) bk := fun h' x => ⟨sv, rfl, hs.ext (x.mono hM)⟩
    rw [pu_loadS l_api_Book (hbx h S.ext) (l := [sv]) rfl]
    obtain ⟨b1, o1, g1, g2, _⟩ := sps_get (hav.ext S.ext hai) s_sl_api_Spot l_api_Spot hsi
    rw [g1, g2]
    have hal : acc.length ≤ i := by
      rw [ha]
      have := List.length_filter_le (hasF bk) ((allSpots bk).take i)
      have := List.length_take_le i (allSpots bk)
      omega
    have hsn := S.n
    refine (rget_ok M h _ bk s (hbk h S.ext) (by omega) g.fit.len).mono ?_
    rintro y h2 ⟨rfl, hx2⟩
    have n2 := hx2.n
    have ht := g.get s
    refine (rform_ok ht h2).mono ?_
    rintro y h3 ⟨hx3, hp⟩
    have n3 := hx3.n
    have x3 : Ext h.n h h3 := hx2.trans (hx3.mono n2)
    have S3 := S.keep x3
    have hfil : ((allSpots bk).take (i + 1)).filter (hasF bk) = acc ++ (if hasF bk s then [s] else []) := by
      rw [take_snocS h1, List.filter_append, ← ha, ← hse]
      congr 1
      by_cases q : hasF bk s = true <;> simp [q]
    cases hf : formR (getC bk s) with
    | none =>
      rw [hf] at hp
      simp only at hp
      subst hp
      rw [pu_extr0, pu_extr1, pu_cond_f, pu_inc _ _ _ _ (by omega)]
      refine ih (i + 1) (by omega) (by omega) h3 v4 v5 acc ws S3 ?_
      rw [hfil]
      unfold hasF
      rw [hf]
      simp
    | some ds =>
      rw [hf] at hp
      obtain ⟨nv, ds', rfl, hnd, hlen, hrc⟩ := hp
      rw [pu_extr0, pu_extr1, pu_cond_t]
      obtain ⟨b2, o2, g3, g4, _⟩ := sps_get (hav.ext S3.ext hai) s_sl_api_Spot l_api_Spot hsi
      rw [g3, g4]
      refine append_spot S3.left s (by omega) S3.n _ fun v6 h4 o4 x4 f4 b4 => ?_
      have n4 := x4.n
      have hs3n := S3.n
      have xh4 : Ext N h0 h4 := S3.ext.trans x4
      have k5 : Own N h4 v5 29 1 acc.length ws := S3.needs.keep x4.n fun c hc => f4 c (S3.needs.in_ c hc) fun e => S3.sep c e hc
      have e4 : ∀ (k : Nat) (s : Spt) (w : V), acc[k]? = some s → ws[k]? = some w → Sps h4 w (ndR bk s) ∧ In h3.n w ∧ ∀ c, blkOf w = some c → blkOf v6 ≠ some c ∧ blkOf v5 ≠ some c := fun k s' w q1 q2 => by
        obtain ⟨a1, a2, a3⟩ := S3.el k s' w q1 q2
        refine ⟨?_, a2, fun c hc => ⟨fun e => ?_, (a3 c hc).2⟩⟩
        · refine ⟨a1.sized, a1.at_.imp id ?_⟩
          rintro ⟨bb, off, vs, r1, r2, r3⟩
          refine ⟨bb, off, vs, ?_, r2, r3⟩
          have hbb : blkOf w = some bb := by rcases r3 with ⟨c, rfl⟩ | ⟨lo, z, rfl⟩ <;> rfl
          unfold rdCells at r1 ⊢
          rw [f4 bb (a2 bb hbb) (a3 bb hbb).1]
          exact r1
        · rcases b4 c e with q | q
          · exact (a3 c hc).1 q
          · have := a2 c hc; omega
      rw [pu_loadS l_api_Book (hbx h4 xh4) (l := [sv]) rfl]
      obtain ⟨b3, o3, g5, g6, _⟩ := sps_get (hav.ext xh4 hai) s_sl_api_Spot l_api_Spot hsi
      rw [g5, g6]
      refine (rneeds_ok M h4 _ bk s (hbk h4 xh4) (by omega) g).mono ?_
      rintro w h5 ⟨o5, x5⟩
      have n5 := x5.n
      have k5' := k5.keep x5.n fun c hc => x5.old c (k5.in_ c hc)
      refine append_sl k5' w o5.rd.c1 (by omega) (by omega) _ fun v7 h6 o6 x6 f6 b6 => ?_
      have n6 := x6.n
      rw [pu_inc _ _ _ _ (by omega)]
      have hwl : ws.length = acc.length := by have := S.needs.sized; omega
      have hl4 : v6 = v6 := rfl
      have o4' := o4.keep x5.n fun c hc => x5.old c (o4.in_ c hc)
      have sep65 : ∀ c, blkOf v6 = some c → blkOf v5 ≠ some c := fun c hc e => by
        rcases b4 c hc with q | q
        · exact S3.sep c q e
        · have := S3.needs.in_ c e; omega
      refine ih (i + 1) (by omega) (by omega) h6 v6 v7 (acc ++ [s]) (ws ++ [w]) ⟨?_, ?_, ?_, ?_, ?_, by omega, xh4.trans ((x5.mono (by omega)).trans x6)⟩ ?_
      · exact o4'.keep x6.n fun c hc => f6 c (o4'.in_ c hc) fun e => sep65 c hc e
      · rw [List.length_append]; exact o6
      · refine allCells_iff.2 fun x hx => ?_
        rcases List.mem_append.1 hx with hx | hx
        · exact allCells_iff.1 S.wc x hx
        · rw [List.mem_singleton.1 hx]; exact o5.rd.c1.2
      · intro j s' u hsj huj
        by_cases hj : j < acc.length
        · rw [List.getElem?_append_left hj] at hsj
          rw [List.getElem?_append_left (by omega)] at huj
          obtain ⟨a1, a2, a3⟩ := e4 j s' u hsj huj
          refine ⟨?_, a2.mono (by omega), fun c hc => ⟨(a3 c hc).1, fun e => ?_⟩⟩
          · refine ⟨a1.sized, a1.at_.imp id ?_⟩
            rintro ⟨bb, off, vs, r1, r2, r3⟩
            refine ⟨bb, off, vs, ?_, r2, r3⟩
            have hbb : blkOf u = some bb := by rcases r3 with ⟨c, rfl⟩ | ⟨lo, z, rfl⟩ <;> rfl
            have hbn := a2 bb hbb
            unfold rdCells at r1 ⊢
            rw [f6 bb (by omega) (a3 bb hbb).2, x5.old bb (by omega)]
            exact r1
          · rcases b6 c e with q | q
            · exact (a3 c hc).2 q
            · have := a2 c hc; omega
        · rw [List.getElem?_append_right (by omega)] at hsj huj
          have hj0 : j - acc.length = 0 := by
            have := (List.getElem?_eq_some_iff.1 hsj).1
            simp at this; omega
          rw [hj0] at hsj
          rw [hwl, hj0] at huj
          simp only [List.getElem?_cons_zero, Option.some.injEq] at hsj huj
          subst hsj; subst huj
          have hsp := o5.sps
          have hiw := o5.in_
          have hge := o5.ge
          refine ⟨?_, hiw.mono n6, fun c hc => ⟨fun e => ?_, fun e => ?_⟩⟩
          · refine ⟨hsp.sized, hsp.at_.imp id ?_⟩
            rintro ⟨bb, off, vs, r1, r2, r3⟩
            refine ⟨bb, off, vs, ?_, r2, r3⟩
            have hbb : blkOf w = some bb := by rcases r3 with ⟨c, rfl⟩ | ⟨lo, z, rfl⟩ <;> rfl
            have hbn := hiw bb hbb
            have hbg := hge bb hbb
            unfold rdCells at r1 ⊢
            rw [f6 bb hbn fun e => by have := k5.in_ bb e; omega]
            exact r1
          · have := o4.in_ c e; have := hge c hc; omega
          · rcases b6 c e with q | q
            · have := k5.in_ c q; have := hge c hc; omega
            · have := hiw c hc; omega
      · intro c hc e
        rcases b6 c e with q | q
        · exact sep65 c hc q
        · have := o4'.in_ c hc; omega
      · rw [hfil]
        unfold hasF
        rw [hf]
        simp
theorem rorder_ok (M : Nat) (h : Hp) (v : V) (bk : Bok) (hv : BokAt M h v bk) (hM : M ≤ h.n) (g : Good bk) :
    Ans EE 10 [v] h fun x h' => ∃ ov cv, x = .tup [ov, cv] ∧ Sps h' ov (orderR (ndR bk) (fCells bk).length (fCells bk)).1 ∧ Sps h' cv (orderR (ndR bk) (fCells bk).length (fCells bk)).2 ∧ In h'.n ov ∧ In h'.n cv ∧ Ext h.n h h' := by
  have hv0 := hv
  obtain ⟨sv, rfl, hs⟩ := hv
  obtain ⟨cs, hrd⟩ := hs.rd
  have hcell : allCells [sv] = true := by have := hrd.c1; simp [allCells, this.2]
  apply a_r7_Order
  unfold t_r7_Order_0
  refine pu_boxX (cs := [sv]) hcell fun h1 b w => ?_
  have n1 := w.n
  have e1 := w.b
  have hx := w.ext (Nat.le_refl h.n)
  rw [pu_loadS l_api_Book w.at_ (l := [sv]) rfl]
  refine (all_ok M h1 _ bk (hv0.ext (hx.mono hM)) (by omega) g.fit).mono ?_
  rintro av h2 ⟨o2, x2⟩
  have n2 := x2.n
  have hx2 : Ext h.n h h2 := hx.trans (x2.mono (by omega))
  refine build_loop _ M h2.n b h2 sv av bk g rfl (by omega) (by omega) (by rw [x2.old b (by omega)]; exact w.at_) (hs.ext (hx2.mono hM)) o2.sps o2.in_ (fun h3 v4 v5 ws S => ?_) _ 0 rfl (by omega) h2 .nils .nils [] []
    ⟨OwnS.nil _ _, Own.nil _ _ _ _, rfl, fun k s w q => (by simp at q), fun c q => (by cases q), Nat.le_refl _, Ext.refl _ _⟩ (by simp)
  have hsn := S.n
  refine order_loop _ (ndR bk) h3.n h3 (fCells bk) (fCells_len g) (fun s _ => ndR_len g s) (fCells_ris g).nodup (fun v10 v4 h4 O C k1 k2 k3 k4 => ?_) _ (fCells bk) [] ws h3 v4 v5 .nils rfl
    ⟨S.left.mono (Nat.zero_le _), S.needs.mono (Nat.zero_le _), S.wc, fun k s w q1 q2 => ⟨(S.el k s w q1 q2).1, (S.el k s w q1 q2).2.1⟩, OwnS.nil _ _, fun c q => (by cases q), Nat.le_refl _, Ext.refl _ _, List.Sublist.refl _, by simp; exact fCells_len g⟩ (by simp)
  have hO : O = (orderR (ndR bk) (fCells bk).length (fCells bk)).1 := by rw [← k4]
  have hC : C = (orderR (ndR bk) (fCells bk).length (fCells bk)).2 := by rw [← k4]
  rw [← hO, ← hC]
  exact ⟨v10, v4, rfl, k1.sps, k2.sps, k1.in_, k2.in_, hx2.trans ((S.ext.mono (by omega)).trans (k3.mono (by omega)))⟩
end
end Go.Proofs.YtlllhhjlfmhmlaaGreatDoor.VM
