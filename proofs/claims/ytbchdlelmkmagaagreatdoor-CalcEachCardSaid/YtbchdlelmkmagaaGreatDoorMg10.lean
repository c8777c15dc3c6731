/- DpK DpA4 DpL DpM DpA7 DpN DpO DpP DpBk CmLaw CmTy -/
import Derived.Test.YtbchdlelmkmagaaGreatDoorMg9
namespace Go.Proofs.YtbchdlelmkmagaaGreatDoor.VM
open Go
set_option linter.unusedVariables false
set_option linter.unusedSectionVars false
set_option linter.unusedSimpArgs false
set_option maxRecDepth 20000
noncomputable section
attribute [local instance] syZ
def NameOKs (nm : List Nat) : Prop := ∀ h : Hp, Ans EE 72 [.str nm] h fun v h' => v = .bool true ∧ h' = h
theorem nameRun (c : Fin 9) (h : Hp) : callOf EE (exec EE 60) 72 [.str [65 + c.val]] h = some (.bool true, h) := by
 have key : ∀ k, k < 9 → callOf EE (exec EE 60) 72 [.str [65 + k]] h = some (.bool true, h) := by
  intro k hk
  rcases (by omega : k = 0 ∨ k = 1 ∨ k = 2 ∨ k = 3 ∨ k = 4 ∨ k = 5 ∨ k = 6 ∨ k = 7 ∨ k = 8) with rfl | rfl | rfl | rfl | rfl | rfl | rfl | rfl | rfl <;> kernel_rfl
 exact key c.val c.isLt
theorem name1 {c : Nat} (h1 : 65 ≤ c) (h2 : c ≤ 73) : NameOKs [c] := fun h => by
 have := nameRun ⟨c - 65, by omega⟩ h
 rw [show 65 + (⟨c - 65, by omega⟩ : Fin 9).val = c by simp; omega] at this
 exact ⟨_, _, ⟨60, this⟩, rfl, rfl⟩
structure Mays (bk : Bok) : Prop where
 good : Good bk
 len : bk.length ≤ 5
 cols : ∀ s ∈ bk, s.cols ≤ 12
 rows : ∀ s ∈ bk, s.rows.length ≤ 24
 row : ∀ s ∈ bk, ∀ r ∈ s.rows, r.length = s.cols
 name : ∀ s ∈ bk, NameOKs s.name
section
variable (Q : V → Hp → Prop) (M : Nat) (h0 : Hp) (s : Sht) (rv : V) (b : Nat) (hM : M ≤ h0.n) (hb : b < h0.n) (hbox : h0.t.get b = some (.cells (shtC s rv) 38 false)) (hr : RowsAt M h0 rv s.rows) (hrl : s.rows.length ≤ 24) (hcl : s.cols ≤ 12) (hrow : ∀ r ∈ s.rows, r.length = s.cols) (htx : ∀ r ∈ s.rows, ∀ t ∈ r, TextIs t)
include hM hb hbox hr hrl hcl hrow htx
theorem mayS_loop2 (r : Nat) (row : List (List Nat)) (wv : V) (hrw : s.rows[r]? = some row) (hrd : RowAt M h0 wv row)
  (hn : ∀ h : Hp, Ext h0.n h0 h → L_book_maySheet_1 Q (.ptr b 0) rv (.int .i64 s.rows.length) (.int .i64 (r + 1 : Nat)) h) :
  ∀ (k c : Nat), row.length - c = k → c ≤ row.length → ∀ h : Hp, Ext h0.n h0 h → L_book_maySheet_2 Q (.ptr b 0) rv (.int .i64 s.rows.length) (.int .i64 r) wv (.int .i64 row.length) (.int .i64 c) h := by
 have hrr := (List.getElem?_eq_some_iff.1 hrw).1
 have hrl2 := hrow row (List.mem_of_getElem? hrw)
 intro k
 induction k with
 | zero =>
  intro c hk hc h x
  apply r_book_maySheet_2
  unfold t_book_maySheet_2
  rw [pu_lssN, pu_cond_d]
  refine ⟨fun h1 => absurd h1 (by omega), fun _ => ?_⟩
  rw [pu_inc _ _ _ _ (by omega)]
  exact hn h x
 | succ k ih =>
  intro c hk hc h x
  apply r_book_maySheet_2
  unfold t_book_maySheet_2
  rw [pu_lssN, pu_cond_d]
  refine ⟨fun h1 => ?_, fun h1 => absurd (by omega) h1⟩
  obtain ⟨b1, o1, g1, g2⟩ := row_get (hrd.ext (x.mono hM)) s_sl_string l_string (List.getElem?_eq_getElem h1)
  rw [g1, g2]
  refine (may_ok (htx row (List.mem_of_getElem? hrw) _ (List.getElem_mem _)) h).mono ?_
  rintro y h2 ⟨rfl, hx2⟩
  rw [pu_not]
  simp only [Bool.not_true, pu_cond_f]
  rw [pu_inc _ _ _ _ (by omega)]
  exact ih (c + 1) (by omega) (by omega) h2 (x.trans (hx2.mono x.n))
theorem mayS_loop1 (hq : ∀ h : Hp, Ext h0.n h0 h → Q (.bool true) h) :
  ∀ (k r : Nat), s.rows.length - r = k → r ≤ s.rows.length → ∀ h : Hp, Ext h0.n h0 h → L_book_maySheet_1 Q (.ptr b 0) rv (.int .i64 s.rows.length) (.int .i64 r) h := by
 intro k
 induction k with
 | zero =>
  intro r hk hc h x
  apply r_book_maySheet_1
  unfold t_book_maySheet_1
  rw [pu_lssN, pu_cond_d]
  exact ⟨fun h1 => absurd h1 (by omega), fun _ => hq h x⟩
 | succ k ih =>
  intro r hk hc h x
  apply r_book_maySheet_1
  unfold t_book_maySheet_1
  rw [pu_lssN, pu_cond_d]
  refine ⟨fun h1 => ?_, fun h1 => absurd (by omega) h1⟩
  have hbx : h.t.get b = some (.cells (shtC s rv) 38 false) := by rw [x.old b hb]; exact hbox
  obtain ⟨b1, o1, w, g1, g2, g3⟩ := rows_get (hr.ext (x.mono hM)) s_sl_sl_string l_sl_string (List.getElem?_eq_getElem h1)
  obtain ⟨b2, o2, w2, k1, k2, k3⟩ := rows_get hr s_sl_sl_string l_sl_string (List.getElem?_eq_getElem h1)
  have hl := hrow _ (List.getElem_mem h1)
  have hww : RowAt M h0 w s.rows[r] := by
   obtain ⟨vs, q1, q2, q3⟩ := hr
   obtain ⟨u, q4, q5⟩ := q3 r _ (List.getElem?_eq_getElem h1)
   obtain ⟨b3, o3, p1, p2, _⟩ := rd_get1 (q1.ext (x.mono hM) q2) s_sl_sl_string l_sl_string q4
   have e1 := (g1 .i64 (fun a => a = .ptr b1 o1)).2 rfl
   rw [p1] at e1
   have e2 := (g2 (fun a => a = w)).2 rfl
   have e3 : V.ptr b3 o3 = V.ptr b1 o1 := e1
   rw [← e3, p2] at e2
   rw [← e2]
   exact q5
  rw [g1, g2, pu_len g3.1 s_sl_string, fa_api_Sheet_1, pu_load1 l_int hbx rfl, pu_neq, pu_cond_n]
  refine ⟨fun e => absurd (by omega) e, fun _ => ?_⟩
  rw [pu_len g3.1 s_sl_string]
  exact mayS_loop2 Q M h0 s rv b hM hb hbox hr hrl hcl hrow htx r s.rows[r] w (List.getElem?_eq_getElem h1) hww (fun h' x' => ih (r + 1) (by omega) (by omega) h' x') _ 0 rfl (by omega) h x
end
theorem gtrN (a b : Nat) (t : Nat) (cx cy : Bool) (q : V → Prop) : (Pu EE).bin .gtr t cx cy (.int .i64 a) (.int .i64 b) q ↔ q (.bool (decide (b < a))) := by
 rw [pu_gtr]
 have : decide ((b : Int) < (a : Int)) = decide (b < a) := by rw [decide_eq_decide]; omega
 rw [this]
theorem maySheet_ok (M : Nat) (h : Hp) (s : Sht) (rv : V) (hr : RowsAt M h rv s.rows) (hM : M ≤ h.n) (hrl : s.rows.length ≤ 24) (hcl : s.cols ≤ 12) (hrow : ∀ r ∈ s.rows, r.length = s.cols) (htx : ∀ r ∈ s.rows, ∀ t ∈ r, TextIs t) (hnm : NameOKs s.name) :
  Ans EE 40 [.agg (shtC s rv)] h fun x h' => x = .bool true ∧ Ext h.n h h' := by
 apply a_book_maySheet
 unfold t_book_maySheet_0
 obtain ⟨us, hu⟩ := hr.rd
 have hcl' : allCells (shtC s rv) = true := by
  show (bif rv.isCell then allCells [] else false) = true
  rw [hu.c1.2]; rfl
 refine pu_boxX (cs := shtC s rv) hcl' fun h1 b w => ?_
 have n1 := w.n
 have e1 := w.b
 have hx := w.ext (Nat.le_refl h.n)
 have hr1 := hr.ext (hx.mono hM)
 obtain ⟨us1, hu1⟩ := hr1.rd
 rw [fa_api_Sheet_0, pu_load1 l_string w.at_ rfl]
 refine (hnm h1).mono ?_
 rintro y h2 ⟨rfl, rfl⟩
 rw [pu_not]
 simp only [Bool.not_true, pu_gval_y, pu_pick_f, fa_api_Sheet_1]
 rw [pu_load1 l_int w.at_ rfl, pu_lss, decide_eq_false (by omega : ¬ ((s.cols : Int) < 0))]
 simp only [pu_gval_y, pu_pick_f, fa_api_Sheet_1]
 rw [pu_load1 l_int w.at_ rfl, show (12 : Int) = ((12 : Nat) : Int) from rfl, gtrN, decide_eq_false (by omega : ¬ (12 < s.cols))]
 simp only [pu_gval_y, pu_pick_f, fa_api_Sheet_2]
 rw [pu_load1 l_sl_sl_string w.at_ rfl, pu_len hu1 s_sl_sl_string, show (24 : Int) = ((24 : Nat) : Int) from rfl, gtrN, decide_eq_false (by omega : ¬ (24 < s.rows.length))]
 simp only [pu_cond_f]
 rw [pu_load1 l_sl_sl_string w.at_ rfl, pu_len hu1 s_sl_sl_string]
 exact mayS_loop1 _ M h2 s rv b (by omega) (by omega) w.at_ hr1 hrl hcl hrow htx (fun h' x' => ⟨rfl, hx.trans (x'.mono (by omega))⟩) _ 0 rfl (by omega) h2 (Ext.refl _ _)
theorem pmay_ok (M : Nat) (h : Hp) (v : V) (bk : Bok) (hv : BokAt M h v bk) (hM : M ≤ h.n) (g : Mays bk) : Ans EE 16 [v] h fun x h' => x = .bool true ∧ Ext h.n h h' := by
 obtain ⟨sv, rfl, hs⟩ := hv
 obtain ⟨cs, hrd⟩ := hs.rd
 have hcell : allCells [sv] = true := by have := hrd.c1; simp [allCells, this.2]
 apply a_book_May
 unfold t_book_May_0
 refine pu_boxX (cs := [sv]) hcell fun h1 b w => ?_
 have n1 := w.n
 have e1 := w.b
 have hx := w.ext (Nat.le_refl h.n)
 have hs1 := hs.ext (hx.mono hM)
 obtain ⟨cs1, hrd1⟩ := hs1.rd
 have hlen := g.len
 rw [fa_api_Book_0, pu_load1 l_sl_api_Sheet w.at_ rfl, pu_len hrd1 s_sl_api_Sheet, show (5 : Int) = ((5 : Nat) : Int) from rfl, gtrN, decide_eq_false (by omega : ¬ (5 < List.length bk)), pu_cond_f, fa_api_Book_0, pu_load1 l_sl_api_Sheet w.at_ rfl, pu_len hrd1 s_sl_api_Sheet]
 have loop : ∀ (k i : Nat), bk.length - i = k → i ≤ bk.length → ∀ h2 : Hp, Ext h1.n h1 h2 → L_book_May_1 (fun x h' => x = .bool true ∧ Ext h.n h h') (.ptr b 0) sv (.int .i64 bk.length) (.int .i64 i) h2 := by
  intro k
  induction k with
  | zero =>
   intro i hk hi h2 x
   apply r_book_May_1
   unfold t_book_May_1
   rw [pu_lssN, pu_cond_d]
   exact ⟨fun q => absurd q (by omega), fun _ => ⟨rfl, hx.trans (x.mono (by omega))⟩⟩
  | succ k ih =>
   intro i hk hi h2 x
   apply r_book_May_1
   unfold t_book_May_1
   rw [pu_lssN, pu_cond_d]
   refine ⟨fun q => ?_, fun q => absurd (by omega) q⟩
   have n2 := x.n
   have hx2 : Ext h.n h h2 := hx.trans (x.mono (by omega))
   obtain ⟨b4, o4, rv, g1, g2, g3, _⟩ := sht_get (hs.ext (hx2.mono hM)) s_sl_api_Sheet l_api_Sheet (List.getElem?_eq_getElem q)
   obtain ⟨us, hu⟩ := g3.rd
   have hcl' : allCells (shtC bk[i] rv) = true := by
    show (bif rv.isCell then allCells [] else false) = true
    rw [hu.c1.2]; rfl
   rw [g1, g2]
   refine pu_allocX l_api_Sheet fun h3 b3 w3 => ?_
   refine pu_storeX l_api_Sheet w3.at_ (x := .agg (shtC bk[i] rv)) rfl hcl' (r := shtC bk[i] rv) rfl fun h4 w4 => ?_
   have n3 := w3.n
   have e3 := w3.b
   have n4 := w4.n
   have x4 : Ext h1.n h1 h4 := x.trans ((w3.ext x.n).trans (w4.ext (by omega)))
   have hb4 : h4.t.get b = some (.cells [sv] 26 false) := by rw [x4.old b (by omega)]; exact w.at_
   have hxx : Ext h.n h h4 := hx.trans (x4.mono (by omega))
   have hs4 := hs.ext (hxx.mono hM)
   have call : ∀ P : Prop, P = ((Pu EE).load h4 38 (.ptr b3 0) fun x40 => (Pu EE).call 40 [x40] h4 fun x45 h46 => (Pu EE).un .not x45 fun x49 => (Pu EE).cond x49 (fun _ => (fun x h' => x = V.bool true ∧ Ext h.n h h') (.bool false) h46) (fun _ => (Pu EE).bin .add 3 false true (.int .i64 i) (.int .i64 1) fun x51 => L_book_May_1 (fun x h' => x = .bool true ∧ Ext h.n h h') (.ptr b 0) sv (.int .i64 bk.length) x51 h46)) → P := by
    rintro P rfl
    rw [pu_loadS l_api_Sheet w4.at_ (l := shtC bk[i] rv) rfl]
    have hm : bk[i] ∈ bk := List.getElem_mem _
    have g34 : RowsAt M h4 rv bk[i].rows := g3.ext (((w3.ext (Nat.le_refl _)).trans (w4.ext (by omega))).mono (by omega))
    refine (maySheet_ok M h4 bk[i] rv g34 (by omega) (g.rows _ hm) (g.cols _ hm) (g.row _ hm) (g.good.text _ hm) (g.name _ hm)).mono ?_
    rintro y h5 ⟨rfl, hx5⟩
    rw [pu_not]
    simp only [Bool.not_true, pu_cond_f]
    rw [pu_inc _ _ _ _ (by omega)]
    exact ih (i + 1) (by omega) (by omega) h5 (x4.trans (hx5.mono (by omega)))
   rw [show (0 : Int) = ((0 : Nat) : Int) from rfl, gtrN]
   by_cases hi0 : 0 < i
   ·rw [decide_eq_true hi0]
    simp only [pu_gval_y, fa_api_Book_0, pu_pick_t]
    obtain ⟨b6, o6, rv6, k1, k2, k3, vs6, f6, ro6, k4, k5⟩ := sht_get hs4 s_sl_api_Sheet l_api_Sheet (List.getElem?_eq_getElem (by omega : i - 1 < bk.length))
    have hsub : ∀ q : V → Prop, (Pu EE).bin .sub 3 false true (.int .i64 i) (.int .i64 1) q ↔ q (.int .i64 ((i - 1 : Nat) : Int)) := fun q => by
     rw [pu_sub, show (i : Int) - 1 = ((i - 1 : Nat) : Int) by omega, w64 _ (by omega)]
    rw [pu_load1 l_sl_api_Sheet hb4 rfl, hsub, k1, fa_api_Sheet_0, pu_load1 l_string k4 (k5 0 _ rfl)]
    try simp only [fa_api_Sheet_0]
    rw [pu_load1 l_string w4.at_ rfl, pu_sgeq]
    have hlt : slt bk[i - 1].name bk[i].name = true := by
     have := List.pairwise_iff_getElem.1 g.good.ris (i - 1) i (by omega) (by omega) (by omega)
     exact this
    rw [hlt]
    simp only [Bool.not_true, pu_gval_y, pu_geff_y, pu_pick_f]
    exact call _ rfl
   ·rw [decide_eq_false hi0]
    simp only [pu_gval_ft, pu_pick_f, pu_gval_y, pu_geff_y]
    exact call _ rfl
 exact loop _ 0 rfl (by omega) h1 (Ext.refl _ _)
end
end Go.Proofs.YtbchdlelmkmagaaGreatDoor.VM
namespace Go.Proofs.YtbchdlelmkmagaaGreatDoor.VM
open Go
set_option linter.unusedVariables false
set_option maxRecDepth 100000
noncomputable section
noncomputable def c_deps_formulas : Code := match Tryz.f26.body with | some c => c | none => .skip
noncomputable def F_deps_formulas : Fl := ⟨Tryz.f26, c_deps_formulas, [([false, true, false, true, true], [3, 11, 12, 13]), ([false, true, true, false, false, true, true, false, false, true, false, true, true], [3, 5, 11, 12, 13, 18, 19, 20]), ([false, true, true, false, false, true, true, false, false, true, true, false, false, true, true, false, false, true, false, true, true], [3, 5, 6, 11, 12, 13, 18, 19, 20, 25, 26, 27])]⟩
abbrev L_deps_formulas_1 (Q : QQ) (v3 v11 v12 v13 : V) (h : Hp) : Prop := F_deps_formulas.L EE Q 1 [v3, v11, v12, v13] h
abbrev L_deps_formulas_2 (Q : QQ) (v3 v5 v11 v12 v13 v18 v19 v20 : V) (h : Hp) : Prop := F_deps_formulas.L EE Q 2 [v3, v5, v11, v12, v13, v18, v19, v20] h
abbrev L_deps_formulas_3 (Q : QQ) (v3 v5 v6 v11 v12 v13 v18 v19 v20 v25 v26 v27 : V) (h : Hp) : Prop := F_deps_formulas.L EE Q 3 [v3, v5, v6, v11, v12, v13, v18, v19, v20, v25, v26, v27] h
noncomputable def t_deps_formulas_0 (p : Pr) (l : LL) (Q : QQ) (v0 : V) (h : Hp) : Prop :=
 p.box h 26 v0 fun x1 h2 b3 =>
 p.faddr 26 x1 0 fun x4 =>
 p.load h2 24 x4 fun x5 =>
 p.lbui h2 #[24] .len [x5] fun x6 =>
 l 1 [.nils, x5, x6, (.int .i64 0)] h2
theorem q_deps_formulas_0 (p : Pr) (l : LL) (Q : QQ) (v0 : V) (h : Hp) : t_deps_formulas_0 p l Q v0 h = F_deps_formulas.K p EE l Q [] ([v0] ++ List.replicate 50 undefV) h := by kernel_rfl
theorem a_deps_formulas {Q : QQ} {v0 : V} {h : Hp} (H : t_deps_formulas_0 (Pu EE) (F_deps_formulas.L EE Q) Q v0 h) : Ans EE 26 [v0] h Q :=
 ansL (F := F_deps_formulas) (by kernel_rfl) (by kernel_rfl) (by kernel_rfl) (by kernel_rfl) (cast (q_deps_formulas_0 _ _ _ v0 h) H)
noncomputable def t_deps_formulas_1 (p : Pr) (l : LL) (Q : QQ) (v3 v11 v12 v13 : V) (h : Hp) : Prop :=
 p.bin .lss 3 false false v13 v12 fun x1 =>
 p.cond x1
 (fun _ =>
  p.iaddr 24 v11 v13 fun x2 =>
  p.load h 38 x2 fun x3 =>
  p.alloc h 38 fun x4 h5 b6 =>
  p.store h5 38 x4 x3 fun h7 =>
  p.faddr 38 x4 2 fun x8 =>
  p.load h7 36 x8 fun x9 =>
  p.lbui h7 #[36] .len [x9] fun x10 =>
  l 2 [v3, x4, v11, v12, v13, x9, x10, (.int .i64 0)] h7)
 (fun _ =>
  Q v3 h)
theorem q_deps_formulas_1 (p : Pr) (l : LL) (Q : QQ) (s : List V) (h : Hp) : t_deps_formulas_1 p l Q (nth s 3) (nth s 11) (nth s 12) (nth s 13) h = F_deps_formulas.K p EE l Q [true, true, false, true, false] (nths s 51 0) h := by kernel_rfl
theorem r_deps_formulas_1 {Q : QQ} {v3 v11 v12 v13 : V} {h : Hp} (H : t_deps_formulas_1 (Pu EE) (F_deps_formulas.L EE Q) Q v3 v11 v12 v13 h) : L_deps_formulas_1 Q v3 v11 v12 v13 h :=
 labR (path := [true, true, false, true, false]) rfl rfl fun s e => by cases e; exact cast (q_deps_formulas_1 _ _ _ s h) H
noncomputable def t_deps_formulas_2 (p : Pr) (l : LL) (Q : QQ) (v3 v5 v11 v12 v13 v18 v19 v20 : V) (h : Hp) : Prop :=
 p.bin .lss 3 false false v20 v19 fun x1 =>
 p.cond x1
 (fun _ =>
  p.iaddr 36 v18 v20 fun x2 =>
  p.load h 40 x2 fun x3 =>
  p.lbui h #[40] .len [x3] fun x4 =>
  l 3 [v3, v5, v20, v11, v12, v13, v18, v19, v20, x3, x4, (.int .i64 0)] h)
 (fun _ =>
  p.bin .add 3 false true v13 (.int .i64 1) fun x5 =>
  l 1 [v3, v11, v12, x5] h)
theorem q_deps_formulas_2 (p : Pr) (l : LL) (Q : QQ) (s : List V) (h : Hp) : t_deps_formulas_2 p l Q (nth s 3) (nth s 5) (nth s 11) (nth s 12) (nth s 13) (nth s 18) (nth s 19) (nth s 20) h = F_deps_formulas.K p EE l Q [true, true, false, true, false, false, true, true, false, false, true, true, false] (nths s 51 0) h := by kernel_rfl
theorem r_deps_formulas_2 {Q : QQ} {v3 v5 v11 v12 v13 v18 v19 v20 : V} {h : Hp} (H : t_deps_formulas_2 (Pu EE) (F_deps_formulas.L EE Q) Q v3 v5 v11 v12 v13 v18 v19 v20 h) : L_deps_formulas_2 Q v3 v5 v11 v12 v13 v18 v19 v20 h :=
 labR (path := [true, true, false, true, false, false, true, true, false, false, true, true, false]) rfl rfl fun s e => by cases e; exact cast (q_deps_formulas_2 _ _ _ s h) H
noncomputable def t_deps_formulas_3 (p : Pr) (l : LL) (Q : QQ) (v3 v5 v6 v11 v12 v13 v18 v19 v20 v25 v26 v27 : V) (h : Hp) : Prop :=
 p.bin .lss 3 false false v27 v26 fun x1 =>
 p.cond x1
 (fun _ =>
  p.iaddr 40 v25 v27 fun x2 =>
  p.load h 9 x2 fun x3 =>
  p.bin .neq 9 false true x3 (.str []) fun x4 =>
  p.gval x4 true (fun k5 =>
  k5 x3) fun x6 =>
  p.gval x4 true (fun k7 =>
  p.index 9 x6 (.int .i64 0) fun x8 =>
  k7 x8) fun x9 =>
  p.gval x4 true (fun k10 =>
  p.bin .eql 5 false true x9 (.int .u8 61) fun x11 =>
  k10 x11) fun x12 =>
  p.pick x4 (some x12) (some (.bool false)) fun x13 =>
  p.cond x13
  (fun _ =>
  p.faddr 38 v5 0 fun x14 =>
  p.load h 9 x14 fun x15 =>
  p.build 42 [(0, x15), (1, v6), (2, v27)] fun x16 =>
  p.bsl h 32 1 [(0, x16)] fun x17 h18 b19 =>
  p.ebui h18 #[32, 32] .append [v3, x17] fun x20 h21 =>
  p.bin .add 3 false true v27 (.int .i64 1) fun x22 =>
  l 3 [x20, v5, v6, v11, v12, v13, v18, v19, v20, v25, v26, x22] h21)
  (fun _ =>
  p.bin .add 3 false true v27 (.int .i64 1) fun x23 =>
  l 3 [v3, v5, v6, v11, v12, v13, v18, v19, v20, v25, v26, x23] h))
 (fun _ =>
  p.bin .add 3 false true v20 (.int .i64 1) fun x24 =>
  l 2 [v3, v5, v11, v12, v13, v18, v19, x24] h)
theorem q_deps_formulas_3 (p : Pr) (l : LL) (Q : QQ) (s : List V) (h : Hp) : t_deps_formulas_3 p l Q (nth s 3) (nth s 5) (nth s 6) (nth s 11) (nth s 12) (nth s 13) (nth s 18) (nth s 19) (nth s 20) (nth s 25) (nth s 26) (nth s 27) h = F_deps_formulas.K p EE l Q [true, true, false, true, false, false, true, true, false, false, true, true, false, false, true, true, false, false, true, true, false] (nths s 51 0) h := by kernel_rfl
theorem r_deps_formulas_3 {Q : QQ} {v3 v5 v6 v11 v12 v13 v18 v19 v20 v25 v26 v27 : V} {h : Hp} (H : t_deps_formulas_3 (Pu EE) (F_deps_formulas.L EE Q) Q v3 v5 v6 v11 v12 v13 v18 v19 v20 v25 v26 v27 h) : L_deps_formulas_3 Q v3 v5 v6 v11 v12 v13 v18 v19 v20 v25 v26 v27 h :=
 labR (path := [true, true, false, true, false, false, true, true, false, false, true, true, false, false, true, true, false, false, true, true, false]) rfl rfl fun s e => by cases e; exact cast (q_deps_formulas_3 _ _ _ s h) H
noncomputable def c_deps_Needs : Code := match Tryz.f27.body with | some c => c | none => .skip
noncomputable def F_deps_Needs : Fl := ⟨Tryz.f27, c_deps_Needs, [([false, true, false, true, true, true, true], [2, 3, 7, 24, 25, 26]), ([false, true, true, true, true, true, true, true, true, false, false, true, true, false, false, true, false, true, true, true, true], [2, 3, 7, 9, 10, 12, 13, 24, 25, 26]), ([false, true, false, false, true, false, false, true, true, true, true, true, true, true, true, false, false, true, true, false, false, true, false, true, true, true, true], [2, 3, 7, 9, 10, 12, 13, 14, 24, 25, 26]), ([true, true, false, false, true, true, false, false, true, false, true, true, true, true], [2, 3, 7, 9, 24, 25, 26]), ([true, true, true, true, false, false, true, true, false, false, true, false, true, true, true, true], [2, 3, 7, 9, 10, 24, 25, 26])]⟩
abbrev L_deps_Needs_1 (Q : QQ) (v2 v3 v7 v24 v25 v26 : V) (h : Hp) : Prop := F_deps_Needs.L EE Q 1 [v2, v3, v7, v24, v25, v26] h
abbrev L_deps_Needs_2 (Q : QQ) (v2 v3 v7 v9 v10 v12 v13 v24 v25 v26 : V) (h : Hp) : Prop := F_deps_Needs.L EE Q 2 [v2, v3, v7, v9, v10, v12, v13, v24, v25, v26] h
abbrev L_deps_Needs_3 (Q : QQ) (v2 v3 v7 v9 v10 v12 v13 v14 v24 v25 v26 : V) (h : Hp) : Prop := F_deps_Needs.L EE Q 3 [v2, v3, v7, v9, v10, v12, v13, v14, v24, v25, v26] h
abbrev L_deps_Needs_4 (Q : QQ) (v2 v3 v7 v9 v24 v25 v26 : V) (h : Hp) : Prop := F_deps_Needs.L EE Q 4 [v2, v3, v7, v9, v24, v25, v26] h
abbrev L_deps_Needs_5 (Q : QQ) (v2 v3 v7 v9 v10 v24 v25 v26 : V) (h : Hp) : Prop := F_deps_Needs.L EE Q 5 [v2, v3, v7, v9, v10, v24, v25, v26] h
noncomputable def t_deps_Needs_0 (p : Pr) (l : LL) (Q : QQ) (v0 v1 : V) (h : Hp) : Prop :=
 p.box h 26 v0 fun x1 h2 b3 =>
 p.box h2 42 v1 fun x4 h5 b6 =>
 p.load h5 26 x1 fun x7 =>
 p.load h5 42 x4 fun x8 =>
 p.call 21 [x7, x8] h5 fun x9 h10 =>
 p.call 20 [x9] h10 fun x11 h12 =>
 p.extr x11 0 fun x13 =>
 p.extr x11 1 fun x14 =>
 p.un .not x14 fun x15 =>
 p.cond x15
 (fun _ =>
  Q .nils h12)
 (fun _ =>
  p.lbui h12 #[43] .len [x13] fun x16 =>
  l 1 [x1, x4, .nils, x13, x16, (.int .i64 0)] h12)
theorem q_deps_Needs_0 (p : Pr) (l : LL) (Q : QQ) (v0 v1 : V) (h : Hp) : t_deps_Needs_0 p l Q v0 v1 h = F_deps_Needs.K p EE l Q [] ([v0, v1] ++ List.replicate 96 undefV) h := by kernel_rfl
theorem a_deps_Needs {Q : QQ} {v0 v1 : V} {h : Hp} (H : t_deps_Needs_0 (Pu EE) (F_deps_Needs.L EE Q) Q v0 v1 h) : Ans EE 27 [v0, v1] h Q :=
 ansL (F := F_deps_Needs) (by kernel_rfl) (by kernel_rfl) (by kernel_rfl) (by kernel_rfl) (cast (q_deps_Needs_0 _ _ _ v0 v1 h) H)
noncomputable def t_deps_Needs_1 (p : Pr) (l : LL) (Q : QQ) (v2 v3 v7 v24 v25 v26 : V) (h : Hp) : Prop :=
 p.bin .lss 3 false false v26 v25 fun x1 =>
 p.cond x1
 (fun _ =>
  p.iaddr 43 v24 v26 fun x2 =>
  p.load h 88 x2 fun x3 =>
  p.alloc h 88 fun x4 h5 b6 =>
  p.store h5 88 x4 x3 fun h7 =>
  p.faddr 88 x4 0 fun x8 =>
  p.load h7 3 x8 fun x9 =>
  p.bin .eql 3 false true x9 (.int .i64 5) fun x10 =>
  p.cond x10
  (fun _ =>
  p.faddr 88 x4 3 fun x11 =>
  p.load h7 85 x11 fun x12 =>
  p.faddr 88 x4 4 fun x13 =>
  p.store h7 85 x13 x12 fun h14 =>
  l 4 [v2, v3, v7, x4, v24, v25, v26] h14)
  (fun _ =>
  p.faddr 88 x4 0 fun x15 =>
  p.load h7 3 x15 fun x16 =>
  p.bin .neq 3 false true x16 (.int .i64 6) fun x17 =>
  p.cond x17
  (fun _ =>
   p.bin .add 3 false true v26 (.int .i64 1) fun x18 =>
   l 1 [v2, v3, v7, v24, v25, x18] h7)
  (fun _ =>
   l 4 [v2, v3, v7, x4, v24, v25, v26] h7)))
 (fun _ =>
  p.call 55 [v7] h fun x19 h20 =>
  Q x19 h20)
theorem q_deps_Needs_1 (p : Pr) (l : LL) (Q : QQ) (s : List V) (h : Hp) : t_deps_Needs_1 p l Q (nth s 2) (nth s 3) (nth s 7) (nth s 24) (nth s 25) (nth s 26) h = F_deps_Needs.K p EE l Q [true, true, true, true, false, true, false] (nths s 98 0) h := by kernel_rfl
theorem r_deps_Needs_1 {Q : QQ} {v2 v3 v7 v24 v25 v26 : V} {h : Hp} (H : t_deps_Needs_1 (Pu EE) (F_deps_Needs.L EE Q) Q v2 v3 v7 v24 v25 v26 h) : L_deps_Needs_1 Q v2 v3 v7 v24 v25 v26 h :=
 labR (path := [true, true, true, true, false, true, false]) rfl rfl fun s e => by cases e; exact cast (q_deps_Needs_1 _ _ _ s h) H
noncomputable def t_deps_Needs_2 (p : Pr) (l : LL) (Q : QQ) (v2 v3 v7 v9 v10 v12 v13 v24 v25 v26 : V) (h : Hp) : Prop :=
 p.faddr 88 v9 4 fun x1 =>
 p.faddr 85 x1 2 fun x2 =>
 p.load h 3 x2 fun x3 =>
 p.lbui h #[36] .len [v12] fun x4 =>
 p.bin .sub 3 false true x4 (.int .i64 1) fun x5 =>
 p.lbui h #[3, 3] .min [x3, x5] fun x6 =>
 p.bin .leq 3 false false v13 x6 fun x7 =>
 p.cond x7
 (fun _ =>
  p.faddr 88 v9 3 fun x8 =>
  p.faddr 85 x8 1 fun x9 =>
  p.load h 3 x9 fun x10 =>
  l 3 [v2, v3, v7, v9, v10, v12, v13, x10, v24, v25, v26] h)
 (fun _ =>
  p.bin .add 3 false true v26 (.int .i64 1) fun x11 =>
  l 1 [v2, v3, v7, v24, v25, x11] h)
theorem q_deps_Needs_2 (p : Pr) (l : LL) (Q : QQ) (s : List V) (h : Hp) : t_deps_Needs_2 p l Q (nth s 2) (nth s 3) (nth s 7) (nth s 9) (nth s 10) (nth s 12) (nth s 13) (nth s 24) (nth s 25) (nth s 26) h = F_deps_Needs.K p EE l Q [true, true, true, true, false, true, false, false, true, true, false, false, true, true, true, true, true, true, true, true, false] (nths s 98 0) h := by kernel_rfl
theorem r_deps_Needs_2 {Q : QQ} {v2 v3 v7 v9 v10 v12 v13 v24 v25 v26 : V} {h : Hp} (H : t_deps_Needs_2 (Pu EE) (F_deps_Needs.L EE Q) Q v2 v3 v7 v9 v10 v12 v13 v24 v25 v26 h) : L_deps_Needs_2 Q v2 v3 v7 v9 v10 v12 v13 v24 v25 v26 h :=
 labR (path := [true, true, true, true, false, true, false, false, true, true, false, false, true, true, true, true, true, true, true, true, false]) rfl rfl fun s e => by cases e; exact cast (q_deps_Needs_2 _ _ _ s h) H
noncomputable def t_deps_Needs_3 (p : Pr) (l : LL) (Q : QQ) (v2 v3 v7 v9 v10 v12 v13 v14 v24 v25 v26 : V) (h : Hp) : Prop :=
 p.faddr 88 v9 4 fun x1 =>
 p.faddr 85 x1 1 fun x2 =>
 p.load h 3 x2 fun x3 =>
 p.iaddr 36 v12 v13 fun x4 =>
 p.load h 40 x4 fun x5 =>
 p.lbui h #[40] .len [x5] fun x6 =>
 p.bin .sub 3 false true x6 (.int .i64 1) fun x7 =>
 p.lbui h #[3, 3] .min [x3, x7] fun x8 =>
 p.bin .leq 3 false false v14 x8 fun x9 =>
 p.cond x9
 (fun _ =>
  p.build 42 [(0, v10), (1, v13), (2, v14)] fun x10 =>
  p.bsl h 32 1 [(0, x10)] fun x11 h12 b13 =>
  p.ebui h12 #[32, 32] .append [v7, x11] fun x14 h15 =>
  p.bin .add 3 false true v14 (.int .i64 1) fun x16 =>
  l 3 [v2, v3, x14, v9, v10, v12, v13, x16, v24, v25, v26] h15)
 (fun _ =>
  p.bin .add 3 false true v13 (.int .i64 1) fun x17 =>
  l 2 [v2, v3, v7, v9, v10, v12, x17, v24, v25, v26] h)
theorem q_deps_Needs_3 (p : Pr) (l : LL) (Q : QQ) (s : List V) (h : Hp) : t_deps_Needs_3 p l Q (nth s 2) (nth s 3) (nth s 7) (nth s 9) (nth s 10) (nth s 12) (nth s 13) (nth s 14) (nth s 24) (nth s 25) (nth s 26) h = F_deps_Needs.K p EE l Q [true, true, true, true, false, true, false, false, true, true, false, false, true, true, true, true, true, true, true, true, false, false, true, false, false, true, false] (nths s 98 0) h := by kernel_rfl
theorem r_deps_Needs_3 {Q : QQ} {v2 v3 v7 v9 v10 v12 v13 v14 v24 v25 v26 : V} {h : Hp} (H : t_deps_Needs_3 (Pu EE) (F_deps_Needs.L EE Q) Q v2 v3 v7 v9 v10 v12 v13 v14 v24 v25 v26 h) : L_deps_Needs_3 Q v2 v3 v7 v9 v10 v12 v13 v14 v24 v25 v26 h :=
 labR (path := [true, true, true, true, false, true, false, false, true, true, false, false, true, true, true, true, true, true, true, true, false, false, true, false, false, true, false]) rfl rfl fun s e => by cases e; exact cast (q_deps_Needs_3 _ _ _ s h) H
noncomputable def t_deps_Needs_4 (p : Pr) (l : LL) (Q : QQ) (v2 v3 v7 v9 v24 v25 v26 : V) (h : Hp) : Prop :=
 p.faddr 88 v9 3 fun x1 =>
 p.faddr 85 x1 0 fun x2 =>
 p.load h 9 x2 fun x3 =>
 p.bin .eql 9 false true x3 (.str []) fun x4 =>
 p.cond x4
 (fun _ =>
  p.faddr 42 v3 0 fun x5 =>
  p.load h 9 x5 fun x6 =>
  l 5 [v2, v3, v7, v9, x6, v24, v25, v26] h)
 (fun _ =>
  l 5 [v2, v3, v7, v9, x3, v24, v25, v26] h)
theorem q_deps_Needs_4 (p : Pr) (l : LL) (Q : QQ) (s : List V) (h : Hp) : t_deps_Needs_4 p l Q (nth s 2) (nth s 3) (nth s 7) (nth s 9) (nth s 24) (nth s 25) (nth s 26) h = F_deps_Needs.K p EE l Q [true, true, true, true, false, true, false, false, true, true, false, false, true, true] (nths s 98 0) h := by kernel_rfl
theorem r_deps_Needs_4 {Q : QQ} {v2 v3 v7 v9 v24 v25 v26 : V} {h : Hp} (H : t_deps_Needs_4 (Pu EE) (F_deps_Needs.L EE Q) Q v2 v3 v7 v9 v24 v25 v26 h) : L_deps_Needs_4 Q v2 v3 v7 v9 v24 v25 v26 h :=
 labR (path := [true, true, true, true, false, true, false, false, true, true, false, false, true, true]) rfl rfl fun s e => by cases e; exact cast (q_deps_Needs_4 _ _ _ s h) H
noncomputable def t_deps_Needs_5 (p : Pr) (l : LL) (Q : QQ) (v2 v3 v7 v9 v10 v24 v25 v26 : V) (h : Hp) : Prop :=
 p.load h 26 v2 fun x1 =>
 p.call 19 [x1, v10] h fun x2 h3 =>
 p.bin .lss 3 false true x2 (.int .i64 0) fun x4 =>
 p.cond x4
 (fun _ =>
  p.bin .add 3 false true v26 (.int .i64 1) fun x5 =>
  l 1 [v2, v3, v7, v24, v25, x5] h3)
 (fun _ =>
  p.faddr 26 v2 0 fun x6 =>
  p.load h3 24 x6 fun x7 =>
  p.iaddr 24 x7 x2 fun x8 =>
  p.faddr 38 x8 2 fun x9 =>
  p.load h3 36 x9 fun x10 =>
  p.faddr 88 v9 3 fun x11 =>
  p.faddr 85 x11 2 fun x12 =>
  p.load h3 3 x12 fun x13 =>
  l 2 [v2, v3, v7, v9, v10, x10, x13, v24, v25, v26] h3)
theorem q_deps_Needs_5 (p : Pr) (l : LL) (Q : QQ) (s : List V) (h : Hp) : t_deps_Needs_5 p l Q (nth s 2) (nth s 3) (nth s 7) (nth s 9) (nth s 10) (nth s 24) (nth s 25) (nth s 26) h = F_deps_Needs.K p EE l Q [true, true, true, true, false, true, false, false, true, true, false, false, true, true, true, true] (nths s 98 0) h := by kernel_rfl
theorem r_deps_Needs_5 {Q : QQ} {v2 v3 v7 v9 v10 v24 v25 v26 : V} {h : Hp} (H : t_deps_Needs_5 (Pu EE) (F_deps_Needs.L EE Q) Q v2 v3 v7 v9 v10 v24 v25 v26 h) : L_deps_Needs_5 Q v2 v3 v7 v9 v10 v24 v25 v26 h :=
 labR (path := [true, true, true, true, false, true, false, false, true, true, false, false, true, true, true, true]) rfl rfl fun s e => by cases e; exact cast (q_deps_Needs_5 _ _ _ s h) H
noncomputable def c_deps_rising : Code := match Tryz.f55.body with | some c => c | none => .skip
noncomputable def F_deps_rising : Fl := ⟨Tryz.f55, c_deps_rising, []⟩
noncomputable def t_deps_rising_0 (p : Pr) (l : LL) (Q : QQ) (v0 : V) (h : Hp) : Prop :=
 p.call 90 [v0, (.fn (.func 91) [] [])] h fun x1 h2 =>
 p.call 93 [v0] h2 fun x3 h4 =>
 p.call 92 [x3] h4 fun x5 h6 =>
 Q x5 h6
theorem q_deps_rising_0 (p : Pr) (l : LL) (Q : QQ) (v0 : V) (h : Hp) : t_deps_rising_0 p l Q v0 h = F_deps_rising.K p EE l Q [] ([v0] ++ List.replicate 7 undefV) h := by kernel_rfl
theorem a_deps_rising {Q : QQ} {v0 : V} {h : Hp} (H : t_deps_rising_0 (Pu EE) (F_deps_rising.L EE Q) Q v0 h) : Ans EE 55 [v0] h Q :=
 ansL (F := F_deps_rising) (by kernel_rfl) (by kernel_rfl) (by kernel_rfl) (by kernel_rfl) (cast (q_deps_rising_0 _ _ _ v0 h) H)
noncomputable def c_deps_Cmp : Code := match Tryz.f91.body with | some c => c | none => .skip
noncomputable def F_deps_Cmp : Fl := ⟨Tryz.f91, c_deps_Cmp, []⟩
noncomputable def t_deps_Cmp_0 (p : Pr) (l : LL) (Q : QQ) (v0 v1 : V) (h : Hp) : Prop :=
 p.box h 42 v0 fun x1 h2 b3 =>
 p.box h2 42 v1 fun x4 h5 b6 =>
 p.faddr 42 x1 0 fun x7 =>
 p.load h5 9 x7 fun x8 =>
 p.faddr 42 x4 0 fun x9 =>
 p.load h5 9 x9 fun x10 =>
 p.faddr 42 x1 1 fun x11 =>
 p.load h5 3 x11 fun x12 =>
 p.faddr 42 x4 1 fun x13 =>
 p.load h5 3 x13 fun x14 =>
 p.faddr 42 x1 2 fun x15 =>
 p.load h5 3 x15 fun x16 =>
 p.faddr 42 x4 2 fun x17 =>
 p.load h5 3 x17 fun x18 =>
 p.call 144 [x8, x10] h5 fun x19 h20 =>
 p.load h20 3 x17 fun x21 =>
 p.same x21 x18 (
 p.load h20 3 x15 fun x22 =>
 p.same x22 x16 (
 p.load h20 3 x13 fun x23 =>
 p.same x23 x14 (
 p.load h20 3 x11 fun x24 =>
 p.same x24 x12 (
 p.call 145 [x12, x14] h20 fun x25 h26 =>
 p.load h26 3 x17 fun x27 =>
 p.same x27 x18 (
 p.load h26 3 x15 fun x28 =>
 p.same x28 x16 (
 p.call 145 [x16, x18] h26 fun x29 h30 =>
 p.bsl h30 86 3 [(0, x19), (1, x25), (2, x29)] fun x31 h32 b33 =>
 p.call 143 [x31] h32 fun x34 h35 =>
 Q x34 h35))))))
theorem q_deps_Cmp_0 (p : Pr) (l : LL) (Q : QQ) (v0 v1 : V) (h : Hp) : t_deps_Cmp_0 p l Q v0 v1 h = F_deps_Cmp.K p EE l Q [] ([v0, v1] ++ List.replicate 20 undefV) h := by kernel_rfl
theorem a_deps_Cmp {Q : QQ} {v0 v1 : V} {h : Hp} (H : t_deps_Cmp_0 (Pu EE) (F_deps_Cmp.L EE Q) Q v0 v1 h) : Ans EE 91 [v0, v1] h Q :=
 ansL (F := F_deps_Cmp) (by kernel_rfl) (by kernel_rfl) (by kernel_rfl) (by kernel_rfl) (cast (q_deps_Cmp_0 _ _ _ v0 v1 h) H)
noncomputable def c_cmp_Or_int : Code := match Tryz.f143.body with | some c => c | none => .skip
noncomputable def F_cmp_Or_int : Fl := ⟨Tryz.f143, c_cmp_Or_int, [([false, true, false, true, true], [3, 6, 7, 8])]⟩
abbrev L_cmp_Or_int_1 (Q : QQ) (v3 v6 v7 v8 : V) (h : Hp) : Prop := F_cmp_Or_int.L EE Q 1 [v3, v6, v7, v8] h
noncomputable def t_cmp_Or_int_0 (p : Pr) (l : LL) (Q : QQ) (v0 : V) (h : Hp) : Prop :=
 p.lbui h #[86] .len [v0] fun x1 =>
 l 1 [(.int .i64 0), v0, x1, (.int .i64 0)] h
theorem q_cmp_Or_int_0 (p : Pr) (l : LL) (Q : QQ) (v0 : V) (h : Hp) : t_cmp_Or_int_0 p l Q v0 h = F_cmp_Or_int.K p EE l Q [] ([v0] ++ List.replicate 17 undefV) h := by kernel_rfl
theorem a_cmp_Or_int {Q : QQ} {v0 : V} {h : Hp} (H : t_cmp_Or_int_0 (Pu EE) (F_cmp_Or_int.L EE Q) Q v0 h) : Ans EE 143 [v0] h Q :=
 ansL (F := F_cmp_Or_int) (by kernel_rfl) (by kernel_rfl) (by kernel_rfl) (by kernel_rfl) (cast (q_cmp_Or_int_0 _ _ _ v0 h) H)
noncomputable def t_cmp_Or_int_1 (p : Pr) (l : LL) (Q : QQ) (v3 v6 v7 v8 : V) (h : Hp) : Prop :=
 p.bin .lss 3 false false v8 v7 fun x1 =>
 p.cond x1
 (fun _ =>
  p.iaddr 86 v6 v8 fun x2 =>
  p.load h 3 x2 fun x3 =>
  p.bin .neq 3 false false x3 v3 fun x4 =>
  p.cond x4
  (fun _ =>
  Q x3 h)
  (fun _ =>
  p.bin .add 3 false true v8 (.int .i64 1) fun x5 =>
  l 1 [v3, v6, v7, x5] h))
 (fun _ =>
  Q v3 h)
theorem q_cmp_Or_int_1 (p : Pr) (l : LL) (Q : QQ) (s : List V) (h : Hp) : t_cmp_Or_int_1 p l Q (nth s 3) (nth s 6) (nth s 7) (nth s 8) h = F_cmp_Or_int.K p EE l Q [true, true, false, true, false] (nths s 18 0) h := by kernel_rfl
theorem r_cmp_Or_int_1 {Q : QQ} {v3 v6 v7 v8 : V} {h : Hp} (H : t_cmp_Or_int_1 (Pu EE) (F_cmp_Or_int.L EE Q) Q v3 v6 v7 v8 h) : L_cmp_Or_int_1 Q v3 v6 v7 v8 h :=
 labR (path := [true, true, false, true, false]) rfl rfl fun s e => by cases e; exact cast (q_cmp_Or_int_1 _ _ _ s h) H
noncomputable def c_cmp_Compare_string : Code := match Tryz.f144.body with | some c => c | none => .skip
noncomputable def F_cmp_Compare_string : Fl := ⟨Tryz.f144, c_cmp_Compare_string, []⟩
noncomputable def t_cmp_Compare_string_0 (p : Pr) (l : LL) (Q : QQ) (v0 v1 : V) (h : Hp) : Prop :=
 p.call 205 [v0] h fun x1 h2 =>
 p.call 205 [v1] h2 fun x3 h4 =>
 p.cond x1
 (fun _ =>
  p.cond x3
  (fun _ =>
  Q (.int .i64 0) h4)
  (fun _ =>
  Q (.int .i64 (-1)) h4))
 (fun _ =>
  p.cond x3
  (fun _ =>
  Q (.int .i64 1) h4)
  (fun _ =>
  p.bin .lss 9 false false v0 v1 fun x5 =>
  p.cond x5
  (fun _ =>
   Q (.int .i64 (-1)) h4)
  (fun _ =>
   p.bin .gtr 9 false false v0 v1 fun x6 =>
   p.cond x6
   (fun _ =>
   Q (.int .i64 1) h4)
   (fun _ =>
   Q (.int .i64 0) h4))))
theorem q_cmp_Compare_string_0 (p : Pr) (l : LL) (Q : QQ) (v0 v1 : V) (h : Hp) : t_cmp_Compare_string_0 p l Q v0 v1 h = F_cmp_Compare_string.K p EE l Q [] ([v0, v1] ++ List.replicate 18 undefV) h := by kernel_rfl
theorem a_cmp_Compare_string {Q : QQ} {v0 v1 : V} {h : Hp} (H : t_cmp_Compare_string_0 (Pu EE) (F_cmp_Compare_string.L EE Q) Q v0 v1 h) : Ans EE 144 [v0, v1] h Q :=
 ansL (F := F_cmp_Compare_string) (by kernel_rfl) (by kernel_rfl) (by kernel_rfl) (by kernel_rfl) (cast (q_cmp_Compare_string_0 _ _ _ v0 v1 h) H)
noncomputable def c_cmp_Compare_int : Code := match Tryz.f145.body with | some c => c | none => .skip
noncomputable def F_cmp_Compare_int : Fl := ⟨Tryz.f145, c_cmp_Compare_int, []⟩
noncomputable def t_cmp_Compare_int_0 (p : Pr) (l : LL) (Q : QQ) (v0 v1 : V) (h : Hp) : Prop :=
 p.call 206 [v0] h fun x1 h2 =>
 p.call 206 [v1] h2 fun x3 h4 =>
 p.cond x1
 (fun _ =>
  p.cond x3
  (fun _ =>
  Q (.int .i64 0) h4)
  (fun _ =>
  Q (.int .i64 (-1)) h4))
 (fun _ =>
  p.cond x3
  (fun _ =>
  Q (.int .i64 1) h4)
  (fun _ =>
  p.bin .lss 3 false false v0 v1 fun x5 =>
  p.cond x5
  (fun _ =>
   Q (.int .i64 (-1)) h4)
  (fun _ =>
   p.bin .gtr 3 false false v0 v1 fun x6 =>
   p.cond x6
   (fun _ =>
   Q (.int .i64 1) h4)
   (fun _ =>
   Q (.int .i64 0) h4))))
theorem q_cmp_Compare_int_0 (p : Pr) (l : LL) (Q : QQ) (v0 v1 : V) (h : Hp) : t_cmp_Compare_int_0 p l Q v0 v1 h = F_cmp_Compare_int.K p EE l Q [] ([v0, v1] ++ List.replicate 18 undefV) h := by kernel_rfl
theorem a_cmp_Compare_int {Q : QQ} {v0 v1 : V} {h : Hp} (H : t_cmp_Compare_int_0 (Pu EE) (F_cmp_Compare_int.L EE Q) Q v0 v1 h) : Ans EE 145 [v0, v1] h Q :=
 ansL (F := F_cmp_Compare_int) (by kernel_rfl) (by kernel_rfl) (by kernel_rfl) (by kernel_rfl) (cast (q_cmp_Compare_int_0 _ _ _ v0 v1 h) H)
noncomputable def c_cmp_isNaN_string : Code := match Tryz.f205.body with | some c => c | none => .skip
noncomputable def F_cmp_isNaN_string : Fl := ⟨Tryz.f205, c_cmp_isNaN_string, []⟩
noncomputable def t_cmp_isNaN_string_0 (p : Pr) (l : LL) (Q : QQ) (v0 : V) (h : Hp) : Prop :=
 p.bin .neq 9 false false v0 v0 fun x1 =>
 Q x1 h
theorem q_cmp_isNaN_string_0 (p : Pr) (l : LL) (Q : QQ) (v0 : V) (h : Hp) : t_cmp_isNaN_string_0 p l Q v0 h = F_cmp_isNaN_string.K p EE l Q [] ([v0] ++ List.replicate 5 undefV) h := by kernel_rfl
theorem a_cmp_isNaN_string {Q : QQ} {v0 : V} {h : Hp} (H : t_cmp_isNaN_string_0 (Pu EE) (F_cmp_isNaN_string.L EE Q) Q v0 h) : Ans EE 205 [v0] h Q :=
 ansL (F := F_cmp_isNaN_string) (by kernel_rfl) (by kernel_rfl) (by kernel_rfl) (by kernel_rfl) (cast (q_cmp_isNaN_string_0 _ _ _ v0 h) H)
noncomputable def c_cmp_isNaN_int : Code := match Tryz.f206.body with | some c => c | none => .skip
noncomputable def F_cmp_isNaN_int : Fl := ⟨Tryz.f206, c_cmp_isNaN_int, []⟩
noncomputable def t_cmp_isNaN_int_0 (p : Pr) (l : LL) (Q : QQ) (v0 : V) (h : Hp) : Prop :=
 p.bin .neq 3 false false v0 v0 fun x1 =>
 Q x1 h
theorem q_cmp_isNaN_int_0 (p : Pr) (l : LL) (Q : QQ) (v0 : V) (h : Hp) : t_cmp_isNaN_int_0 p l Q v0 h = F_cmp_isNaN_int.K p EE l Q [] ([v0] ++ List.replicate 5 undefV) h := by kernel_rfl
theorem a_cmp_isNaN_int {Q : QQ} {v0 : V} {h : Hp} (H : t_cmp_isNaN_int_0 (Pu EE) (F_cmp_isNaN_int.L EE Q) Q v0 h) : Ans EE 206 [v0] h Q :=
 ansL (F := F_cmp_isNaN_int) (by kernel_rfl) (by kernel_rfl) (by kernel_rfl) (by kernel_rfl) (cast (q_cmp_isNaN_int_0 _ _ _ v0 h) H)
end
end Go.Proofs.YtbchdlelmkmagaaGreatDoor.VM
namespace Go.Proofs.YtbchdlelmkmagaaGreatDoor.VM
open Go
set_option linter.unusedVariables false
set_option linter.unusedSectionVars false
set_option linter.unusedSimpArgs false
set_option maxRecDepth 20000
noncomputable section
attribute [local instance] syZ
theorem pu_sgtr (t : Nat) (cx cy : Bool) (a b : List Nat) (q : V → Prop) : (Pu EE).bin .gtr t cx cy (.str a) (.str b) q ↔ q (.bool (slt b a)) := by
 show (∃ v, vbin .gtr (.str a) (.str b) = some v ∧ q v) ↔ _
 simp only [vbin, ex_some]
def scmpZ (a b : List Nat) : Int := if slt a b then -1 else if slt b a then 1 else 0
def icmpZ (a b : Nat) : Int := if a < b then -1 else if b < a then 1 else 0
theorem nanS (a : List Nat) (h : Hp) : Ans EE 205 [.str a] h fun x h' => x = .bool false ∧ h' = h := by
 apply a_cmp_isNaN_string
 unfold t_cmp_isNaN_string_0
 rw [pu_sneq]
 exact ⟨by simp, rfl⟩
theorem nanI (a : Nat) (h : Hp) : Ans EE 206 [.int .i64 a] h fun x h' => x = .bool false ∧ h' = h := by
 apply a_cmp_isNaN_int
 unfold t_cmp_isNaN_int_0
 rw [pu_neq]
 exact ⟨by simp, rfl⟩
theorem cmpS_ok (a b : List Nat) (h : Hp) : Ans EE 144 [.str a, .str b] h fun x h' => x = .int .i64 (scmpZ a b) ∧ h' = h := by
 apply a_cmp_Compare_string
 unfold t_cmp_Compare_string_0
 refine (nanS a h).mono ?_
 rintro x h1 ⟨rfl, rfl⟩
 refine (nanS b h1).mono ?_
 rintro x h2 ⟨rfl, rfl⟩
 rw [pu_cond_f, pu_cond_f, pu_slss, pu_cond]
 unfold scmpZ
 refine ⟨fun e => ⟨by rw [e]; rfl, rfl⟩, fun e => ?_⟩
 rw [pu_sgtr, pu_cond]
 rw [e]
 exact ⟨fun e2 => ⟨by rw [e2]; rfl, rfl⟩, fun e2 => ⟨by rw [e2]; rfl, rfl⟩⟩
theorem cmpI_ok (a b : Nat) (h : Hp) : Ans EE 145 [.int .i64 a, .int .i64 b] h fun x h' => x = .int .i64 (icmpZ a b) ∧ h' = h := by
 apply a_cmp_Compare_int
 unfold t_cmp_Compare_int_0
 refine (nanI a h).mono ?_
 rintro x h1 ⟨rfl, rfl⟩
 refine (nanI b h1).mono ?_
 rintro x h2 ⟨rfl, rfl⟩
 rw [pu_cond_f, pu_cond_f, pu_lssN, pu_cond_d]
 unfold icmpZ
 refine ⟨fun e => ⟨by rw [if_pos e], rfl⟩, fun e => ?_⟩
 rw [gtrN, pu_cond_d, if_neg e]
 exact ⟨fun e2 => ⟨by rw [if_pos e2], rfl⟩, fun e2 => ⟨by rw [if_neg e2], rfl⟩⟩
def orZ : List Int → Int
 | [] => 0
 | a :: l => if a = 0 then orZ l else a
theorem or_ok (h : Hp) (v : V) (l : List Int) (hv : Rd h 1 v l.length (l.map fun z => V.int .i64 z)) (hl : l.length < 1000000) : Ans EE 143 [v] h fun x h' => x = .int .i64 (orZ l) ∧ h' = h := by
 apply a_cmp_Or_int
 unfold t_cmp_Or_int_0
 rw [pu_len hv s_sl_int]
 have loop : ∀ (k i : Nat), l.length - i = k → i ≤ l.length → orZ (l.drop i) = orZ l → L_cmp_Or_int_1 (fun x h' => x = .int .i64 (orZ l) ∧ h' = h) (.int .i64 0) v (.int .i64 l.length) (.int .i64 i) h := by
  intro k
  induction k with
  | zero =>
   intro i hk hi he
   apply r_cmp_Or_int_1
   unfold t_cmp_Or_int_1
   rw [pu_lssN, pu_cond_d]
   refine ⟨fun q => absurd q (by omega), fun _ => ⟨?_, rfl⟩⟩
   rw [List.drop_eq_nil_of_le (by omega)] at he
   rw [← he]; rfl
  | succ k ih =>
   intro i hk hi he
   apply r_cmp_Or_int_1
   unfold t_cmp_Or_int_1
   rw [pu_lssN, pu_cond_d]
   refine ⟨fun q => ?_, fun q => absurd (by omega) q⟩
   obtain ⟨b1, o1, g1, g2, _⟩ := rd_get1 hv s_sl_int l_int (i := i) (x := .int .i64 l[i]) (by rw [List.getElem?_map, List.getElem?_eq_getElem q]; rfl)
   rw [g1, g2, pu_neq, pu_cond_n]
   rw [drop_cons q, orZ] at he
   refine ⟨fun e => ⟨?_, rfl⟩, fun e => ?_⟩
   ·rw [if_neg e] at he; rw [he]
   ·rw [if_pos e] at he
    rw [pu_inc _ _ _ _ (by omega)]
    exact ih (i + 1) (by omega) (by omega) he
 exact loop _ 0 rfl (by omega) rfl
def spCmpZ (a b : Spt) : Int := if spLt a b then -1 else if spLt b a then 1 else 0
theorem or_cmp (a b : Spt) : orZ [scmpZ a.s b.s, icmpZ a.r b.r, icmpZ a.c b.c] = spCmpZ a b := by
 unfold spCmpZ
 simp only [orZ]
 rcases slt_tri a.s b.s with h | h | h
 ·have h1 : scmpZ a.s b.s = -1 := by unfold scmpZ; rw [h]; rfl
  have h2 : spLt a b = true := (spLt_iff a b).2 (.inl h)
  rw [h1, h2]; rfl
 ·have h1 : scmpZ a.s b.s = 0 := by unfold scmpZ; rw [h, slt_irr]; rfl
  have hab : spLt a b = true ↔ a.r < b.r ∨ a.r = b.r ∧ a.c < b.c := by rw [spLt_iff, h, slt_irr]; simp
  have hba : spLt b a = true ↔ b.r < a.r ∨ b.r = a.r ∧ b.c < a.c := by rw [spLt_iff, h, slt_irr]; simp
  have lt_ : ∀ x y : Nat, x < y → icmpZ x y = -1 := fun x y q => by unfold icmpZ; rw [if_pos q]
  have gt_ : ∀ x y : Nat, y < x → icmpZ x y = 1 := fun x y q => by unfold icmpZ; rw [if_neg (by omega), if_pos q]
  have eq_ : ∀ x y : Nat, x = y → icmpZ x y = 0 := fun x y q => by unfold icmpZ; rw [if_neg (by omega), if_neg (by omega)]
  have no1 : ¬ (a.r < b.r ∨ a.r = b.r ∧ a.c < b.c) → spLt a b = false := fun q => by cases e : spLt a b with | false => rfl | true => exact absurd (hab.1 e) q
  have no2 : ¬ (b.r < a.r ∨ b.r = a.r ∧ b.c < a.c) → spLt b a = false := fun q => by cases e : spLt b a with | false => rfl | true => exact absurd (hba.1 e) q
  rcases Nat.lt_trichotomy a.r b.r with k | k | k
  ·simp [h1, lt_ _ _ k, hab.2 (.inl k)]
  ·rcases Nat.lt_trichotomy a.c b.c with q | q | q
   ·simp [h1, eq_ _ _ k, lt_ _ _ q, hab.2 (.inr ⟨k, q⟩)]
   ·simp [h1, eq_ _ _ k, eq_ _ _ q, no1 (by omega), no2 (by omega)]
   ·simp [h1, eq_ _ _ k, gt_ _ _ q, no1 (by omega), hba.2 (.inr ⟨k.symm, q⟩)]
  ·simp [h1, gt_ _ _ k, no1 (by omega), hba.2 (.inl k)]
 ·have h1 : scmpZ a.s b.s = 1 := by unfold scmpZ; rw [h, slt_asym h]; rfl
  have h2 : spLt b a = true := (spLt_iff b a).2 (.inl h)
  rw [h1, h2, spLt_asym h2]; rfl
theorem cmp_ok (a b : Spt) (h : Hp) : Ans EE 91 [spV a, spV b] h fun x h' => x = .int .i64 (spCmpZ a b) ∧ Ext h.n h h' := by
 apply a_deps_Cmp
 unfold t_deps_Cmp_0
 refine pu_boxX (cs := spC a) rfl fun h1 b1 w1 => ?_
 refine pu_boxX (cs := spC b) rfl fun h2 b2 w2 => ?_
 have n1 := w1.n
 have n2 := w2.n
 have e1 := w1.b
 have e2 := w2.b
 have x2 : Ext h.n h h2 := (w1.ext (Nat.le_refl _)).trans (w2.ext (by omega))
 have hb1 : h2.t.get b1 = some (.cells (spC a) 42 false) := by rw [w2.old b1 (by omega)]; exact w1.at_
 have hb2 := w2.at_
 simp only [fa_api_Spot_0, fa_api_Spot_1, fa_api_Spot_2]
 rw [pu_load1 l_string hb1 rfl, pu_load1 l_string hb2 rfl, pu_load1 l_int hb1 rfl, pu_load1 l_int hb2 rfl, pu_load1 l_int hb1 rfl, pu_load1 l_int hb2 rfl]
 refine (cmpS_ok a.s b.s h2).mono ?_
 rintro x h3 ⟨rfl, rfl⟩
 rw [pu_load1 l_int hb2 rfl, same_int, pu_load1 l_int hb1 rfl, same_int, pu_load1 l_int hb2 rfl, same_int, pu_load1 l_int hb1 rfl, same_int]
 refine (cmpI_ok a.r b.r h3).mono ?_
 rintro x h4 ⟨rfl, rfl⟩
 rw [pu_load1 l_int hb2 rfl, same_int, pu_load1 l_int hb1 rfl, same_int]
 refine (cmpI_ok a.c b.c h4).mono ?_
 rintro x h5 ⟨rfl, rfl⟩
 refine pu_bslX s_sl_int l_int _ (by simp [c1_int]) rfl (by omega) fun h6 b6 w6 => ?_
 have hrd : Rd h6 1 (.sl b6 0 3 3) 3 ([scmpZ a.s b.s, icmpZ a.r b.r, icmpZ a.c b.c].map fun z => V.int .i64 z) :=
  ⟨rfl, .inr ⟨b6, 0, _, rdCells_of w6.at_, rfl, .inl ⟨3, rfl⟩⟩⟩
 refine (or_ok h6 _ [scmpZ a.s b.s, icmpZ a.r b.r, icmpZ a.c b.c] hrd (by simp)).mono ?_
 rintro x h7 ⟨rfl, rfl⟩
 exact ⟨by rw [or_cmp], x2.trans (w6.ext (by omega))⟩
end
end Go.Proofs.YtbchdlelmkmagaaGreatDoor.VM
namespace Go.Proofs.YtbchdlelmkmagaaGreatDoor.VM
open Go
set_option linter.unusedVariables false
set_option linter.unusedSectionVars false
set_option linter.unusedSimpArgs false
set_option maxRecDepth 20000
noncomputable section
attribute [local instance] syZ
theorem ti_string : ∃ i, EE.ty.get 9 = some i ∧ i.k = .str := st_string
theorem eqlB (a b : Nat) (t : Nat) (cx cy : Bool) (q : V → Prop) : (Pu EE).bin .eql t cx cy (.int .u8 a) (.int .u8 b) q ↔ q (.bool (Nat.beq a b)) := by
 rw [pu_eql]
 have : decide ((a : Int) = (b : Int)) = Nat.beq a b := by
  rw [Bool.eq_iff_iff, decide_eq_true_iff, Nat.beq_eq]; omega
 rw [this]
def fCols (nm : List Nat) (r : Nat) (row : List (List Nat)) (c n : Nat) : List Spt := (colsL nm r c n).filter fun s => is61 ((row[s.c]?).getD [])
structure FS (N : Nat) (h0 h : Hp) (v : V) (acc : List Spt) : Prop where
 own : OwnS N h v acc
 n : N ≤ h.n
 ext : Ext N h0 h
structure SB (h : Hp) (v : V) (b4 : Nat) (s : Sht) (rv : V) : Prop where
 at_ : h.t.get b4 = some (.cells (shtC s rv) 38 false)
 lt : b4 < h.n
 ne : blkOf v ≠ some b4
section
variable (Q : V → Hp → Prop) (M N : Nat) (h0 : Hp) (sv : V) (bk : Bok) (hN0 : N = h0.n) (hM : M ≤ N) (hs : ShsAt M h0 sv bk) (hfit : (allSpots bk).length ≤ 100000) (hbl : bk.length < 1000000) (hrl : ∀ s ∈ bk, s.rows.length < 1000000 ∧ ∀ row ∈ s.rows, row.length < 1000000)
include hN0 hM hs hfit hbl hrl
theorem form_loop3 (i r b4 : Nat) (s : Sht) (row : List (List Nat)) (rv wv : V) (tot : List Spt) (ht : tot.length ≤ 100000) (hi : bk[i]? = some s) (hrow : s.rows[r]? = some row) (hw : RowAt M h0 wv row)
  (rest : List Spt) (hnext : ∀ (h : Hp) (v : V) (acc : List Spt), FS N h0 h v acc → SB h v b4 s rv → acc ++ rest = tot → L_deps_formulas_2 Q v (.ptr b4 0) sv (.int .i64 bk.length) (.int .i64 i) rv (.int .i64 s.rows.length) (.int .i64 (r + 1 : Nat)) h) :
  ∀ (k c : Nat), row.length - c = k → ∀ (h : Hp) (v : V) (acc : List Spt), FS N h0 h v acc → SB h v b4 s rv → acc ++ (fCols s.name r row c row.length ++ rest) = tot → c ≤ row.length →
   L_deps_formulas_3 Q v (.ptr b4 0) (.int .i64 r) sv (.int .i64 bk.length) (.int .i64 i) rv (.int .i64 s.rows.length) (.int .i64 r) wv (.int .i64 row.length) (.int .i64 c) h := by
 have hrl1 := hrl s (List.mem_of_getElem? hi)
 have hrr := (List.getElem?_eq_some_iff.1 hrow).1
 have hrowl := hrl1.2 row (List.mem_of_getElem? hrow)
 obtain ⟨ti, ti1, ti2⟩ := ti_string
 intro k
 induction k with
 | zero =>
  intro c hk h v acc S B he hc
  apply r_deps_formulas_3
  unfold t_deps_formulas_3
  rw [pu_lssN, pu_cond_d]
  refine ⟨fun h1 => absurd h1 (by omega), fun _ => ?_⟩
  rw [pu_inc _ _ _ _ (by omega)]
  unfold fCols at he
  rw [colsL_end (by omega), List.filter_nil, List.nil_append] at he
  exact hnext h v acc S B he
 | succ k ih =>
  intro c hk h v acc S B he hc
  apply r_deps_formulas_3
  unfold t_deps_formulas_3
  rw [pu_lssN, pu_cond_d]
  refine ⟨fun h1 => ?_, fun h1 => absurd (by omega) h1⟩
  obtain ⟨b1, o1, g1, g2⟩ := row_get (hw.ext (S.ext.mono hM)) s_sl_string l_string (List.getElem?_eq_getElem h1)
  rw [g1, g2, pu_sneq]
  have hstep : fCols s.name r row c row.length = (if is61 row[c] = true then [⟨s.name, r, c⟩] else []) ++ fCols s.name r row (c + 1) row.length := by
   unfold fCols
   rw [colsL_step h1, List.filter_cons]
   simp only [List.getElem?_eq_getElem h1, Option.getD_some]
   split <;> rfl
  rw [hstep] at he
  have hskip : is61 row[c] = false → L_deps_formulas_3 Q v (.ptr b4 0) (.int .i64 r) sv (.int .i64 bk.length) (.int .i64 i) rv (.int .i64 s.rows.length) (.int .i64 r) wv (.int .i64 row.length) (.int .i64 (c + 1 : Nat)) h := fun e => by
   rw [e] at he
   exact ih (c + 1) (by omega) h v acc S B (by simpa using he) (by omega)
  cases htx : row[c] with
  | nil =>
   rw [htx] at hskip
   simp only [decide_true, Bool.not_true, pu_gval_ft, pu_pick_f, pu_cond_f]
   rw [pu_inc _ _ _ _ (by omega)]
   exact hskip rfl
  | cons x xs =>
   rw [htx] at hskip he
   have e1 : (!decide ((x :: xs) = ([] : List Nat))) = true := by simp
   rw [e1]
   simp only [pu_gval_y, pu_pick_t]
   rw [show (0 : Int) = ((0 : Nat) : Int) from rfl, pu_sidx _ ti ti1 ti2 (x :: xs) .i64 0 (by simp), show (61 : Int) = ((61 : Nat) : Int) from rfl, eqlB]
   simp only [List.getElem_cons_zero]
   rw [pu_cond]
   refine ⟨fun e => ?_, fun e => ?_⟩
   ·rw [fa_api_Sheet_0, pu_load1 l_string B.at_ rfl, mk_spot]
    have e6 : is61 (x :: xs) = true := e
    rw [e6, if_pos rfl] at he
    have hal : acc.length + 1 ≤ 1048576 := by
     have := congrArg List.length he
     simp only [List.length_append, List.length_cons] at this
     omega
    refine append_spot S.own _ hal S.n _ fun v' h' o' x' f' b' => ?_
    rw [pu_inc _ _ _ _ (by omega)]
    refine ih (c + 1) (by omega) h' v' (acc ++ [⟨s.name, r, c⟩]) ⟨o', Nat.le_trans S.n x'.n, S.ext.trans x'⟩ ⟨by rw [f' b4 B.lt B.ne]; exact B.at_, Nat.lt_of_lt_of_le B.lt x'.n, fun q => ?_⟩ ?_ (by omega)
    ·rcases b' b4 q with q | q
     ·exact B.ne q
     ·have := B.lt; omega
    ·rw [← he]; simp
   ·rw [pu_inc _ _ _ _ (by omega)]
    exact hskip e
def fRows (nm : List Nat) : Nat → List (List (List Nat)) → List Spt
 | _, [] => []
 | r, row :: rows => fCols nm r row 0 row.length ++ fRows nm (r + 1) rows
theorem form_loop2 (i b4 : Nat) (s : Sht) (rv : V) (tot : List Spt) (ht : tot.length ≤ 100000) (hi : bk[i]? = some s) (hrv : RowsAt M h0 rv s.rows) (rest : List Spt)
  (hnext : ∀ (h : Hp) (v : V) (acc : List Spt), FS N h0 h v acc → acc ++ rest = tot → L_deps_formulas_1 Q v sv (.int .i64 bk.length) (.int .i64 (i + 1 : Nat)) h) :
  ∀ (k r : Nat), s.rows.length - r = k → ∀ (h : Hp) (v : V) (acc : List Spt), FS N h0 h v acc → SB h v b4 s rv → acc ++ (fRows s.name r (s.rows.drop r) ++ rest) = tot → r ≤ s.rows.length →
   L_deps_formulas_2 Q v (.ptr b4 0) sv (.int .i64 bk.length) (.int .i64 i) rv (.int .i64 s.rows.length) (.int .i64 r) h := by
 have hrl1 := hrl s (List.mem_of_getElem? hi)
 have hil := (List.getElem?_eq_some_iff.1 hi).1
 intro k
 induction k with
 | zero =>
  intro r hk h v acc S B he hr
  apply r_deps_formulas_2
  unfold t_deps_formulas_2
  rw [pu_lssN, pu_cond_d]
  refine ⟨fun h1 => absurd h1 (by omega), fun _ => ?_⟩
  rw [pu_inc _ _ _ _ (by omega)]
  rw [List.drop_eq_nil_of_le (by omega : s.rows.length ≤ r)] at he
  exact hnext h v acc S he
 | succ k ih =>
  intro r hk h v acc S B he hr
  apply r_deps_formulas_2
  unfold t_deps_formulas_2
  rw [pu_lssN, pu_cond_d]
  refine ⟨fun h1 => ?_, fun h1 => absurd (by omega) h1⟩
  obtain ⟨us, q1, q2, q3⟩ := hrv
  obtain ⟨w, q4, q5⟩ := q3 r _ (List.getElem?_eq_getElem h1)
  obtain ⟨b3, o3, p1, p2, _⟩ := rd_get1 (q1.ext (S.ext.mono hM) q2) s_sl_sl_string l_sl_string q4
  have hw := q5.ext (S.ext.mono hM)
  rw [p1, p2, pu_len hw.1 s_sl_string]
  rw [drop_cons h1, fRows, List.append_assoc] at he
  exact form_loop3 Q M N h0 sv bk hN0 hM hs hfit hbl hrl i r b4 s s.rows[r] rv w tot ht hi (List.getElem?_eq_getElem h1) q5 _ (fun h' v' acc' S' B' he' => ih (r + 1) (by omega) h' v' acc' S' B' he' (by omega)) _ 0 rfl h v acc S B he (by omega)
def fAll : Bok → List Spt
 | [] => []
 | s :: b => fRows s.name 0 s.rows ++ fAll b
theorem form_loop1 (tot : List Spt) (ht : tot.length ≤ 100000) (hq : ∀ (h : Hp) (v : V), FS N h0 h v tot → Q v h) :
  ∀ (k i : Nat), bk.length - i = k → ∀ (h : Hp) (v : V) (acc : List Spt), FS N h0 h v acc → acc ++ fAll (bk.drop i) = tot → i ≤ bk.length → L_deps_formulas_1 Q v sv (.int .i64 bk.length) (.int .i64 i) h := by
 intro k
 induction k with
 | zero =>
  intro i hk h v acc S he hi
  apply r_deps_formulas_1
  unfold t_deps_formulas_1
  rw [pu_lssN, pu_cond_d]
  refine ⟨fun h1 => absurd h1 (by omega), fun _ => ?_⟩
  rw [List.drop_eq_nil_of_le (by omega : bk.length ≤ i)] at he
  have e : acc = tot := by simpa [fAll] using he
  subst e
  exact hq h v S
 | succ k ih =>
  intro i hk h v acc S he hi
  apply r_deps_formulas_1
  unfold t_deps_formulas_1
  rw [pu_lssN, pu_cond_d]
  refine ⟨fun h1 => ?_, fun h1 => absurd (by omega) h1⟩
  have hsn := S.n
  obtain ⟨cs, q1, q2, q3⟩ := hs
  obtain ⟨rv, q4, q5⟩ := q3 i _ (List.getElem?_eq_getElem h1)
  obtain ⟨b1, o1, g1, g2, _⟩ := rd_getS (q1.ext (S.ext.mono hM) q2) s_sl_api_Sheet l_api_Sheet (by omega) h1 q4
  obtain ⟨us, hu⟩ := q5.rd
  have hcl' : allCells (shtC bk[i] rv) = true := by
   show (bif rv.isCell then allCells [] else false) = true
   rw [hu.c1.2]; rfl
  rw [g1, g2]
  refine pu_allocX l_api_Sheet fun h3 b3 w3 => ?_
  refine pu_storeX l_api_Sheet w3.at_ (x := .agg (shtC bk[i] rv)) rfl hcl' (r := shtC bk[i] rv) rfl fun h4 w4 => ?_
  have n3 := w3.n
  have e3 := w3.b
  have n4 := w4.n
  have x4 : Ext h.n h h4 := (w3.ext (Nat.le_refl _)).trans (w4.ext (by omega))
  have S4 : FS N h0 h4 v acc := ⟨S.own.keep x4.n fun c hc => x4.old c (S.own.in_ c hc), by omega, S.ext.trans (x4.mono hsn)⟩
  have hr4 := q5.ext (S4.ext.mono hM)
  obtain ⟨us4, hu4⟩ := hr4.rd
  rw [fa_api_Sheet_2, pu_load1 l_sl_sl_string w4.at_ rfl, pu_len hu4 s_sl_sl_string]
  rw [drop_cons h1, fAll] at he
  exact form_loop2 Q M N h0 sv bk hN0 hM ⟨cs, q1, q2, q3⟩ hfit hbl hrl i b3 bk[i] rv tot ht (List.getElem?_eq_getElem h1) q5 _ (fun h' v' acc' S' he' => ih (i + 1) (by omega) h' v' acc' S' he' (by omega)) _ 0 rfl h4 v acc S4
   ⟨w4.at_, by omega, fun q => by have := S.own.in_ b3 q; omega⟩ he (by omega)
end
theorem fCols_eq {nm : List Nat} {r : Nat} {row : List (List Nat)} : fCols nm r row 0 row.length = (rowSpots nm r row).filter fun s => is61 ((row[s.c]?).getD []) := by rw [rowSpots_cols]; rfl
theorem fRows_eq (f : Spt → Bool) (nm : List Nat) (all : List (List (List Nat))) (hf : ∀ (r : Nat) (row : List (List Nat)) (c : Nat) (t : List Nat), all[r]? = some row → row[c]? = some t → f ⟨nm, r, c⟩ = is61 t) :
  ∀ (rows : List (List (List Nat))) (r : Nat), all.drop r = rows → fRows nm r rows = (rowsSpots nm r rows).filter f
 | [], r, _ => rfl
 | row :: rows, r, h => by
  have hlt : r < all.length := by
   have := congrArg List.length h
   simp at this; omega
  have hrow : all[r]? = some row := by
   have : (all.drop r)[0]? = some row := by rw [h]; rfl
   simpa using this
  rw [fRows, rowsSpots, List.filter_append, fRows_eq f nm all hf rows (r + 1) (by rw [← List.tail_drop, h]; rfl), fCols_eq]
  congr 1
  apply List.filter_congr
  intro s hs
  obtain ⟨h1, h2, h3⟩ := rowSpots_mem.1 hs
  obtain ⟨a, b, c⟩ := s
  simp only at h1 h2 h3
  subst h1; subst h2
  rw [hf b row c row[c] hrow (List.getElem?_eq_getElem h3), List.getElem?_eq_getElem h3]
  rfl
theorem fAll_eq (f : Spt → Bool) : ∀ (bk : Bok), (∀ s ∈ bk, ∀ (r : Nat) (row : List (List Nat)) (c : Nat) (t : List Nat), s.rows[r]? = some row → row[c]? = some t → f ⟨s.name, r, c⟩ = is61 t) → fAll bk = (allSpots bk).filter f
 | [], _ => rfl
 | s :: bk, h => by
  rw [fAll, allSpots, List.filter_append, fAll_eq f bk (fun t ht => h t (by simp [ht])), fRows_eq f s.name s.rows (h s (by simp)) s.rows 0 rfl]
theorem getC_at {bk : Bok} (hr : Rises bk) {s : Sht} (hs : s ∈ bk) {r : Nat} {row : List (List Nat)} {c : Nat} {t : List Nat} (h1 : s.rows[r]? = some row) (h2 : row[c]? = some t) : getC bk ⟨s.name, r, c⟩ = t := by
 unfold getC
 simp only [findR_some hr hs, h1, h2, Option.getD_some]
theorem fAll_cells {bk : Bok} (g : Good bk) : fAll bk = fCells bk := by
 refine fAll_eq (hasF bk) bk fun s hs r row c t h1 h2 => ?_
 unfold hasF
 rw [getC_at g.ris hs h1 h2]
 have ht := g.text s hs row (List.mem_of_getElem? h1) t (List.mem_of_getElem? h2)
 rw [← ht.some_, ht.eq61]
theorem formulas_ok (M : Nat) (h : Hp) (v : V) (bk : Bok) (hv : BokAt M h v bk) (hM : M ≤ h.n) (g : Good bk) : Ans EE 26 [v] h fun x h' => OwnS h.n h' x (fCells bk) ∧ Ext h.n h h' := by
 obtain ⟨sv, rfl, hs⟩ := hv
 obtain ⟨cs, hrd⟩ := hs.rd
 have hcell : allCells [sv] = true := by have := hrd.c1; simp [allCells, this.2]
 apply a_deps_formulas
 unfold t_deps_formulas_0
 refine pu_boxX (cs := [sv]) hcell fun h1 b w => ?_
 have n1 := w.n
 have e1 := w.b
 have hx := w.ext (Nat.le_refl h.n)
 have hs1 := hs.ext (hx.mono hM)
 obtain ⟨cs1, hrd1⟩ := hs1.rd
 rw [fa_api_Book_0, pu_load1 l_sl_api_Sheet w.at_ rfl, pu_len hrd1 s_sl_api_Sheet]
 exact form_loop1 _ M h1.n h1 sv bk rfl (by omega) hs1 g.fit.spots g.fit.len g.fit.rows (fCells bk) (fCells_len g) (fun h2 v2 S => ⟨S.own.mono (by omega), hx.trans (S.ext.mono (by omega))⟩) _ 0 rfl h1 .nils [] ⟨OwnS.nil _ _, Nat.le_refl _, Ext.refl _ _⟩ (by simp [fAll_cells g]) (by omega)
end
end Go.Proofs.YtbchdlelmkmagaaGreatDoor.VM
namespace Go.Proofs.YtbchdlelmkmagaaGreatDoor.VM
open Go
set_option linter.unusedVariables false
set_option maxRecDepth 100000
noncomputable section
noncomputable def c_slices_SortFunc_api_Spot_api_Spot : Code := match Tryz.f90.body with | some c => c | none => .skip
noncomputable def F_slices_SortFunc_api_Spot_api_Spot : Fl := ⟨Tryz.f90, c_slices_SortFunc_api_Spot_api_Spot, []⟩
noncomputable def t_slices_SortFunc_api_Spot_api_Spot_0 (p : Pr) (l : LL) (Q : QQ) (v0 v1 : V) (h : Hp) : Prop :=
 p.lbui h #[32] .len [v0] fun x1 =>
 p.conv h 3 180 x1 fun x2 =>
 p.call 142 [x2] h fun x3 h4 =>
 p.call 141 [v0, (.int .i64 0), x1, x3, v1] h4 fun x5 h6 =>
 Q u0 h6
theorem q_slices_SortFunc_api_Spot_api_Spot_0 (p : Pr) (l : LL) (Q : QQ) (v0 v1 : V) (h : Hp) : t_slices_SortFunc_api_Spot_api_Spot_0 p l Q v0 v1 h = F_slices_SortFunc_api_Spot_api_Spot.K p EE l Q [] ([v0, v1] ++ List.replicate 12 undefV) h := by kernel_rfl
theorem a_slices_SortFunc_api_Spot_api_Spot {Q : QQ} {v0 v1 : V} {h : Hp} (H : t_slices_SortFunc_api_Spot_api_Spot_0 (Pu EE) (F_slices_SortFunc_api_Spot_api_Spot.L EE Q) Q v0 v1 h) : Ans EE 90 [v0, v1] h Q :=
 ansL (F := F_slices_SortFunc_api_Spot_api_Spot) (by kernel_rfl) (by kernel_rfl) (by kernel_rfl) (by kernel_rfl) (cast (q_slices_SortFunc_api_Spot_api_Spot_0 _ _ _ v0 v1 h) H)
noncomputable def c_slices_insertionSortCmpFunc_api_Spot : Code := match Tryz.f195.body with | some c => c | none => .skip
noncomputable def F_slices_insertionSortCmpFunc_api_Spot : Fl := ⟨Tryz.f195, c_slices_insertionSortCmpFunc_api_Spot, [([false, true], [0, 1, 2, 3, 8]), ([false, true, false, false, true, false, false, true], [0, 1, 2, 3, 8, 9])]⟩
abbrev L_slices_insertionSortCmpFunc_api_Spot_1 (Q : QQ) (v0 v1 v2 v3 v8 : V) (h : Hp) : Prop := F_slices_insertionSortCmpFunc_api_Spot.L EE Q 1 [v0, v1, v2, v3, v8] h
abbrev L_slices_insertionSortCmpFunc_api_Spot_2 (Q : QQ) (v0 v1 v2 v3 v8 v9 : V) (h : Hp) : Prop := F_slices_insertionSortCmpFunc_api_Spot.L EE Q 2 [v0, v1, v2, v3, v8, v9] h
noncomputable def t_slices_insertionSortCmpFunc_api_Spot_0 (p : Pr) (l : LL) (Q : QQ) (v0 v1 v2 v3 : V) (h : Hp) : Prop :=
 p.bin .add 3 false true v1 (.int .i64 1) fun x1 =>
 l 1 [v0, v1, v2, v3, x1] h
theorem q_slices_insertionSortCmpFunc_api_Spot_0 (p : Pr) (l : LL) (Q : QQ) (v0 v1 v2 v3 : V) (h : Hp) : t_slices_insertionSortCmpFunc_api_Spot_0 p l Q v0 v1 v2 v3 h = F_slices_insertionSortCmpFunc_api_Spot.K p EE l Q [] ([v0, v1, v2, v3] ++ List.replicate 49 undefV) h := by kernel_rfl
theorem a_slices_insertionSortCmpFunc_api_Spot {Q : QQ} {v0 v1 v2 v3 : V} {h : Hp} (H : t_slices_insertionSortCmpFunc_api_Spot_0 (Pu EE) (F_slices_insertionSortCmpFunc_api_Spot.L EE Q) Q v0 v1 v2 v3 h) : Ans EE 195 [v0, v1, v2, v3] h Q :=
 ansL (F := F_slices_insertionSortCmpFunc_api_Spot) (by kernel_rfl) (by kernel_rfl) (by kernel_rfl) (by kernel_rfl) (cast (q_slices_insertionSortCmpFunc_api_Spot_0 _ _ _ v0 v1 v2 v3 h) H)
noncomputable def t_slices_insertionSortCmpFunc_api_Spot_1 (p : Pr) (l : LL) (Q : QQ) (v0 v1 v2 v3 v8 : V) (h : Hp) : Prop :=
 p.bin .lss 3 false false v8 v2 fun x1 =>
 p.cond x1
 (fun _ =>
  l 2 [v0, v1, v2, v3, v8, v8] h)
 (fun _ =>
  Q u0 h)
theorem q_slices_insertionSortCmpFunc_api_Spot_1 (p : Pr) (l : LL) (Q : QQ) (s : List V) (h : Hp) : t_slices_insertionSortCmpFunc_api_Spot_1 p l Q (nth s 0) (nth s 1) (nth s 2) (nth s 3) (nth s 8) h = F_slices_insertionSortCmpFunc_api_Spot.K p EE l Q [true, false] (nths s 53 0) h := by kernel_rfl
theorem r_slices_insertionSortCmpFunc_api_Spot_1 {Q : QQ} {v0 v1 v2 v3 v8 : V} {h : Hp} (H : t_slices_insertionSortCmpFunc_api_Spot_1 (Pu EE) (F_slices_insertionSortCmpFunc_api_Spot.L EE Q) Q v0 v1 v2 v3 v8 h) : L_slices_insertionSortCmpFunc_api_Spot_1 Q v0 v1 v2 v3 v8 h :=
 labR (path := [true, false]) rfl rfl fun s e => by cases e; exact cast (q_slices_insertionSortCmpFunc_api_Spot_1 _ _ _ s h) H
noncomputable def t_slices_insertionSortCmpFunc_api_Spot_2 (p : Pr) (l : LL) (Q : QQ) (v0 v1 v2 v3 v8 v9 : V) (h : Hp) : Prop :=
 p.bin .gtr 3 false false v9 v1 fun x1 =>
 p.gval x1 true (fun k2 =>
  k2 v3) fun x3 =>
 p.gval x1 true (fun k4 =>
  k4 v0) fun x5 =>
 p.gval x1 true (fun k6 =>
  k6 v9) fun x7 =>
 p.gval x1 true (fun k8 =>
  p.iaddr 32 x5 x7 fun x9 =>
  k8 x9) fun x10 =>
 p.gval x1 true (fun k11 =>
  p.load h 42 x10 fun x12 =>
  k11 x12) fun x13 =>
 p.gval x1 true (fun k14 =>
  k14 v0) fun x15 =>
 p.gval x1 true (fun k16 =>
  k16 v9) fun x17 =>
 p.gval x1 true (fun k18 =>
  p.bin .sub 3 false true x17 (.int .i64 1) fun x19 =>
  k18 x19) fun x20 =>
 p.gval x1 true (fun k21 =>
  p.iaddr 32 x15 x20 fun x22 =>
  k21 x22) fun x23 =>
 p.gval x1 true (fun k24 =>
  p.load h 42 x23 fun x25 =>
  k24 x25) fun x26 =>
 p.geff x1 true (fun k27 =>
  p.callv x3 [x13, x26] h fun x28 h29 =>
  k27 x28 h29) h fun x30 h31 =>
 p.gval x1 true (fun k32 =>
  p.bin .lss 3 false true x30 (.int .i64 0) fun x33 =>
  k32 x33) fun x34 =>
 p.pick x1 (some x34) (some (.bool false)) fun x35 =>
 p.cond x35
 (fun _ =>
  p.bin .sub 3 false true v9 (.int .i64 1) fun x36 =>
  p.bin .sub 3 false true v9 (.int .i64 1) fun x37 =>
  p.iaddr 32 v0 x37 fun x38 =>
  p.load h31 42 x38 fun x39 =>
  p.iaddr 32 v0 v9 fun x40 =>
  p.load h31 42 x40 fun x41 =>
  p.iaddr 32 v0 v9 fun x42 =>
  p.store h31 42 x42 x39 fun h43 =>
  p.iaddr 32 v0 x36 fun x44 =>
  p.store h43 42 x44 x41 fun h45 =>
  p.bin .sub 3 false true v9 (.int .i64 1) fun x46 =>
  l 2 [v0, v1, v2, v3, v8, x46] h45)
 (fun _ =>
  p.bin .add 3 false true v8 (.int .i64 1) fun x47 =>
  l 1 [v0, v1, v2, v3, x47] h31)
theorem q_slices_insertionSortCmpFunc_api_Spot_2 (p : Pr) (l : LL) (Q : QQ) (s : List V) (h : Hp) : t_slices_insertionSortCmpFunc_api_Spot_2 p l Q (nth s 0) (nth s 1) (nth s 2) (nth s 3) (nth s 8) (nth s 9) h = F_slices_insertionSortCmpFunc_api_Spot.K p EE l Q [true, false, false, true, false, false, true, false] (nths s 53 0) h := by kernel_rfl
theorem r_slices_insertionSortCmpFunc_api_Spot_2 {Q : QQ} {v0 v1 v2 v3 v8 v9 : V} {h : Hp} (H : t_slices_insertionSortCmpFunc_api_Spot_2 (Pu EE) (F_slices_insertionSortCmpFunc_api_Spot.L EE Q) Q v0 v1 v2 v3 v8 v9 h) : L_slices_insertionSortCmpFunc_api_Spot_2 Q v0 v1 v2 v3 v8 v9 h :=
 labR (path := [true, false, false, true, false, false, true, false]) rfl rfl fun s e => by cases e; exact cast (q_slices_insertionSortCmpFunc_api_Spot_2 _ _ _ s h) H
noncomputable def c_slices_Clone_api_Spot_api_Spot : Code := match Tryz.f92.body with | some c => c | none => .skip
noncomputable def F_slices_Clone_api_Spot_api_Spot : Fl := ⟨Tryz.f92, c_slices_Clone_api_Spot_api_Spot, []⟩
noncomputable def t_slices_Clone_api_Spot_api_Spot_0 (p : Pr) (l : LL) (Q : QQ) (v0 : V) (h : Hp) : Prop :=
 p.bin .eql 32 false true v0 .nils fun x1 =>
 p.cond x1
 (fun _ =>
  Q .nils h)
 (fun _ =>
  p.bsl h 32 0 [] fun x2 h3 b4 =>
  p.ebui h3 #[32, 32] .append [x2, v0] fun x5 h6 =>
  Q x5 h6)
theorem q_slices_Clone_api_Spot_api_Spot_0 (p : Pr) (l : LL) (Q : QQ) (v0 : V) (h : Hp) : t_slices_Clone_api_Spot_api_Spot_0 p l Q v0 h = F_slices_Clone_api_Spot_api_Spot.K p EE l Q [] ([v0] ++ List.replicate 7 undefV) h := by kernel_rfl
theorem a_slices_Clone_api_Spot_api_Spot {Q : QQ} {v0 : V} {h : Hp} (H : t_slices_Clone_api_Spot_api_Spot_0 (Pu EE) (F_slices_Clone_api_Spot_api_Spot.L EE Q) Q v0 h) : Ans EE 92 [v0] h Q :=
 ansL (F := F_slices_Clone_api_Spot_api_Spot) (by kernel_rfl) (by kernel_rfl) (by kernel_rfl) (by kernel_rfl) (cast (q_slices_Clone_api_Spot_api_Spot_0 _ _ _ v0 h) H)
noncomputable def c_slices_Compact_api_Spot_api_Spot : Code := match Tryz.f93.body with | some c => c | none => .skip
noncomputable def F_slices_Compact_api_Spot_api_Spot : Fl := ⟨Tryz.f93, c_slices_Compact_api_Spot_api_Spot, [([false, true, false, true, true], [0, 3]), ([false, true, false, true, false, true, false, false, true, false, false, true, false, true, true], [0, 3, 4, 5])]⟩
abbrev L_slices_Compact_api_Spot_api_Spot_1 (Q : QQ) (v0 v3 : V) (h : Hp) : Prop := F_slices_Compact_api_Spot_api_Spot.L EE Q 1 [v0, v3] h
noncomputable def t_slices_Compact_api_Spot_api_Spot_0 (p : Pr) (l : LL) (Q : QQ) (v0 : V) (h : Hp) : Prop :=
 p.lbui h #[32] .len [v0] fun x1 =>
 p.bin .lss 3 false true x1 (.int .i64 2) fun x2 =>
 p.cond x2
 (fun _ =>
  Q v0 h)
 (fun _ =>
  l 1 [v0, (.int .i64 1)] h)
theorem q_slices_Compact_api_Spot_api_Spot_0 (p : Pr) (l : LL) (Q : QQ) (v0 : V) (h : Hp) : t_slices_Compact_api_Spot_api_Spot_0 p l Q v0 h = F_slices_Compact_api_Spot_api_Spot.K p EE l Q [] ([v0] ++ List.replicate 60 undefV) h := by kernel_rfl
theorem a_slices_Compact_api_Spot_api_Spot {Q : QQ} {v0 : V} {h : Hp} (H : t_slices_Compact_api_Spot_api_Spot_0 (Pu EE) (F_slices_Compact_api_Spot_api_Spot.L EE Q) Q v0 h) : Ans EE 93 [v0] h Q :=
 ansL (F := F_slices_Compact_api_Spot_api_Spot) (by kernel_rfl) (by kernel_rfl) (by kernel_rfl) (by kernel_rfl) (cast (q_slices_Compact_api_Spot_api_Spot_0 _ _ _ v0 h) H)
noncomputable def t_slices_Compact_api_Spot_api_Spot_1 (p : Pr) (l : LL) (Q : QQ) (v0 v3 : V) (h : Hp) : Prop :=
 p.lbui h #[32] .len [v0] fun x1 =>
 p.bin .lss 3 false false v3 x1 fun x2 =>
 p.cond x2
 (fun _ =>
  p.iaddr 32 v0 v3 fun x3 =>
  p.load h 42 x3 fun x4 =>
  p.bin .sub 3 false true v3 (.int .i64 1) fun x5 =>
  p.iaddr 32 v0 x5 fun x6 =>
  p.load h 42 x6 fun x7 =>
  p.bin .eql 42 false false x4 x7 fun x8 =>
  p.cond x8
  (fun _ =>
  p.slice 32 v0 (some v3) none none fun x9 =>
  l 2 [v0, v3, x9, (.int .i64 1)] h)
  (fun _ =>
  p.bin .add 3 false true v3 (.int .i64 1) fun x10 =>
  l 1 [v0, x10] h))
 (fun _ =>
  Q v0 h)
theorem q_slices_Compact_api_Spot_api_Spot_1 (p : Pr) (l : LL) (Q : QQ) (s : List V) (h : Hp) : t_slices_Compact_api_Spot_api_Spot_1 p l Q (nth s 0) (nth s 3) h = F_slices_Compact_api_Spot_api_Spot.K p EE l Q [true, true, false, true, false] (nths s 61 0) h := by kernel_rfl
theorem r_slices_Compact_api_Spot_api_Spot_1 {Q : QQ} {v0 v3 : V} {h : Hp} (H : t_slices_Compact_api_Spot_api_Spot_1 (Pu EE) (F_slices_Compact_api_Spot_api_Spot.L EE Q) Q v0 v3 h) : L_slices_Compact_api_Spot_api_Spot_1 Q v0 v3 h :=
 labR (path := [true, true, false, true, false]) rfl rfl fun s e => by cases e; exact cast (q_slices_Compact_api_Spot_api_Spot_1 _ _ _ s h) H
noncomputable def c_slices_pdqsortCmpFunc_api_Spot : Code := match Tryz.f141.body with | some c => c | none => .skip
noncomputable def F_slices_pdqsortCmpFunc_api_Spot : Fl := ⟨Tryz.f141, c_slices_pdqsortCmpFunc_api_Spot, [([false, true, true], [0, 1, 2, 3, 4, 10, 11]), ([true, true, true, true, false, false, false, true, true], [0, 1, 2, 3, 4, 10, 11, 12]), ([true, true, true, true, true, true, false, false, false, true, true], [0, 1, 2, 3, 4, 10, 11, 12, 13, 14]), ([true, true, true, true, true, true, true, false, false, false, true, true], [0, 1, 2, 3, 4, 10, 11, 12, 13])]⟩
abbrev L_slices_pdqsortCmpFunc_api_Spot_1 (Q : QQ) (v0 v1 v2 v3 v4 v10 v11 : V) (h : Hp) : Prop := F_slices_pdqsortCmpFunc_api_Spot.L EE Q 1 [v0, v1, v2, v3, v4, v10, v11] h
noncomputable def t_slices_pdqsortCmpFunc_api_Spot_0 (p : Pr) (l : LL) (Q : QQ) (v0 v1 v2 v3 v4 : V) (h : Hp) : Prop :=
 l 1 [v0, v1, v2, v3, v4, (.bool true), (.bool true)] h
theorem q_slices_pdqsortCmpFunc_api_Spot_0 (p : Pr) (l : LL) (Q : QQ) (v0 v1 v2 v3 v4 : V) (h : Hp) : t_slices_pdqsortCmpFunc_api_Spot_0 p l Q v0 v1 v2 v3 v4 h = F_slices_pdqsortCmpFunc_api_Spot.K p EE l Q [] ([v0, v1, v2, v3, v4] ++ List.replicate 143 undefV) h := by kernel_rfl
theorem a_slices_pdqsortCmpFunc_api_Spot {Q : QQ} {v0 v1 v2 v3 v4 : V} {h : Hp} (H : t_slices_pdqsortCmpFunc_api_Spot_0 (Pu EE) (F_slices_pdqsortCmpFunc_api_Spot.L EE Q) Q v0 v1 v2 v3 v4 h) : Ans EE 141 [v0, v1, v2, v3, v4] h Q :=
 ansL (F := F_slices_pdqsortCmpFunc_api_Spot) (by kernel_rfl) (by kernel_rfl) (by kernel_rfl) (by kernel_rfl) (cast (q_slices_pdqsortCmpFunc_api_Spot_0 _ _ _ v0 v1 v2 v3 v4 h) H)
noncomputable def t_slices_pdqsortCmpFunc_api_Spot_1 (p : Pr) (l : LL) (Q : QQ) (v0 v1 v2 v3 v4 v10 v11 : V) (h : Hp) : Prop :=
 p.bin .sub 3 false false v2 v1 fun x1 =>
 p.bin .leq 3 false true x1 (.int .i64 12) fun x2 =>
 p.cond x2
 (fun _ =>
  p.call 195 [v0, v1, v2, v4] h fun x3 h4 =>
  Q u0 h4)
 (fun _ =>
  p.bin .eql 3 false true v3 (.int .i64 0) fun x5 =>
  p.cond x5
  (fun _ =>
  p.call 196 [v0, v1, v2, v4] h fun x6 h7 =>
  Q u0 h7)
  (fun _ =>
  p.un .not v10 fun x8 =>
  p.cond x8
  (fun _ =>
   p.call 197 [v0, v1, v2, v4] h fun x9 h10 =>
   p.bin .sub 3 false true v3 (.int .i64 1) fun x11 =>
   l 2 [v0, v1, v2, x11, v4, v10, v11, x1] h10)
  (fun _ =>
   l 2 [v0, v1, v2, v3, v4, v10, v11, x1] h)))
theorem q_slices_pdqsortCmpFunc_api_Spot_1 (p : Pr) (l : LL) (Q : QQ) (s : List V) (h : Hp) : t_slices_pdqsortCmpFunc_api_Spot_1 p l Q (nth s 0) (nth s 1) (nth s 2) (nth s 3) (nth s 4) (nth s 10) (nth s 11) h = F_slices_pdqsortCmpFunc_api_Spot.K p EE l Q [true, true, false] (nths s 148 0) h := by kernel_rfl
theorem r_slices_pdqsortCmpFunc_api_Spot_1 {Q : QQ} {v0 v1 v2 v3 v4 v10 v11 : V} {h : Hp} (H : t_slices_pdqsortCmpFunc_api_Spot_1 (Pu EE) (F_slices_pdqsortCmpFunc_api_Spot.L EE Q) Q v0 v1 v2 v3 v4 v10 v11 h) : L_slices_pdqsortCmpFunc_api_Spot_1 Q v0 v1 v2 v3 v4 v10 v11 h :=
 labR (path := [true, true, false]) rfl rfl fun s e => by cases e; exact cast (q_slices_pdqsortCmpFunc_api_Spot_1 _ _ _ s h) H
end
end Go.Proofs.YtbchdlelmkmagaaGreatDoor.VM
namespace Go.Proofs.YtbchdlelmkmagaaGreatDoor.VM
open Go
set_option linter.unusedVariables false
set_option linter.unusedSectionVars false
set_option linter.unusedSimpArgs false
set_option maxRecDepth 20000
noncomputable section
attribute [local instance] syZ
theorem own_addr {N : Nat} {h : Hp} {v : V} {l : List Spt} (o : OwnS N h v l) {i : Nat} (hi : i < l.length) :
  ∃ b, h.t.get b = some (.cells (spCs l) 42 false) ∧ N ≤ b ∧ b < h.n ∧ blkOf v = some b ∧ ∀ (k : IntKind) (q : V → Prop), (Pu EE).iaddr 32 v (.int k i) q ↔ q (.ptr b (i * 3)) := by
 obtain ⟨ti, h1, h2⟩ := s_sl_api_Spot
 obtain ⟨⟨j, h3, h4, _, _, _⟩, _⟩ := l_api_Spot
 rcases o.at_ with ⟨_, h0⟩ | ⟨b, hb, hbn, hg, hv⟩
 ·omega
 ·refine ⟨b, hg, hb, hbn, by rcases hv with rfl | rfl <;> rfl, fun k q => ?_⟩
  show (∃ u, vindexAddr EE 32 v (.int k i) = some u ∧ q u) ↔ _
  have hbl : Nat.blt i l.length = true := by rw [Nat.blt_eq]; exact hi
  rcases hv with rfl | rfl <;> simp only [vindexAddr, natOf_nat, h1, Option.bind_some, h2, h3, hbl, cond_true, h4, Nat.zero_add, ex_some]
theorem spl_spt : ∀ (l : List Spt) (i : Nat) (x : Spt), i < l.length → spl (spCs l) (i * 3) (spC x) = some (spCs (l.set i x))
 | [], i, x, h => by simp at h
 | a :: l, 0, x, _ => by
  have e : ∀ m : List V, spl m 0 [] = some m := fun m => by cases m <;> rfl
  show ((((spl (spCs l) 0 []).bind fun r => some (V.int .i64 x.c :: r)).bind fun r => some (V.int .i64 x.r :: r)).bind fun r => some (V.str x.s :: r)) = _
  rw [e]
  rfl
 | a :: l, i + 1, x, h => by
  have ih := spl_spt l i x (by simpa using h)
  have e : (i + 1) * 3 = (((i * 3) + 1) + 1) + 1 := by omega
  rw [e]
  show ((((spl (spCs l) (i * 3) (spC x)).bind fun r => some (V.int .i64 a.c :: r)).bind fun r => some (V.int .i64 a.r :: r)).bind fun r => some (V.str a.s :: r)) = _
  rw [ih]
  rfl
theorem own_store {N : Nat} {h : Hp} {v : V} {l : List Spt} (o : OwnS N h v l) {i b : Nat} (hi : i < l.length) (hb : blkOf v = some b) (x : Spt) {q : Hp → Prop} (hq : ∀ h', OwnS N h' v (l.set i x) → Ext N h h' → h'.n = h.n → q h') : (Pu EE).store h 42 (.ptr b (i * 3)) (spV x) q := by
 obtain ⟨b', hg, hbN, hbn, hb', _⟩ := own_addr o hi
 rw [hb] at hb'
 cases hb'
 refine pu_storeX l_api_Spot hg rfl rfl (spl_spt l i x hi) fun h1 w => hq h1 ⟨by rw [spCs_len], ?_⟩ (w.ext hbN) w.n
 rcases o.at_ with ⟨_, h0⟩ | ⟨b2, h2, h3, h4, h5⟩
 ·omega
 ·have : b2 = b := by rcases h5 with rfl | rfl <;> (cases hb; rfl)
  subst this
  refine .inr ⟨b2, h2, by rw [w.n]; exact h3, w.at_, ?_⟩
  rw [List.length_set]
  exact h5
def gD (l : List Spt) (i : Nat) : Spt := l.getD i sp0
theorem gD_at {l : List Spt} {i : Nat} (h : i < l.length) : l[i]? = some (gD l i) := by simp [gD, List.getD, h]
theorem gD_set {l : List Spt} {i j : Nat} {x : Spt} (h : i < l.length) : gD (l.set i x) j = if j = i then x else gD l j := by
 unfold gD
 rw [List.getD_eq_getElem?_getD, List.getD_eq_getElem?_getD, List.getElem?_set]
 by_cases e : i = j
 ·subst e; simp [h]
 ·rw [if_neg e, if_neg (fun q => e q.symm)]
structure InsI (l : List Spt) (i j : Nat) : Prop where
 a : ∀ p q, p < q → q ≤ i → p ≠ j → q ≠ j → spLe (gD l p) (gD l q)
 b : ∀ q, j < q → q ≤ i → spLe (gD l j) (gD l q)
def SortedTo (l : List Spt) (i : Nat) : Prop := ∀ p q, p < q → q < i → spLe (gD l p) (gD l q)
theorem cmp_lt (a b : Spt) : spCmpZ a b < 0 ↔ spLt a b = true := by
 unfold spCmpZ
 cases spLt a b with
 | true => simp
 | false =>
  simp
  split <;> omega
theorem ins_loop (Q : V → Hp → Prop) (N : Nat) (n : Nat) (hn : n ≤ 1000) (l0 : List Spt) (h0 : Hp) (v : V) (hq : ∀ (h : Hp) (l : List Spt), OwnS N h v l → l.Perm l0 → SortedTo l l.length → Ext N h0 h → N ≤ h.n → Q u0 h) :
  ∀ (k i : Nat), n - i = k → 1 ≤ i → ∀ (h : Hp) (l : List Spt), l.length = n → OwnS N h v l → l.Perm l0 → SortedTo l i → Ext N h0 h → N ≤ h.n →
   L_slices_insertionSortCmpFunc_api_Spot_1 Q v (.int .i64 0) (.int .i64 n) (.fn (.func 91) [] []) (.int .i64 i) h := by
 intro k
 induction k with
 | zero =>
  intro i hk hi h l hl o hp hs x hNn
  apply r_slices_insertionSortCmpFunc_api_Spot_1
  unfold t_slices_insertionSortCmpFunc_api_Spot_1
  rw [pu_lssN, pu_cond_d]
  exact ⟨fun q => absurd q (by omega), fun _ => hq h l o hp (fun p q h1 h2 => hs p q h1 (by omega)) x hNn⟩
 | succ k ih =>
  intro i hk hi h l hl o hp hs x hNn
  apply r_slices_insertionSortCmpFunc_api_Spot_1
  unfold t_slices_insertionSortCmpFunc_api_Spot_1
  rw [pu_lssN, pu_cond_d]
  refine ⟨fun hin => ?_, fun q => absurd (by omega) q⟩
  have inner : ∀ (j : Nat), j ≤ i → ∀ (h : Hp) (l : List Spt), l.length = n → OwnS N h v l → l.Perm l0 → InsI l i j → Ext N h0 h → N ≤ h.n →
    L_slices_insertionSortCmpFunc_api_Spot_2 Q v (.int .i64 0) (.int .i64 n) (.fn (.func 91) [] []) (.int .i64 i) (.int .i64 j) h := by
   intro j
   induction j with
   | zero =>
    intro hj h l hl o hp I x hNn
    apply r_slices_insertionSortCmpFunc_api_Spot_2
    unfold t_slices_insertionSortCmpFunc_api_Spot_2
    rw [pu_gtr, decide_eq_false (by omega : ¬ ((0 : Int) < ((0 : Nat) : Int)))]
    simp only [pu_gval_ft, pu_geff_ft, pu_pick_f, pu_cond_f]
    rw [pu_inc _ _ _ _ (by omega)]
    refine ih (i + 1) (by omega) (by omega) h l hl o hp (fun p q h1 h2 => ?_) x hNn
    by_cases hp0 : p = 0
    ·subst hp0; exact I.b q h1 (by omega)
    ·exact I.a p q h1 (by omega) hp0 (by omega)
   | succ j ihj =>
    intro hj h l hl o hp I x hNn
    apply r_slices_insertionSortCmpFunc_api_Spot_2
    unfold t_slices_insertionSortCmpFunc_api_Spot_2
    rw [pu_gtr, decide_eq_true (by omega : ((0 : Int) < ((j + 1 : Nat) : Int)))]
    simp only [pu_gval_y, pu_geff_y, pu_pick_t]
    have hjl : j + 1 < l.length := by omega
    have hj0 : j < l.length := by omega
    have hsub : ∀ q : V → Prop, (Pu EE).bin .sub 3 false true (.int .i64 ((j + 1 : Nat) : Int)) (.int .i64 1) q ↔ q (.int .i64 (j : Nat)) := fun q => by
     rw [pu_sub, show (((j + 1 : Nat) : Int)) - 1 = ((j : Nat) : Int) by omega, w64 _ (by omega)]
    obtain ⟨b, hg, hbN, hbn, hbv, hia⟩ := own_addr o hjl
    obtain ⟨b', hg', _, _, hbv', hia'⟩ := own_addr o hj0
    have hbb : b' = b := by rw [hbv] at hbv'; exact (Option.some.inj hbv').symm
    subst hbb
    obtain ⟨p1, q1, g1, g2, _⟩ := sps_get o.sps s_sl_api_Spot l_api_Spot (gD_at hjl)
    obtain ⟨p2, q2, g3, g4, _⟩ := sps_get o.sps s_sl_api_Spot l_api_Spot (gD_at hj0)
    rw [g1, g2, hsub, g3, g4]
    refine ⟨(91, [spV (gD l (j + 1)), spV (gD l j)]), rfl, ?_⟩
    refine (cmp_ok (gD l (j + 1)) (gD l j) h).mono ?_
    rintro y h2 ⟨rfl, x2⟩
    have n2 := x2.n
    have o2 : OwnS N h2 v l := o.keep x2.n fun c hc => x2.old c (o.in_ c hc)
    rw [pu_lss, show decide (spCmpZ (gD l (j + 1)) (gD l j) < 0) = decide (spLt (gD l (j + 1)) (gD l j) = true) by rw [decide_eq_decide]; exact cmp_lt _ _, pu_cond_d]
    refine ⟨fun e => ?_, fun e => ?_⟩
    ·obtain ⟨p3, q3, g5, g6, _⟩ := sps_get o2.sps s_sl_api_Spot l_api_Spot (gD_at hjl)
     obtain ⟨p4, q4, g7, g8, _⟩ := sps_get o2.sps s_sl_api_Spot l_api_Spot (gD_at hj0)
     rw [hsub, hsub, g7, g8, g5, g6, hia]
     refine own_store o2 hjl hbv (gD l j) fun h3 o3 x3 n3 => ?_
     rw [hia']
     refine own_store o3 (by rw [List.length_set]; exact hj0) hbv (gD l (j + 1)) fun h4 o4 x4 n4 => ?_
     rw [hsub]
     have gs : ∀ p, gD ((l.set (j + 1) (gD l j)).set j (gD l (j + 1))) p = if p = j then gD l (j + 1) else if p = j + 1 then gD l j else gD l p := fun p => by
      rw [gD_set (by rw [List.length_set]; exact hj0), gD_set hjl]
     have hperm : ((l.set (j + 1) (gD l j)).set j (gD l (j + 1))).Perm l := by
      have := swap_perm (L := l) (i := j + 1) (k := j) hjl hj0
      exact this
     refine ihj (by omega) h4 _ (by simp [hl]) o4 (hperm.trans hp) ⟨fun p q hpq hq' hpj hqj => ?_, fun q hq1 hq2 => ?_⟩ (x.trans ((x2.mono hNn).trans (x3.trans x4))) (by omega)
     ·rw [gs, gs, if_neg hpj, if_neg hqj]
      by_cases p1 : p = j + 1
      ·rw [if_pos p1, if_neg (by omega)]
       exact I.a j q (by omega) hq' (by omega) (by omega)
      ·rw [if_neg p1]
       by_cases q1 : q = j + 1
       ·rw [if_pos q1]
        exact I.a p j (by omega) (by omega) p1 (by omega)
       ·rw [if_neg q1]
        exact I.a p q hpq hq' p1 q1
     ·rw [gs, gs, if_pos rfl, if_neg (by omega)]
      by_cases q1 : q = j + 1
      ·rw [if_pos q1]
       exact spLe_of_lt e
      ·rw [if_neg q1]
       exact I.b q (by omega) hq2
    ·rw [pu_inc _ _ _ _ (by omega)]
     have hle : spLe (gD l j) (gD l (j + 1)) := spLe_of_not e
     refine ih (i + 1) (by omega) (by omega) h2 l hl o2 hp (fun p q h1 h2 => ?_) (x.trans (x2.mono hNn)) (by omega)
     by_cases p1 : p = j + 1
     ·subst p1; exact I.b q h1 (by omega)
     ·by_cases q1 : q = j + 1
      ·subst q1
       by_cases p2 : p = j
       ·subst p2; exact hle
       ·exact (I.a p j (by omega) (by omega) p1 (by omega)).trans hle
      ·exact I.a p q h1 (by omega) p1 q1
  refine inner i (Nat.le_refl _) h l hl o hp ⟨fun p q h1 h2 h3 h4 => hs p q h1 (by omega), fun q h1 h2 => absurd h1 (by omega)⟩ x hNn
theorem insSort_ok (N : Nat) (h : Hp) (v : V) (l : List Spt) (o : OwnS N h v l) (hl : l.length ≤ 12) (hN : N ≤ h.n) : Ans EE 195 [v, .int .i64 0, .int .i64 l.length, .fn (.func 91) [] []] h fun x h' => ∃ l', OwnS N h' v l' ∧ l'.Perm l ∧ l'.Pairwise spLe ∧ Ext N h h' ∧ N ≤ h'.n := by
 apply a_slices_insertionSortCmpFunc_api_Spot
 unfold t_slices_insertionSortCmpFunc_api_Spot_0
 rw [show (0 : Int) = ((0 : Nat) : Int) from rfl, pu_inc _ _ _ _ (by omega)]
 refine ins_loop _ N l.length (by omega) l h v (fun h' l' o' p' s' x' n' => ⟨l', o', p', ?_, x', n'⟩) _ 1 rfl (Nat.le_refl _) h l rfl o (List.Perm.refl _) (fun p q h1 h2 => absurd h1 (by omega)) (Ext.refl _ _) hN
 refine List.pairwise_iff_getElem.2 fun p q hp hq hpq => ?_
 have := s' p q hpq hq
 unfold gD at this
 simpa [List.getD, hp, hq] using this
end
end Go.Proofs.YtbchdlelmkmagaaGreatDoor.VM
namespace Go.Proofs.YtbchdlelmkmagaaGreatDoor.VM
open Go
set_option linter.unusedVariables false
set_option linter.unusedSectionVars false
set_option linter.unusedSimpArgs false
set_option maxRecDepth 20000
noncomputable section
attribute [local instance] syZ
theorem i_uint : IsInt EE 180 .u64 := isInt (by kernel_rfl)
theorem pu_conv {s d : Nat} {k k' : IntKind} (hs : IsInt EE s k') (hd : IsInt EE d k) (h : Hp) (n : Int) (q : V → Prop) : (Pu EE).conv h s d (.int k' n) q ↔ q (.int k (k.wrap n)) := by
 obtain ⟨i, h1, _⟩ := hs
 obtain ⟨j, h2, h3⟩ := hd
 exact pu_conv_int h s d i j k k' h1 h2 h3 n q
theorem lenRun (n : Nat) (hn : n ≤ 12) (h : Hp) : ∃ k : Int, callOf EE (exec EE 100) 142 [.int .u64 n] h = some (.int .i64 k, h) := by
 rcases (by omega : n = 0 ∨ n = 1 ∨ n = 2 ∨ n = 3 ∨ n = 4 ∨ n = 5 ∨ n = 6 ∨ n = 7 ∨ n = 8 ∨ n = 9 ∨ n = 10 ∨ n = 11 ∨ n = 12) with rfl | rfl | rfl | rfl | rfl | rfl | rfl | rfl | rfl | rfl | rfl | rfl | rfl
 ·exact ⟨0, by kernel_rfl⟩
 ·exact ⟨1, by kernel_rfl⟩
 ·exact ⟨2, by kernel_rfl⟩
 ·exact ⟨2, by kernel_rfl⟩
 ·exact ⟨3, by kernel_rfl⟩
 ·exact ⟨3, by kernel_rfl⟩
 ·exact ⟨3, by kernel_rfl⟩
 ·exact ⟨3, by kernel_rfl⟩
 ·exact ⟨4, by kernel_rfl⟩
 ·exact ⟨4, by kernel_rfl⟩
 ·exact ⟨4, by kernel_rfl⟩
 ·exact ⟨4, by kernel_rfl⟩
 ·exact ⟨4, by kernel_rfl⟩
def SortPost (N : Nat) (v : V) (l : List Spt) (h' : Hp) : Prop := ∃ l', OwnS N h' v l' ∧ l'.Perm l ∧ l'.Pairwise spLe ∧ N ≤ h'.n
theorem pdq_ok (N : Nat) (h : Hp) (v : V) (l : List Spt) (z : Int) (o : OwnS N h v l) (hl : l.length ≤ 12) (hN : N ≤ h.n) : Ans EE 141 [v, .int .i64 0, .int .i64 l.length, .int .i64 z, .fn (.func 91) [] []] h fun x h' => SortPost N v l h' ∧ Ext N h h' := by
 apply a_slices_pdqsortCmpFunc_api_Spot
 unfold t_slices_pdqsortCmpFunc_api_Spot_0
 apply r_slices_pdqsortCmpFunc_api_Spot_1
 unfold t_slices_pdqsortCmpFunc_api_Spot_1
 rw [pu_sub, show (l.length : Int) - 0 = (l.length : Int) by omega, w64 _ (by omega), show (12 : Int) = ((12 : Nat) : Int) from rfl, leqN, decide_eq_true hl, pu_cond_t]
 refine (insSort_ok N h v l o hl hN).mono ?_
 rintro y h2 ⟨l', o', p', s', x', n'⟩
 exact ⟨⟨l', o', p', s', n'⟩, x'⟩
theorem sortF_ok (N : Nat) (h : Hp) (v : V) (l : List Spt) (o : OwnS N h v l) (hl : l.length ≤ 12) (hN : N ≤ h.n) : Ans EE 90 [v, .fn (.func 91) [] []] h fun x h' => SortPost N v l h' ∧ Ext N h h' := by
 apply a_slices_SortFunc_api_Spot_api_Spot
 unfold t_slices_SortFunc_api_Spot_api_Spot_0
 rw [pu_len o.sps s_sl_api_Spot, pu_conv i_int i_uint]
 have hw : IntKind.u64.wrap (l.length : Int) = (l.length : Int) := by
  unfold IntKind.wrap
  simp [IntKind.bits, IntKind.signed]
  omega
 rw [hw]
 obtain ⟨k, hk⟩ := lenRun l.length hl h
 refine Ans.mono (Q := fun x h' => x = .int .i64 k ∧ h' = h) ⟨_, _, ⟨100, hk⟩, rfl, rfl⟩ ?_
 rintro y h2 ⟨rfl, rfl⟩
 exact (pdq_ok N h2 v l k o hl hN).mono fun x h' q => q
theorem compact_ok (N : Nat) (h : Hp) (v : V) (l : List Spt) (o : OwnS N h v l) (hs : Ris l) (hl : l.length < 1000000) : Ans EE 93 [v] h fun x h' => x = v ∧ h' = h := by
 apply a_slices_Compact_api_Spot_api_Spot
 unfold t_slices_Compact_api_Spot_api_Spot_0
 rw [pu_len o.sps s_sl_api_Spot, show (2 : Int) = ((2 : Nat) : Int) from rfl, pu_lssN, pu_cond_d]
 refine ⟨fun _ => ⟨rfl, rfl⟩, fun h2 => ?_⟩
 have loop : ∀ (k i : Nat), l.length - i = k → 1 ≤ i → i ≤ l.length → L_slices_Compact_api_Spot_api_Spot_1 (fun x h' => x = v ∧ h' = h) v (.int .i64 i) h := by
  intro k
  induction k with
  | zero =>
   intro i hk hi hil
   apply r_slices_Compact_api_Spot_api_Spot_1
   unfold t_slices_Compact_api_Spot_api_Spot_1
   rw [pu_len o.sps s_sl_api_Spot, pu_lssN, pu_cond_d]
   exact ⟨fun q => absurd q (by omega), fun _ => ⟨rfl, rfl⟩⟩
  | succ k ih =>
   intro i hk hi hil
   apply r_slices_Compact_api_Spot_api_Spot_1
   unfold t_slices_Compact_api_Spot_api_Spot_1
   rw [pu_len o.sps s_sl_api_Spot, pu_lssN, pu_cond_d]
   refine ⟨fun hin => ?_, fun q => absurd (by omega) q⟩
   obtain ⟨b1, o1, g1, g2, _⟩ := sps_get o.sps s_sl_api_Spot l_api_Spot (List.getElem?_eq_getElem hin)
   obtain ⟨b2, o2, g3, g4, _⟩ := sps_get o.sps s_sl_api_Spot l_api_Spot (List.getElem?_eq_getElem (by omega : i - 1 < l.length))
   rw [g1, g2, pu_sub, show (i : Int) - 1 = ((i - 1 : Nat) : Int) by omega, w64 _ (by omega), g3, g4, pu_speq]
   have hne : l[i] ≠ l[i - 1] := fun e => by
    have := List.pairwise_iff_getElem.1 hs (i - 1) i (by omega) hin (by omega)
    rw [← e, spLt_irr] at this
    cases this
   rw [decide_eq_false hne, pu_cond_f, pu_inc _ _ _ _ (by omega)]
   exact ih (i + 1) (by omega) (by omega) (by omega)
 rw [show (1 : Int) = ((1 : Nat) : Int) from rfl]
 exact loop _ 1 rfl (Nat.le_refl _) (by omega)
def isNils : V → Bool
 | .nils => true
 | _ => false
theorem pu_slnil {N : Nat} {h : Hp} {v : V} {l : List Spt} (o : OwnS N h v l) (cx cy : Bool) (q : V → Prop) : (Pu EE).bin .eql 32 cx cy v .nils q ↔ q (.bool (isNils v)) := by
 obtain ⟨i, h1, h2⟩ := s_sl_api_Spot
 show (∃ u, vbinB EE .eql 32 cx cy v .nils = some u ∧ q u) ↔ _
 have : vbinB EE .eql 32 cx cy v .nils = some (.bool (isNils v)) := by
  have key : ∀ x : V, vbinB EE .eql 32 cx cy x .nils = eqOp .eql ((EE.ty.get 32).bind fun i => veq EE i x .nils) → vbinB EE .eql 32 cx cy x .nils = eqOp .eql (veq EE i x .nils) := fun x e => by rw [e, h1]; rfl
  rcases o.at_ with ⟨rfl, _⟩ | ⟨b, _, _, _, rfl | rfl⟩
  ·rw [key _ rfl]
   simp only [veq, h2]
   rfl
  ·rw [key _ rfl]
   simp only [veq, h2]
   rfl
  ·rw [key _ rfl]
   simp only [veq, h2]
   rfl
 rw [this, ex_some]
theorem clone_ok (N : Nat) (h : Hp) (v : V) (l : List Spt) (o : OwnS N h v l) (hl : l.length ≤ 1000000) : Ans EE 92 [v] h fun x h' => OwnS h.n h' x l ∧ Ext h.n h h' := by
 apply a_slices_Clone_api_Spot_api_Spot
 unfold t_slices_Clone_api_Spot_api_Spot_0
 rw [pu_slnil o, pu_cond]
 refine ⟨fun e => ?_, fun e => ?_⟩
 ·have hl0 : l = [] := by
   rcases o.at_ with ⟨_, h0⟩ | ⟨b, _, _, _, rfl | rfl⟩
   ·exact List.length_eq_zero_iff.1 h0
   ·cases e
   ·cases e
  subst hl0
  exact ⟨OwnS.nil _ _, Ext.refl _ _⟩
 ·rw [pu_bsl0 s_sl_api_Spot l_api_Spot]
  obtain ⟨h1, hh1⟩ : ∃ h1, h1 = h.new (.cells [] 42 false) := ⟨_, rfl⟩
  rw [← hh1]
  have n1 : h1.n = h.n + 1 := by rw [hh1]; rfl
  have x1 : Ext h.n h h1 := by rw [hh1]; exact Ext.new (Nat.le_refl _) _
  have o1 : Own h.n h1 (.sl h.n 0 0 0) 42 3 0 [] := ⟨by simp, .inr ⟨h.n, Nat.le_refl _, by omega, by rw [hh1, Hp.get_new, if_pos rfl], .inr rfl⟩⟩
  refine app_all o1 s_sl_api_Spot l_api_Spot (o.sps.ext x1 o.in_) (spCs_cells l) (by omega) (by omega) fun v2 h2 o2 x2 _ _ => ⟨?_, x1.trans x2⟩
  rw [Nat.zero_add, List.nil_append] at o2
  exact o2
theorem ris_of {l : List Spt} (h : l.Pairwise spLe) (hd : l.Nodup) : Ris l := by
 refine List.Pairwise.imp₂ (fun a b h1 h2 => ?_) h hd
 rcases h1.cases with e | e
 ·exact absurd e h2
 ·exact e
theorem rising_ok (N : Nat) (h : Hp) (v : V) (l : List Spt) (o : OwnS N h v l) (hl : l.length ≤ 12) (hN : N ≤ h.n) (hd : l.Nodup) : Ans EE 55 [v] h fun x h' => ∃ l', OwnS N h' x l' ∧ l'.Perm l ∧ Ris l' ∧ Ext N h h' := by
 apply a_deps_rising
 unfold t_deps_rising_0
 refine (sortF_ok N h v l o hl hN).mono ?_
 rintro y h2 ⟨⟨l', o', p', s', n'⟩, x'⟩
 have hr : Ris l' := ris_of s' (p'.nodup_iff.2 hd)
 have hlen := p'.length_eq
 refine (compact_ok N h2 v l' o' hr (by omega)).mono ?_
 rintro y h3 ⟨rfl, rfl⟩
 refine (clone_ok N h3 y l' o' (by omega)).mono ?_
 rintro z h4 ⟨o4, x4⟩
 exact ⟨l', o4.mono n', p', hr, x'.trans (x4.mono n')⟩
end
end Go.Proofs.YtbchdlelmkmagaaGreatDoor.VM
namespace Go.Proofs.YtbchdlelmkmagaaGreatDoor.VM
open Go
set_option linter.unusedVariables false
set_option linter.unusedSectionVars false
set_option linter.unusedSimpArgs false
set_option maxRecDepth 20000
noncomputable section
attribute [local instance] syZ
theorem pu_min (h : Hp) (ts : Array TypeId) (a b : Int) (q : V → Prop) : (Pu EE).lbui h ts .min [.int .i64 a, .int .i64 b] q ↔ q (.int .i64 (if b < a then b else a)) := by
 show (∃ v, lBuiltin EE h ts .min [.int .i64 a, .int .i64 b] = some v ∧ q v) ↔ _
 have : lBuiltin EE h ts .min [.int .i64 a, .int .i64 b] = some (.int .i64 (if b < a then b else a)) := by
  show vminS EE true [.int .i64 a, .int .i64 b] = _
  unfold vminS vmin
  simp only [vminF, keq_refl, cond_true, ilt_dec, mkInt_eq, Bool.cond_decide]
 rw [this, ex_some]
theorem w64m (n : Nat) (h : n < 1000000) : IntKind.i64.wrap ((n : Int) - 1) = (n : Int) - 1 := by
 unfold IntKind.wrap
 simp [IntKind.bits, IntKind.signed]
 omega
theorem min_guard (c t n : Nat) : decide ((c : Int) ≤ if (n : Int) - 1 < (t : Int) then (n : Int) - 1 else (t : Int)) = decide (c < min (t + 1) n) := by
 rw [decide_eq_decide]
 split <;> omega
theorem neqN (a : Nat) (b : Nat) (t : Nat) (cx cy : Bool) (q : V → Prop) : (Pu EE).bin .neq t cx cy (.int .i64 a) (.int .i64 b) q ↔ q (.bool (!decide (a = b))) := by
 rw [pu_neq]
 have : decide ((a : Int) = (b : Int)) = decide (a = b) := by rw [decide_eq_decide]; omega
 rw [this]
theorem own_fresh {N : Nat} {h : Hp} {v : V} {l : List Spt} (o : OwnS N h v l) {b : Nat} (hb : h.n ≤ b) : blkOf v ≠ some b := fun e => by
 have := o.in_ b e
 omega
def boxN (d : Nd) (tr tc : Nat) (t0 t3 t4 : V) : List V := [.int .i64 d.k, d.z 0, d.z 1, .str d.s, .int .i64 d.c, .int .i64 d.r, d.z 2, d.z 3, t0, .int .i64 tc, .int .i64 tr, t3, t4, d.z 7]
section
variable (Q : V → Hp → Prop) (M : Nat) (h0 : Hp) (bk : Bok) (sv nv : V) (nds : List Nd) (s : Spt) (b2 b3 : Nat)
structure DN (h : Hp) (v : V) (acc : List Spt) : Prop where
 bk : ShsAt M h sv bk
 box : h.t.get b2 = some (.cells [sv] 26 false)
 spot : h.t.get b3 = some (.cells (spC s) 42 false)
 nodes : NodesAt h0.n h nv nds
 own : OwnS h0.n h v acc
 ext : Ext h0.n h0 h
variable (hM : M ≤ h0.n) (hb2 : b2 < h0.n) (hb3 : b3 < h0.n) (g : Good bk) (tot : List Spt) (htot : tot.length ≤ 12)
include hM hb2 hb3
theorem DN.next {h h' : Hp} {v v' : V} {acc acc' : List Spt} (a : DN M h0 bk sv nv nds s b2 b3 h v acc) (x : Ext h0.n h h') (o : OwnS h0.n h' v' acc') : DN M h0 bk sv nv nds s b2 b3 h' v' acc' :=
 ⟨a.bk.ext (x.mono hM), by rw [x.old b2 hb2]; exact a.box, by rw [x.old b3 hb3]; exact a.spot, a.nodes.ext x, o, a.ext.trans x⟩
include g htot
theorem dn_l3 (i b8 : Nat) (d : Nd) (tr tc : Nat) (t0 t3 t4 : V) (nm : List Nat) (rv : V) (rows : List (List (List Nat))) (r : Nat) (row : List (List Nat)) (rest : List Spt) (hrow : rows[r]? = some row) (hrl : row.length < 1000000) (hrr : rows.length < 1000000) (hb8 : h0.n ≤ b8)
  (hnext : ∀ (h : Hp) (v : V) (acc : List Spt), DN M h0 bk sv nv nds s b2 b3 h v acc → RowsAt M h rv rows → h.t.get b8 = some (.cells (boxN d tr tc t0 t3 t4) 88 false) → blkOf v ≠ some b8 → b8 < h.n → acc ++ rest = tot →
   L_deps_Needs_2 Q (.ptr b2 0) (.ptr b3 0) v (.ptr b8 0) (.str nm) rv (.int .i64 (r + 1 : Nat)) nv (.int .i64 nds.length) (.int .i64 i) h) :
  ∀ (k c : Nat), min (tc + 1) row.length - c = k → ∀ (h : Hp) (v : V) (acc : List Spt), DN M h0 bk sv nv nds s b2 b3 h v acc → RowsAt M h rv rows → h.t.get b8 = some (.cells (boxN d tr tc t0 t3 t4) 88 false) → blkOf v ≠ some b8 → b8 < h.n →
   acc ++ (colsL nm r c (min (tc + 1) row.length) ++ rest) = tot → L_deps_Needs_3 Q (.ptr b2 0) (.ptr b3 0) v (.ptr b8 0) (.str nm) rv (.int .i64 r) (.int .i64 c) nv (.int .i64 nds.length) (.int .i64 i) h := by
 have hril := (List.getElem?_eq_some_iff.1 hrow).1
 intro k
 induction k with
 | zero =>
  intro c hk h v acc a hra h8 hne hbn he
  apply r_deps_Needs_3
  unfold t_deps_Needs_3
  obtain ⟨b5, o5, w5, m1, m2, m3⟩ := rows_get hra s_sl_sl_string l_sl_string hrow
  rw [fa_api_Node_4, fa_api_Ref_1, pu_load1 l_int h8 rfl, m1, m2, pu_len m3.1 s_sl_string, pu_sub, w64m _ hrl, pu_min, pu_leq, min_guard, pu_cond_d]
  refine ⟨fun h1 => absurd h1 (by omega), fun _ => ?_⟩
  rw [pu_inc _ _ _ _ (by omega)]
  rw [colsL_end (by omega), List.nil_append] at he
  exact hnext h v acc a hra h8 hne hbn he
 | succ k ih =>
  intro c hk h v acc a hra h8 hne hbn he
  apply r_deps_Needs_3
  unfold t_deps_Needs_3
  obtain ⟨b5, o5, w5, m1, m2, m3⟩ := rows_get hra s_sl_sl_string l_sl_string hrow
  rw [fa_api_Node_4, fa_api_Ref_1, pu_load1 l_int h8 rfl, m1, m2, pu_len m3.1 s_sl_string, pu_sub, w64m _ hrl, pu_min, pu_leq, min_guard, pu_cond_d]
  refine ⟨fun h1 => ?_, fun h1 => absurd (by omega) h1⟩
  rw [mk_spot]
  rw [colsL_step h1] at he
  have hl : acc.length + 1 ≤ 1048576 := by
   have := congrArg List.length he
   simp only [List.length_append, List.cons_append, List.length_cons] at this
   omega
  refine append_spot a.own _ hl a.ext.n _ fun v' h' o' x hkeep hblk => ?_
  rw [pu_inc _ _ _ _ (by omega)]
  refine ih (c + 1) (by omega) h' v' (acc ++ [⟨nm, r, c⟩]) (a.next M h0 bk sv nv nds s b2 b3 hM hb2 hb3 x o') (hra.ext (x.mono hM)) (by rw [hkeep b8 hbn hne]; exact h8) (fun e => ?_) (Nat.lt_of_lt_of_le hbn ?_) ?_
  ·rcases hblk b8 e with e' | e'
   ·exact hne e'
   ·omega
  ·exact x.n
  ·rw [← he]
   simp
theorem dn_l2 (i b8 : Nat) (d : Nd) (tr tc r0 : Nat) (t0 t3 t4 : V) (nm : List Nat) (rv : V) (rows : List (List (List Nat))) (rest : List Spt) (hrl : ∀ row ∈ rows, row.length < 1000000) (hrr : rows.length < 1000000) (hb8 : h0.n ≤ b8) (hi : i < 1000000)
  (hnext : ∀ (h : Hp) (v : V) (acc : List Spt), DN M h0 bk sv nv nds s b2 b3 h v acc → acc ++ rest = tot → L_deps_Needs_1 Q (.ptr b2 0) (.ptr b3 0) v nv (.int .i64 nds.length) (.int .i64 (i + 1 : Nat)) h) :
  ∀ (k r : Nat), min (tr + 1) rows.length - r = k → ∀ (h : Hp) (v : V) (acc : List Spt), DN M h0 bk sv nv nds s b2 b3 h v acc → RowsAt M h rv rows → h.t.get b8 = some (.cells (boxN d tr tc t0 t3 t4) 88 false) → blkOf v ≠ some b8 → b8 < h.n →
   acc ++ (rowsL ⟨nm, r0, d.c, tr, tc⟩ rows k r ++ rest) = tot → L_deps_Needs_2 Q (.ptr b2 0) (.ptr b3 0) v (.ptr b8 0) (.str nm) rv (.int .i64 r) nv (.int .i64 nds.length) (.int .i64 i) h := by
 intro k
 induction k with
 | zero =>
  intro r hk h v acc a hra h8 hne hbn he
  apply r_deps_Needs_2
  unfold t_deps_Needs_2
  obtain ⟨us, hu⟩ := hra.rd
  rw [fa_api_Node_4, fa_api_Ref_2, pu_load1 l_int h8 rfl, pu_len hu s_sl_sl_string, pu_sub, w64m _ hrr, pu_min, pu_leq, min_guard, pu_cond_d]
  refine ⟨fun h1 => absurd h1 (by omega), fun _ => ?_⟩
  rw [pu_inc _ _ _ _ (by omega)]
  rw [rowsL, List.nil_append] at he
  exact hnext h v acc a he
 | succ k ih =>
  intro r hk h v acc a hra h8 hne hbn he
  apply r_deps_Needs_2
  unfold t_deps_Needs_2
  obtain ⟨us, hu⟩ := hra.rd
  rw [fa_api_Node_4, fa_api_Ref_2, pu_load1 l_int h8 rfl, pu_len hu s_sl_sl_string, pu_sub, w64m _ hrr, pu_min, pu_leq, min_guard, pu_cond_d]
  refine ⟨fun h1 => ?_, fun h1 => absurd (by omega) h1⟩
  rw [fa_api_Node_3, fa_api_Ref_1, pu_load1 l_int h8 rfl]
  have hrow : rows[r]? = some rows[r] := List.getElem?_eq_getElem (by omega)
  rw [rowsL, hrow] at he
  simp only [Option.getD_some, List.append_assoc] at he
  exact dn_l3 Q M h0 bk sv nv nds s b2 b3 hM hb2 hb3 g tot htot i b8 d tr tc t0 t3 t4 nm rv rows r rows[r] _ hrow (hrl _ (List.mem_of_getElem? hrow)) hrr hb8
   (fun h' v' acc' a' hra' h8' hne' hbn' he' => ih (r + 1) (by omega) h' v' acc' a' hra' h8' hne' hbn' he') _ d.c rfl h v acc a hra h8 hne hbn he
theorem dn_l5 (i b8 : Nat) (d : Nd) (tr tc : Nat) (t0 t3 t4 : V) (nm : List Nat) (rest : List Spt) (hb8 : h0.n ≤ b8) (hi : i < 1000000)
  (hnext : ∀ (h : Hp) (v : V) (acc : List Spt), DN M h0 bk sv nv nds s b2 b3 h v acc → acc ++ rest = tot → L_deps_Needs_1 Q (.ptr b2 0) (.ptr b3 0) v nv (.int .i64 nds.length) (.int .i64 (i + 1 : Nat)) h)
  (h : Hp) (v : V) (acc : List Spt) (a : DN M h0 bk sv nv nds s b2 b3 h v acc) (h8 : h.t.get b8 = some (.cells (boxN d tr tc t0 t3 t4) 88 false)) (hne : blkOf v ≠ some b8) (hbn : b8 < h.n)
  (he : acc ++ (rectL bk ⟨nm, d.r, d.c, tr, tc⟩ ++ rest) = tot) : L_deps_Needs_5 Q (.ptr b2 0) (.ptr b3 0) v (.ptr b8 0) (.str nm) nv (.int .i64 nds.length) (.int .i64 i) h := by
 apply r_deps_Needs_5
 unfold t_deps_Needs_5
 have hxn := a.ext.n
 rw [pu_loadS l_api_Book a.box (l := [sv]) rfl]
 refine (pfind_ok M h _ bk nm ⟨sv, rfl, a.bk⟩ (by omega) g.fit.len).mono ?_
 rintro y h2 ⟨rfl, hx⟩
 have hn2 := hx.n
 have a2 : DN M h0 bk sv nv nds s b2 b3 h2 v acc := a.next M h0 bk sv nv nds s b2 b3 hM hb2 hb3 (hx.mono hxn) (a.own.keep hx.n fun c hc => hx.old c (a.own.in_ c hc))
 have h82 : h2.t.get b8 = some (.cells (boxN d tr tc t0 t3 t4) 88 false) := by rw [hx.old b8 hbn]; exact h8
 unfold findZ
 cases hf : findN bk nm 0 with
 | none =>
  have hr := findN_none hf
  simp only
  rw [pu_lss, decide_eq_true (by decide : (-1 : Int) < 0), pu_cond_t, pu_inc _ _ _ _ (by omega)]
  refine hnext h2 v acc a2 ?_
  rw [← he]
  unfold rectL
  rw [hr]
  rfl
 | some j =>
  obtain ⟨_, t, ht, hnm, hfr⟩ := findN_some hf
  rw [Nat.sub_zero] at ht
  simp only
  rw [pu_lss, decide_eq_false (by omega : ¬ (j : Int) < 0), pu_cond_f]
  obtain ⟨b4, o4, rv, g1, g2, g3, vs, f, ro, g4, g5⟩ := sht_get a2.bk s_sl_api_Sheet l_api_Sheet ht
  rw [fa_api_Book_0, pu_load1 l_sl_api_Sheet a2.box rfl, g1, fa_api_Sheet_2, pu_load1 l_sl_sl_string g4 (g5 2 _ rfl), fa_api_Node_3, fa_api_Ref_2, pu_load1 l_int h82 rfl]
  have hrl := g.fit.rows t (List.mem_of_getElem? ht)
  unfold rectL at he
  rw [hfr] at he
  exact dn_l2 Q M h0 bk sv nv nds s b2 b3 hM hb2 hb3 g tot htot i b8 d tr tc d.r t0 t3 t4 nm rv t.rows rest hrl.2 hrl.1 hb8 hi hnext _ d.r rfl h2 v acc a2 g3 h82 hne (by omega) he
theorem dn_l4 (i b8 : Nat) (d : Nd) (tr tc : Nat) (t0 t3 t4 : V) (rest : List Spt) (hb8 : h0.n ≤ b8) (hi : i < 1000000)
  (hnext : ∀ (h : Hp) (v : V) (acc : List Spt), DN M h0 bk sv nv nds s b2 b3 h v acc → acc ++ rest = tot → L_deps_Needs_1 Q (.ptr b2 0) (.ptr b3 0) v nv (.int .i64 nds.length) (.int .i64 (i + 1 : Nat)) h)
  (h : Hp) (v : V) (acc : List Spt) (a : DN M h0 bk sv nv nds s b2 b3 h v acc) (h8 : h.t.get b8 = some (.cells (boxN d tr tc t0 t3 t4) 88 false)) (hne : blkOf v ≠ some b8) (hbn : b8 < h.n)
  (he : acc ++ (rectL bk ⟨if d.s = [] then s.s else d.s, d.r, d.c, tr, tc⟩ ++ rest) = tot) : L_deps_Needs_4 Q (.ptr b2 0) (.ptr b3 0) v (.ptr b8 0) nv (.int .i64 nds.length) (.int .i64 i) h := by
 apply r_deps_Needs_4
 unfold t_deps_Needs_4
 rw [fa_api_Node_3, fa_api_Ref_0, pu_load1 l_string h8 rfl, pu_seql, pu_cond_d]
 refine ⟨fun e => ?_, fun e => ?_⟩
 ·rw [fa_api_Spot_0, pu_load1 l_string a.spot rfl]
  rw [if_pos e] at he
  exact dn_l5 Q M h0 bk sv nv nds s b2 b3 hM hb2 hb3 g tot htot i b8 d tr tc t0 t3 t4 s.s rest hb8 hi hnext h v acc a h8 hne hbn he
 ·rw [if_neg e] at he
  exact dn_l5 Q M h0 bk sv nv nds s b2 b3 hM hb2 hb3 g tot htot i b8 d tr tc t0 t3 t4 d.s rest hb8 hi hnext h v acc a h8 hne hbn he
theorem dn_l1 (hnl : nds.length < 1000000) (hnd : tot.Nodup) (hq : ∀ (x : V) (h' : Hp) (l' : List Spt), OwnS h0.n h' x l' → l'.Perm tot → Ris l' → Ext h0.n h0 h' → Q x h') :
  ∀ (k i : Nat), nds.length - i = k → i ≤ nds.length → ∀ (h : Hp) (v : V) (acc : List Spt), DN M h0 bk sv nv nds s b2 b3 h v acc → acc ++ (rectsN s.s (nds.drop i)).flatMap (rectL bk) = tot →
   L_deps_Needs_1 Q (.ptr b2 0) (.ptr b3 0) v nv (.int .i64 nds.length) (.int .i64 i) h := by
 intro k
 induction k with
 | zero =>
  intro i hk hi h v acc a he
  apply r_deps_Needs_1
  unfold t_deps_Needs_1
  rw [pu_lssN, pu_cond_d]
  refine ⟨fun h1 => absurd h1 (by omega), fun _ => ?_⟩
  rw [List.drop_eq_nil_of_le (by omega : nds.length ≤ i)] at he
  have e : acc = tot := by simpa [rectsN] using he
  subst e
  refine (rising_ok h0.n h v acc a.own htot a.ext.n hnd).mono ?_
  rintro x h' ⟨l', o', p', r', x'⟩
  exact hq x h' l' o' p' r' (a.ext.trans x')
 | succ k ih =>
  intro i hk hi h v acc a he
  apply r_deps_Needs_1
  unfold t_deps_Needs_1
  rw [pu_lssN, pu_cond_d]
  refine ⟨fun h1 => ?_, fun h1 => absurd (by omega) h1⟩
  obtain ⟨d, hd⟩ : ∃ d, d = nds[i] := ⟨_, rfl⟩
  have hdl : nds[i]? = some d := by rw [hd]; exact List.getElem?_eq_getElem h1
  obtain ⟨b1, o1, g1, g2⟩ := nd_get a.nodes hdl
  have hcell := a.nodes.cell d (List.mem_of_getElem? hdl)
  rw [g1, g2]
  have hxn := a.ext.n
  refine pu_allocX l_api_Node fun h2 b8 w8 => ?_
  refine pu_storeX l_api_Node w8.at_ (x := .agg d.cells) rfl hcell (r := d.cells) rfl fun h3 w9 => ?_
  have n2 := w8.n
  have e2 := w8.b
  have n3 := w9.n
  have x3 : Ext h0.n h h3 := (w8.ext hxn).trans (w9.ext (by omega))
  have o3 : OwnS h0.n h3 v acc := a.own.keep (by omega) fun c hc => by
   have := a.own.in_ c hc
   rw [w9.other c (by omega), w8.old c (by omega)]
  have hne : blkOf v ≠ some b8 := own_fresh a.own (by omega)
  have a3 : DN M h0 bk sv nv nds s b2 b3 h3 v acc := a.next M h0 bk sv nv nds s b2 b3 hM hb2 hb3 x3 o3
  rw [drop_cons h1, ← hd] at he
  have nx : ∀ (h' : Hp) (v' : V) (acc' : List Spt), DN M h0 bk sv nv nds s b2 b3 h' v' acc' → acc' ++ (rectsN s.s (nds.drop (i + 1))).flatMap (rectL bk) = tot → L_deps_Needs_1 Q (.ptr b2 0) (.ptr b3 0) v' nv (.int .i64 nds.length) (.int .i64 (i + 1 : Nat)) h' :=
   fun h' v' acc' a' he' => ih (i + 1) (by omega) (by omega) h' v' acc' a' he'
  rw [fa_api_Node_0, pu_load1 l_int w9.at_ rfl, show (5 : Int) = ((5 : Nat) : Int) from rfl, eqlN, pu_cond_d]
  refine ⟨fun q5 => ?_, fun q5 => ?_⟩
  ·rw [fa_api_Node_3, pu_loadS l_api_Ref w9.at_ (l := [.str d.s, .int .i64 d.c, .int .i64 d.r, d.z 2, d.z 3]) rfl, fa_api_Node_4]
   have hc3 : allCells [V.str d.s, .int .i64 d.c, .int .i64 d.r, d.z 2, d.z 3] = true := by
    refine allCells_iff.2 fun u hu => allCells_iff.1 hcell u ?_
    simp only [List.mem_cons, List.not_mem_nil, or_false] at hu
    rcases hu with rfl | rfl | rfl | rfl | rfl <;> simp [Nd.cells]
   refine pu_storeX l_api_Ref w9.at_ (x := .agg [.str d.s, .int .i64 d.c, .int .i64 d.r, d.z 2, d.z 3]) rfl hc3 (r := boxN d d.r d.c (.str d.s) (d.z 2) (d.z 3)) rfl fun h4 w10 => ?_
   have n4 := w10.n
   have x4 : Ext h0.n h3 h4 := w10.ext (by omega)
   have o4 : OwnS h0.n h4 v acc := o3.keep (by omega) fun c hc => w10.other c fun e => hne (e ▸ hc)
   have a4 := a3.next M h0 bk sv nv nds s b2 b3 hM hb2 hb3 x4 o4
   refine dn_l4 Q M h0 bk sv nv nds s b2 b3 hM hb2 hb3 g tot htot i b8 d d.r d.c _ _ _ _ (by omega) (by omega) nx h4 v acc a4 w10.at_ hne (by omega) ?_
   rw [← he]
   have : rectsN s.s (d :: nds.drop (i + 1)) = ⟨if d.s = [] then s.s else d.s, d.r, d.c, d.r, d.c⟩ :: rectsN s.s (nds.drop (i + 1)) := by
    unfold rectsN
    rw [List.filterMap_cons]
    simp [Nd.rect, q5]
   rw [this, List.flatMap_cons]
  ·rw [fa_api_Node_0, pu_load1 l_int w9.at_ rfl, show (6 : Int) = ((6 : Nat) : Int) from rfl, neqN, pu_cond_n]
   refine ⟨fun q6 => ?_, fun q6 => ?_⟩
   ·rw [pu_inc _ _ _ _ (by omega)]
    refine nx h3 v acc a3 ?_
    rw [← he]
    have : rectsN s.s (d :: nds.drop (i + 1)) = rectsN s.s (nds.drop (i + 1)) := by
     unfold rectsN
     rw [List.filterMap_cons]
     simp [Nd.rect, q5, q6]
    rw [this]
   ·refine dn_l4 Q M h0 bk sv nv nds s b2 b3 hM hb2 hb3 g tot htot i b8 d d.r1 d.c1 (d.z 4) (d.z 5) (d.z 6) _ (by omega) (by omega) nx h3 v acc a3 w9.at_ hne (by omega) ?_
    rw [← he]
    have : rectsN s.s (d :: nds.drop (i + 1)) = ⟨if d.s = [] then s.s else d.s, d.r, d.c, d.r1, d.c1⟩ :: rectsN s.s (nds.drop (i + 1)) := by
     unfold rectsN
     rw [List.filterMap_cons]
     simp [Nd.rect, q5, q6]
    rw [this, List.flatMap_cons]
end
theorem ris_needs {bk : Bok} (hb : Rises bk) (ks : List Rct) {l : List Spt} (hp : l.Perm (ks.flatMap (rectL bk))) (hs : Ris l) : l = needsR ks bk := by
 have h1 := needs_law hb ks hp (hs.imp fun q => spLe_of_lt q)
 rw [← h1]
 exact ris_ext hs (compL_ris l (hs.imp fun q => spLe_of_lt q)) fun a => (compL_mem l a).symm
def Few (bk : Bok) (s : Spt) : Prop := ((rectsT s.s (getC bk s)).flatMap (rectL bk)).length ≤ 12 ∧ ((rectsT s.s (getC bk s)).flatMap (rectL bk)).Nodup
theorem dneeds_ok (M : Nat) (h : Hp) (v : V) (bk : Bok) (s : Spt) (hv : BokAt M h v bk) (hM : M ≤ h.n) (g : Good bk) (hw : Few bk s) : Ans EE 27 [v, spV s] h fun x h' => OwnS h.n h' x (ndR bk s) ∧ Ext h.n h h' := by
 have hv0 := hv
 obtain ⟨sv, rfl, hs⟩ := hv
 obtain ⟨cs, hrd⟩ := hs.rd
 have hcell : allCells [sv] = true := by have := hrd.c1; simp [allCells, this.2]
 apply a_deps_Needs
 unfold t_deps_Needs_0
 refine pu_boxX (cs := [sv]) hcell fun h1 b1 w1 => ?_
 refine pu_boxX (cs := spC s) rfl fun h2 b2 w2 => ?_
 have n1 := w1.n
 have n2 := w2.n
 have e1 := w1.b
 have e2 := w2.b
 have hx2 : Ext h.n h h2 := (w1.ext (Nat.le_refl h.n)).trans (w2.ext (by omega))
 have hb1 : h2.t.get b1 = some (.cells [sv] 26 false) := by rw [w2.old b1 (by omega)]; exact w1.at_
 rw [pu_loadS l_api_Book hb1 (l := [sv]) rfl, pu_loadS l_api_Spot w2.at_ (l := spC s) rfl]
 refine (pget_ok M h2 _ bk s (hv0.ext (hx2.mono hM)) (by omega) g.fit.len).mono ?_
 rintro y h3 ⟨rfl, hx3⟩
 have n3 := hx3.n
 have ht := g.get s
 refine (pform_ok ht h3).mono ?_
 rintro y h4 ⟨hx4, hp⟩
 have n4 := hx4.n
 have x4 : Ext h2.n h2 h4 := hx3.trans (hx4.mono n3)
 have xx : Ext h.n h h4 := hx2.trans (x4.mono (by omega))
 have hrt := rectsT_prog ht s.s
 cases hf : formP (getC bk s) with
 | none =>
  rw [hf] at hp
  simp only at hp
  subst hp
  rw [pu_extr0, pu_extr1, pu_not]
  simp only [Bool.not_false, pu_cond_t]
  have hr : formR (getC bk s) = none := by
   have := ht.some_
   rw [hf] at this
   cases q : formR (getC bk s) with
   | none => rfl
   | some b => rw [q] at this; cases this
  rw [ndR_none hr]
  exact ⟨OwnS.nil _ _, xx⟩
 | some ds =>
  rw [hf] at hp hrt
  obtain ⟨nv, ds', rfl, hnd, hlen, hrc⟩ := hp
  simp only at hrt
  rw [pu_extr0, pu_extr1, pu_not]
  simp only [Bool.not_true, pu_cond_f]
  have hfew : ds.length ≤ 20 := by
   have := ht.some_
   rw [hf] at this
   cases q : formR (getC bk s) with
   | none => rw [q] at this; cases this
   | some b => exact (ht.few ds b hf q).1
  rw [pu_len hnd.rd s_sl_api_Node]
  have hnodes : NodesAt h4.n h4 nv ds' := hnd
  refine dn_l1 _ M h4 bk sv nv ds' s b1 b2 (by omega) (by omega) (by omega) g ((rectsT s.s (getC bk s)).flatMap (rectL bk)) hw.1 (by omega) hw.2 (fun x h' l' o' p' r' x' => ⟨?_, xx.trans (x'.mono (by omega))⟩) _ 0 rfl (by omega) h4 .nils []
   ⟨(hs.ext (hx2.mono hM)).ext (x4.mono (by omega)), by rw [x4.old b1 (by omega)]; exact hb1, by rw [x4.old b2 (by omega)]; exact w2.at_, hnodes, OwnS.nil _ _, Ext.refl _ _⟩ ?_
  ·rw [List.drop_zero, List.nil_append, hrc, hrt]
  ·have := ris_needs g.ris _ p' r'
   rw [this] at o'
   exact o'.mono (by omega)
end
end Go.Proofs.YtbchdlelmkmagaaGreatDoor.VM
namespace Go.Proofs.YtbchdlelmkmagaaGreatDoor.VM
open Go
set_option linter.unusedVariables false
set_option linter.unusedSectionVars false
set_option linter.unusedSimpArgs false
set_option maxRecDepth 20000
noncomputable section
attribute [local instance] syZ
def cellT (ns : List Nat) (p : Nat) : List Nat := match ns[p]? with
 | some n => txt n
 | none => []
def rowT (ns : List Nat) (C p : Nat) : List (List Nat) := (List.range C).map fun c => cellT ns (p + c)
def rowsT (ns : List Nat) (C R p : Nat) : List (List (List Nat)) := (List.range R).map fun r => rowT ns C (p + r * C)
def nS (sh : Nat) : Nat := 1 + sh % 3
def nC (sh : Nat) : Nat := 1 + sh / 3 % 4
def nR (sh : Nat) : Nat := 1 + sh / 12 % 5
def nameT (sh i : Nat) : List Nat := [65 + i + sh / 64 * i]
def shtT (ns : List Nat) (sh i : Nat) : Sht := ⟨nameT sh i, nC sh, rowsT ns (nC sh) (nR sh) (i * (nR sh * nC sh))⟩
def bookT (ns : List Nat) (sh : Nat) : Bok := (List.range (nS sh)).map (shtT ns sh)
theorem nil_in : ([] : List Nat) ∈ textL := txt_in (n := 0) (by omega)
theorem cell_in {ns : List Nat} (h : ∀ n ∈ ns, n < 256) (p : Nat) : cellT ns p ∈ textL := by
 unfold cellT
 split
 ·rename_i n hn; exact txt_in (h n (List.mem_of_getElem? hn))
 ·exact nil_in
def TextsIn (bk : Bok) : Prop := ∀ s ∈ bk, ∀ row ∈ s.rows, ∀ t ∈ row, t ∈ textL
theorem getC_in {bk : Bok} (h : TextsIn bk) (s : Spt) : getC bk s ∈ textL := by
 unfold getC
 split
 ·exact nil_in
 ·rename_i t ht
  split
  ·exact nil_in
  ·rename_i row hrow
   cases hc : row[s.c]? with
   | none => exact nil_in
   | some x => exact h t (List.mem_of_find?_eq_some ht) row (List.mem_of_getElem? hrow) x (List.mem_of_getElem? hc)
def rk (k : Rct) : Nat × Nat × Nat × Nat := (k.r0, k.c0, k.r1, k.c1)
theorem rects_rk (own : List Nat) : ∀ l : List Nd, (rectsN own l).map rk = (rectsN [0] l).map rk
 | [] => rfl
 | d :: l => by
  have ih := rects_rk own l
  unfold rectsN at ih ⊢
  have e : (Nd.rect own d).map rk = (Nd.rect [0] d).map rk := by
   unfold Nd.rect
   split
   ·rfl
   ·split
    ·rfl
    ·rfl
  cases h1 : Nd.rect own d with
  | none =>
   cases h2 : Nd.rect [0] d with
   | none => rw [List.filterMap_cons_none h1, List.filterMap_cons_none h2, ih]
   | some b => rw [h1, h2] at e; cases e
  | some a =>
   cases h2 : Nd.rect [0] d with
   | none => rw [h1, h2] at e; cases e
   | some b =>
    rw [h1, h2] at e
    rw [List.filterMap_cons_some h1, List.filterMap_cons_some h2, List.map_cons, List.map_cons, ih]
    simp only [Option.map_some, Option.some.injEq] at e
    rw [e]
def szR (q : Nat × Nat × Nat × Nat) : Nat := (q.2.2.1 + 1 - q.1) * (q.2.2.2 + 1 - q.2.1)
def apartR (a b : Nat × Nat × Nat × Nat) : Bool := Nat.blt a.2.2.1 b.1 || Nat.blt b.2.2.1 a.1 || Nat.blt a.2.2.2 b.2.1 || Nat.blt b.2.2.2 a.2.1
def apartL : List (Nat × Nat × Nat × Nat) → Bool
 | [] => true
 | a :: l => l.all (apartR a) && apartL l
def sumR : List (Nat × Nat × Nat × Nat) → Nat
 | [] => 0
 | a :: l => szR a + sumR l
def fewOK (t : List Nat) : Bool := match formR t with
 | none => true
 | some l => Nat.ble (sumR ((rectsN [0] l).map rk)) 12 && apartL ((rectsN [0] l).map rk)
theorem few_ok : textL.all fewOK = true := by kernel_rfl
theorem colsL_len (nm : List Nat) (r a b : Nat) : (colsL nm r a b).length = b - a := by unfold colsL; simp
theorem rowsL_len (k : Rct) (rows : List (List (List Nat))) : ∀ (n r : Nat), (rowsL k rows n r).length ≤ n * (k.c1 + 1 - k.c0)
 | 0, r => by simp [rowsL]
 | n + 1, r => by
  rw [rowsL, List.length_append, colsL_len, Nat.succ_mul]
  have := rowsL_len k rows n (r + 1)
  omega
theorem rectL_len (bk : Bok) (k : Rct) : (rectL bk k).length ≤ szR (rk k) := by
 unfold rectL
 split
 ·simp
 ·refine Nat.le_trans (rowsL_len _ _ _ _) ?_
  unfold szR rk
  exact Nat.mul_le_mul_right _ (by simp only; omega)
theorem colsL_ris (nm : List Nat) (r a b : Nat) : Ris (colsL nm r a b) := by
 unfold colsL Ris
 rw [List.pairwise_map]
 refine List.Pairwise.imp (fun {x y} h => ?_) List.pairwise_lt_range
 rw [spLt_iff]
 exact .inr ⟨rfl, .inr ⟨rfl, by simp only; omega⟩⟩
theorem rowsL_ris (k : Rct) (rows : List (List (List Nat))) : ∀ (n r : Nat), Ris (rowsL k rows n r)
 | 0, r => List.Pairwise.nil
 | n + 1, r => by
  rw [rowsL]
  refine List.pairwise_append.2 ⟨colsL_ris _ _ _ _, rowsL_ris k rows n (r + 1), fun a ha b hb => ?_⟩
  obtain ⟨h1, h2, _⟩ := colsL_mem.1 ha
  obtain ⟨h3, h4, _⟩ := rowsL_mem.1 hb
  rw [spLt_iff]
  exact .inr ⟨by rw [h1, h3], .inl (by omega)⟩
theorem rectL_nodup (bk : Bok) (k : Rct) : (rectL bk k).Nodup := by
 unfold rectL
 split
 ·exact List.nodup_nil
 ·exact (rowsL_ris _ _ _ _).nodup
theorem apart_disj {bk : Bok} (hb : Rises bk) {a b : Rct} (h : apartR (rk a) (rk b) = true) {x : Spt} (h1 : x ∈ rectL bk a) (h2 : x ∈ rectL bk b) : False := by
 have k1 := ((rectL_mem hb).1 h1).1
 have k2 := ((rectL_mem hb).1 h2).1
 simp only [Rct.has, Bool.and_eq_true, decide_eq_true_iff] at k1 k2
 simp only [apartR, rk, Bool.or_eq_true, Nat.blt_eq] at h
 omega
theorem few_rects {bk : Bok} (hb : Rises bk) : ∀ (ks : List Rct), apartL (ks.map rk) = true → (ks.flatMap (rectL bk)).length ≤ sumR (ks.map rk) ∧ (ks.flatMap (rectL bk)).Nodup
 | [], _ => by simp [sumR]
 | a :: l, h => by
  simp only [List.map_cons, apartL, Bool.and_eq_true, List.all_eq_true] at h
  obtain ⟨h1, h2⟩ := few_rects hb l h.2
  rw [List.flatMap_cons, List.map_cons, sumR, List.length_append]
  refine ⟨by have := rectL_len bk a; omega, List.nodup_append.2 ⟨rectL_nodup bk a, h2, fun x hx y hy e => ?_⟩⟩
  subst e
  obtain ⟨b, hb1, hb2⟩ := List.mem_flatMap.1 hy
  exact apart_disj hb (h.1 (rk b) (List.mem_map_of_mem hb1)) hx hb2
theorem few_of {bk : Bok} (hb : Rises bk) (s : Spt) (ht : getC bk s ∈ textL) : Few bk s := by
 have hk := List.all_eq_true.1 few_ok _ ht
 unfold Few rectsT
 unfold fewOK at hk
 split at hk
 ·rename_i e
  rw [e]
  simp
 ·rename_i l e
  rw [e]
  simp only [Bool.and_eq_true, Nat.ble_eq] at hk
  have e2 := rects_rk s.s l
  rw [← e2] at hk
  obtain ⟨h1, h2⟩ := few_rects hb (rectsN s.s l) hk.2
  show ((rectsN s.s l).flatMap (rectL bk)).length ≤ 12 ∧ ((rectsN s.s l).flatMap (rectL bk)).Nodup
  exact ⟨by have := hk.1; omega, h2⟩
section
variable {ns : List Nat} {sh : Nat}
theorem book_in (h : ∀ n ∈ ns, n < 256) : TextsIn (bookT ns sh) := fun s hs row hr t ht => by
 unfold bookT at hs
 obtain ⟨i, _, rfl⟩ := List.mem_map.1 hs
 unfold shtT rowsT at hr
 obtain ⟨r, _, rfl⟩ := List.mem_map.1 hr
 unfold rowT at ht
 obtain ⟨c, _, rfl⟩ := List.mem_map.1 ht
 exact cell_in h _
theorem book_ris : Rises (bookT ns sh) := by
 unfold bookT Rises
 rw [List.pairwise_map]
 refine List.Pairwise.imp (fun {x y} h => ?_) List.pairwise_lt_range
 unfold shtT nameT
 rw [slt_cons]
 left
 have := Nat.mul_le_mul_left (sh / 64) (Nat.le_of_lt h)
 omega
theorem allSpots_len (R C : Nat) : ∀ (bk : Bok), (∀ s ∈ bk, s.rows.length ≤ R ∧ ∀ row ∈ s.rows, row.length ≤ C) → (allSpots bk).length ≤ bk.length * (R * C)
 | [], _ => by simp [allSpots]
 | s :: bk, h => by
  have h1 := allSpots_len R C bk fun t ht => h t (by simp [ht])
  have h2 : ∀ (rows : List (List (List Nat))) (r : Nat), (∀ row ∈ rows, row.length ≤ C) → (rowsSpots s.name r rows).length ≤ rows.length * C := by
   intro rows
   induction rows with
   | nil => intro r _; simp [rowsSpots]
   | cons row rows ih =>
    intro r hr
    rw [rowsSpots, List.length_append, List.length_cons, Nat.succ_mul]
    have := ih (r + 1) fun x hx => hr x (by simp [hx])
    have h3 : (rowSpots s.name r row).length = row.length := by unfold rowSpots; simp
    have := hr row (by simp)
    omega
  have h3 := h2 s.rows 0 (h s (by simp)).2
  have h4 := Nat.mul_le_mul_right C (h s (by simp)).1
  rw [allSpots, List.length_append, List.length_cons, Nat.succ_mul]
  omega
theorem book_rows : ∀ s ∈ bookT ns sh, s.rows.length = nR sh ∧ s.cols = nC sh ∧ ∀ row ∈ s.rows, row.length = nC sh := fun s hs => by
 unfold bookT at hs
 obtain ⟨i, _, rfl⟩ := List.mem_map.1 hs
 unfold shtT rowsT
 refine ⟨by simp, rfl, fun row hr => ?_⟩
 obtain ⟨r, _, rfl⟩ := List.mem_map.1 hr
 unfold rowT
 simp
theorem nC_le : nC sh ≤ 4 := by unfold nC; omega
theorem nR_le : nR sh ≤ 5 := by unfold nR; omega
theorem nS_le : nS sh ≤ 3 := by unfold nS; omega
theorem book_good (h : ∀ n ∈ ns, n < 256) : Good (bookT ns sh) := by
 have hR := @nR_le sh
 have hC := @nC_le sh
 have hS := @nS_le sh
 have hl : (bookT ns sh).length = nS sh := by unfold bookT; simp
 refine ⟨⟨?_, by omega, fun s hs => ?_⟩, book_ris, fun s hs row hr t ht => textIs (book_in h s hs row hr t ht)⟩
 ·have := allSpots_len 5 4 (bookT ns sh) fun s hs => by
   obtain ⟨h1, _, h2⟩ := book_rows s hs
   exact ⟨by omega, fun row hr => by rw [h2 row hr]; exact hC⟩
  rw [hl] at this
  omega
 ·obtain ⟨h1, _, h2⟩ := book_rows s hs
  exact ⟨by omega, fun row hr => by rw [h2 row hr]; omega⟩
theorem book_mays (h : ∀ n ∈ ns, n < 256) (hsh : sh < 256) : Mays (bookT ns sh) := by
 have hR := @nR_le sh
 have hC := @nC_le sh
 have hS := @nS_le sh
 refine ⟨book_good h, by unfold bookT; simp; omega, fun s hs => ?_, fun s hs => ?_, fun s hs r hr => ?_, fun s hs => ?_⟩
 ·obtain ⟨_, h1, _⟩ := book_rows s hs; omega
 ·obtain ⟨h1, _, _⟩ := book_rows s hs; omega
 ·obtain ⟨_, h1, h2⟩ := book_rows s hs; rw [h2 r hr, h1]
 ·unfold bookT at hs
  obtain ⟨i, hi, rfl⟩ := List.mem_map.1 hs
  have hi := List.mem_range.1 hi
  have h64 : sh / 64 ≤ 3 := by omega
  have : sh / 64 * i ≤ 3 * 2 := Nat.mul_le_mul h64 (by omega)
  exact name1 (by omega) (by omega)
theorem book_few (h : ∀ n ∈ ns, n < 256) (s : Spt) : Few (bookT ns sh) s := few_of book_ris s (getC_in (book_in h) s)
end
end
end Go.Proofs.YtbchdlelmkmagaaGreatDoor.VM
namespace Go.Proofs.YtbchdlelmkmagaaGreatDoor.VM
open Go
set_option linter.unusedVariables false
noncomputable section
def ownS (own s : List Nat) : List Nat := if s = [] then own else s
def refS (bk : Bok) (g : Grd) (own : List Nat) (d : Nk) : Vl := match findN bk (ownS own d.s) 0 with
 | none => vlE 4
 | some i => match bk[i]? with
  | none => vl0
  | some sh => match sh.rows[d.r]? with
   | none => vl0
   | some row => if d.c < row.length then getG g i d.r d.c else vl0
def cellsS (g : Grd) (i r c0 c1 : Nat) : List Vl := (List.range (c1 - c0)).map fun j => getG g i r (c0 + j)
def rowsS (g : Grd) (i c0 c1 : Nat) : Nat → Nat → List Vl
 | 0, _ => []
 | n + 1, r => cellsS g i r c0 c1 ++ rowsS g i c0 c1 n (r + 1)
def spanS (bk : Bok) (g : Grd) (own : List Nat) (d : Nk) : List Vl := match findN bk (ownS own d.s) 0 with
 | none => [vlE 4]
 | some i => match bk[i]? with
  | none => []
  | some sh => rowsS g i d.c (min (d.c1 + 1) sh.cols) (min (d.r1 + 1) sh.rows.length - d.r) d.r
def evN (ns : List Nk) (bk : Bok) (g : Grd) (own : List Nat) : Nat → Nat → Vl
 | 0, _ => vlE 1
 | f + 1, at_ => match ns[at_]? with
  | none => vlE 1
  | some d =>
   if d.k = 1 then vlN d.n
   else if d.k = 2 then vlT d.t
   else if d.k = 4 then vlE 4
   else if d.k = 5 then refS bk g own d
   else if d.k = 7 then
    (match d.kids with
    | [a] => sumS (match ns[a]? with | some e => spanS bk g own e | none => [])
    | [a, b, c] => ifS (evN ns bk g own f a) (evN ns bk g own f b) (evN ns bk g own f c)
    | _ => vlE 1)
   else match d.kids with
    | [a, b] => twoS d.k (evN ns bk g own f a) (evN ns bk g own f b)
    | _ => vlE 1
def evS (ns : List Nk) (bk : Bok) (g : Grd) (own : List Nat) : Vl := evN ns bk g own ns.length (ns.length - 1)
end
end Go.Proofs.YtbchdlelmkmagaaGreatDoor.VM
namespace Go.Proofs.YtbchdlelmkmagaaGreatDoor.VM
open Go
noncomputable section
theorem l_api_Val : El EE 48 3 [.int .i64 0, .int .i64 0, .str []] true := el_of (by kernel_rfl) rfl
theorem fa_api_Val_0 (b o : Nat) (q : V → Prop) : (Pu EE).faddr 48 (.ptr b o) 0 q ↔ q (.ptr b (o + 0)) := fa_of (by kernel_rfl) q
theorem fa_api_Val_1 (b o : Nat) (q : V → Prop) : (Pu EE).faddr 48 (.ptr b o) 1 q ↔ q (.ptr b (o + 1)) := fa_of (by kernel_rfl) q
theorem fa_api_Val_2 (b o : Nat) (q : V → Prop) : (Pu EE).faddr 48 (.ptr b o) 2 q ↔ q (.ptr b (o + 2)) := fa_of (by kernel_rfl) q
theorem so_api_Val : StructOf EE 48 [(0, 1), (1, 1), (2, 1)] [.int .i64 0, .int .i64 0, .str []] := structOf (by kernel_rfl)
theorem s_sl_api_Val : IsSl EE 39 48 := isSl (by kernel_rfl)
theorem l_sl_api_Val : El EE 39 1 [.nils] false := el_of (by kernel_rfl) rfl
theorem s_sl_sl_api_Val : IsSl EE 35 39 := isSl (by kernel_rfl)
theorem l_sl_sl_api_Val : El EE 35 1 [.nils] false := el_of (by kernel_rfl) rfl
theorem s_sl_sl_sl_api_Val : IsSl EE 29 35 := isSl (by kernel_rfl)
theorem l_sl_sl_sl_api_Val : El EE 29 1 [.nils] false := el_of (by kernel_rfl) rfl
theorem l_api_Arg : El EE 133 3 [.bool false, .int .i64 0, .nils] true := el_of (by kernel_rfl) rfl
theorem fa_api_Arg_0 (b o : Nat) (q : V → Prop) : (Pu EE).faddr 133 (.ptr b o) 0 q ↔ q (.ptr b (o + 0)) := fa_of (by kernel_rfl) q
theorem fa_api_Arg_2 (b o : Nat) (q : V → Prop) : (Pu EE).faddr 133 (.ptr b o) 2 q ↔ q (.ptr b (o + 2)) := fa_of (by kernel_rfl) q
theorem so_api_Arg : StructOf EE 133 [(0, 1), (1, 1), (2, 1)] [.bool false, .int .i64 0, .nils] := structOf (by kernel_rfl)
theorem s_sl_api_Arg : IsSl EE 131 133 := isSl (by kernel_rfl)
theorem l_sl_api_Arg : El EE 131 1 [.nils] false := el_of (by kernel_rfl) rfl
theorem l_calc_eval : El EE 74 4 [.nils, .str [], .nils, .nils] true := el_of (by kernel_rfl) rfl
theorem fa_calc_eval_0 (b o : Nat) (q : V → Prop) : (Pu EE).faddr 74 (.ptr b o) 0 q ↔ q (.ptr b (o + 0)) := fa_of (by kernel_rfl) q
theorem fa_calc_eval_1 (b o : Nat) (q : V → Prop) : (Pu EE).faddr 74 (.ptr b o) 1 q ↔ q (.ptr b (o + 1)) := fa_of (by kernel_rfl) q
theorem fa_calc_eval_2 (b o : Nat) (q : V → Prop) : (Pu EE).faddr 74 (.ptr b o) 2 q ↔ q (.ptr b (o + 2)) := fa_of (by kernel_rfl) q
theorem fa_calc_eval_3 (b o : Nat) (q : V → Prop) : (Pu EE).faddr 74 (.ptr b o) 3 q ↔ q (.ptr b (o + 3)) := fa_of (by kernel_rfl) q
theorem so_calc_eval : StructOf EE 74 [(0, 1), (1, 1), (2, 1), (3, 1)] [.nils, .str [], .nils, .nils] := structOf (by kernel_rfl)
end
end Go.Proofs.YtbchdlelmkmagaaGreatDoor.VM
