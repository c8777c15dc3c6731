/- What labels of functions ask for. Written by pe.py. · deps.rising: cells put in order, few of them, by labels. · slices.SortFunc of few cells, Compact, Clone, deps.rising, by labels. · deps.Needs, by labels: a formula's rectangles gone through. · Books by numbers: what they hold, and that few cells are gone through for each. -/
import Derived.Test.YtlllhhjlfmhmlaaGreatDoorMg9
namespace Go.Proofs.YtlllhhjlfmhmlaaGreatDoor.VM
open Go
set_option linter.unusedVariables false
set_option maxRecDepth 100000
noncomputable section
noncomputable def c_slices_SortFunc_api_Spot_api_Spot : Code := match Tryz.f51.body with | some c => c | none => .skip
theorem b_slices_SortFunc_api_Spot_api_Spot : Tryz.f51.body = some c_slices_SortFunc_api_Spot_api_Spot := by kernel_rfl
theorem e_slices_SortFunc_api_Spot_api_Spot : EE.fn.get 51 = some Tryz.f51 := by kernel_rfl
noncomputable def t_slices_SortFunc_api_Spot_api_Spot_0 (p : Pr) (Q : V → Hp → Prop) (v0 v1 : V) (h : Hp) : Prop :=
  p.lbui h #[29] .len [v0] fun x1 =>
  p.conv h 3 119 x1 fun x2 =>
  p.call 75 [x2] h fun x3 h4 =>
  p.call 74 [v0, (.int .i64 0), x1, x3, v1] h4 fun x5 h6 =>
  Q u0 h6
theorem q_slices_SortFunc_api_Spot_api_Spot_0 (p : Pr) (Q : V → Hp → Prop) (v0 v1 : V) (h : Hp) : t_slices_SortFunc_api_Spot_api_Spot_0 p Q v0 v1 h = KAt p EE (cutOf []) (fun _ _ _ _ => False) c_slices_SortFunc_api_Spot_api_Spot [] [] (finK p Tryz.f51 Q) ([v0, v1] ++ List.replicate 12 u0) h [] := by kernel_rfl
theorem a_slices_SortFunc_api_Spot_api_Spot {Q : V → Hp → Prop} {v0 v1 : V} {h : Hp} (H : t_slices_SortFunc_api_Spot_api_Spot_0 (Pu EE) Q v0 v1 h) : Ans EE 51 [v0, v1] h Q :=
  ans_of (by kernel_rfl) e_slices_SortFunc_api_Spot_api_Spot b_slices_SortFunc_api_Spot_api_Spot (by kernel_rfl) (lab_ofX (fun _ _ _ _ h => h.elim) [] (cast (q_slices_SortFunc_api_Spot_api_Spot_0 (Pu EE) Q v0 v1 h) H))
noncomputable def c_slices_insertionSortCmpFunc_api_Spot : Code := match Tryz.f96.body with | some c => c | none => .skip
theorem b_slices_insertionSortCmpFunc_api_Spot : Tryz.f96.body = some c_slices_insertionSortCmpFunc_api_Spot := by kernel_rfl
theorem e_slices_insertionSortCmpFunc_api_Spot : EE.fn.get 96 = some Tryz.f96 := by kernel_rfl
noncomputable def L_slices_insertionSortCmpFunc_api_Spot_1 (Q : V → Hp → Prop) (v0 v1 v2 v3 v8 : V) (h : Hp) : Prop := ∀ s : List V, s.length = (Tryz.f96).ntmps → nth s 0 = v0 ∧ nth s 1 = v1 ∧ nth s 2 = v2 ∧ nth s 3 = v3 ∧ nth s 8 = v8 → Lab EE Tryz.f96 c_slices_insertionSortCmpFunc_api_Spot Q [false, true] s h []
noncomputable def L_slices_insertionSortCmpFunc_api_Spot_2 (Q : V → Hp → Prop) (v0 v1 v2 v3 v8 v9 : V) (h : Hp) : Prop := ∀ s : List V, s.length = (Tryz.f96).ntmps → nth s 0 = v0 ∧ nth s 1 = v1 ∧ nth s 2 = v2 ∧ nth s 3 = v3 ∧ nth s 8 = v8 ∧ nth s 9 = v9 → Lab EE Tryz.f96 c_slices_insertionSortCmpFunc_api_Spot Q [false, true, false, false, true, false, false, true] s h []
noncomputable def X_slices_insertionSortCmpFunc_api_Spot (l1 : V → V → V → V → V → Hp → Prop) (l2 : V → V → V → V → V → V → Hp → Prop) : Lb := fun π s h d => match d with
  | [] => bif eqB [false, true] π then l1 (nth s 0) (nth s 1) (nth s 2) (nth s 3) (nth s 8) h else bif eqB [false, true, false, false, true, false, false, true] π then l2 (nth s 0) (nth s 1) (nth s 2) (nth s 3) (nth s 8) (nth s 9) h else False
  | _ => False
theorem o_slices_insertionSortCmpFunc_api_Spot (Q : V → Hp → Prop) : ∀ π s h d, X_slices_insertionSortCmpFunc_api_Spot (L_slices_insertionSortCmpFunc_api_Spot_1 Q) (L_slices_insertionSortCmpFunc_api_Spot_2 Q) π s h d → s.length = (Tryz.f96).ntmps → Lab EE Tryz.f96 c_slices_insertionSortCmpFunc_api_Spot Q π s h d := by
  intro π s h d hx hl
  cases d with
  | cons _ _ => exact hx.elim
  | nil =>
    simp only [X_slices_insertionSortCmpFunc_api_Spot] at hx
    cases hk : eqB [false, true] π with
    | true => rw [hk, cond_true] at hx; rw [← eqB_eq hk]; exact hx s hl ⟨rfl, rfl, rfl, rfl, rfl⟩
    | false =>
    rw [hk, cond_false] at hx
    cases hk : eqB [false, true, false, false, true, false, false, true] π with
    | true => rw [hk, cond_true] at hx; rw [← eqB_eq hk]; exact hx s hl ⟨rfl, rfl, rfl, rfl, rfl, rfl⟩
    | false =>
    rw [hk, cond_false] at hx
    exact hx.elim
noncomputable def t_slices_insertionSortCmpFunc_api_Spot_0 (p : Pr) (l1 : V → V → V → V → V → Hp → Prop) (l2 : V → V → V → V → V → V → Hp → Prop) (Q : V → Hp → Prop) (v0 v1 v2 v3 : V) (h : Hp) : Prop :=
  p.bin .add 3 false true v1 (.int .i64 1) fun x1 =>
  l1 v0 v1 v2 v3 x1 h
theorem q_slices_insertionSortCmpFunc_api_Spot_0 (p : Pr) (l1 : V → V → V → V → V → Hp → Prop) (l2 : V → V → V → V → V → V → Hp → Prop) (Q : V → Hp → Prop) (v0 v1 v2 v3 : V) (h : Hp) : t_slices_insertionSortCmpFunc_api_Spot_0 p l1 l2 Q v0 v1 v2 v3 h = KAt p EE (cutOf [[false, true], [false, true, false, false, true, false, false, true]]) (X_slices_insertionSortCmpFunc_api_Spot l1 l2) c_slices_insertionSortCmpFunc_api_Spot [] [] (finK p Tryz.f96 Q) ([v0, v1, v2, v3] ++ List.replicate 49 u0) h [] := by kernel_rfl
theorem a_slices_insertionSortCmpFunc_api_Spot {Q : V → Hp → Prop} {v0 v1 v2 v3 : V} {h : Hp} (H : t_slices_insertionSortCmpFunc_api_Spot_0 (Pu EE) (L_slices_insertionSortCmpFunc_api_Spot_1 Q) (L_slices_insertionSortCmpFunc_api_Spot_2 Q) Q v0 v1 v2 v3 h) : Ans EE 96 [v0, v1, v2, v3] h Q :=
  ans_of (by kernel_rfl) e_slices_insertionSortCmpFunc_api_Spot b_slices_insertionSortCmpFunc_api_Spot (by kernel_rfl) (lab_ofX (o_slices_insertionSortCmpFunc_api_Spot Q) [] (cast (q_slices_insertionSortCmpFunc_api_Spot_0 (Pu EE) (L_slices_insertionSortCmpFunc_api_Spot_1 Q) (L_slices_insertionSortCmpFunc_api_Spot_2 Q) Q v0 v1 v2 v3 h) H))
noncomputable def t_slices_insertionSortCmpFunc_api_Spot_1 (p : Pr) (l1 : V → V → V → V → V → Hp → Prop) (l2 : V → V → V → V → V → V → Hp → Prop) (Q : V → Hp → Prop) (v0 v1 v2 v3 v8 : V) (h : Hp) : Prop :=
  p.bin .lss 3 false false v8 v2 fun x1 =>
  p.cond x1
  (fun _ =>
   l2 v0 v1 v2 v3 v8 v8 h)
  (fun _ =>
   Q u0 h)
theorem q_slices_insertionSortCmpFunc_api_Spot_1 (p : Pr) (l1 : V → V → V → V → V → Hp → Prop) (l2 : V → V → V → V → V → V → Hp → Prop) (Q : V → Hp → Prop) (s : List V) (h : Hp) : t_slices_insertionSortCmpFunc_api_Spot_1 p l1 l2 Q (nth s 0) (nth s 1) (nth s 2) (nth s 3) (nth s 8) h = KAt p EE (cutOf [[false, true], [false, true, false, false, true, false, false, true]]) (X_slices_insertionSortCmpFunc_api_Spot l1 l2) c_slices_insertionSortCmpFunc_api_Spot [] [true, false] (finK p Tryz.f96 Q) (nths s 53 0) h [] := by kernel_rfl
theorem r_slices_insertionSortCmpFunc_api_Spot_1 {Q : V → Hp → Prop} {v0 v1 v2 v3 v8 : V} {h : Hp} (H : t_slices_insertionSortCmpFunc_api_Spot_1 (Pu EE) (L_slices_insertionSortCmpFunc_api_Spot_1 Q) (L_slices_insertionSortCmpFunc_api_Spot_2 Q) Q v0 v1 v2 v3 v8 h) : L_slices_insertionSortCmpFunc_api_Spot_1 Q v0 v1 v2 v3 v8 h := by
  intro s hl ⟨e0, e1, e2, e3, e8⟩
  subst e0 e1 e2 e3 e8
  have hl : s.length = 53 := hl
  rw [nth_all hl]
  exact lab_ofX (o_slices_insertionSortCmpFunc_api_Spot Q) [true, false] (cast (q_slices_insertionSortCmpFunc_api_Spot_1 (Pu EE) (L_slices_insertionSortCmpFunc_api_Spot_1 Q) (L_slices_insertionSortCmpFunc_api_Spot_2 Q) Q s h) H)
noncomputable def t_slices_insertionSortCmpFunc_api_Spot_2 (p : Pr) (l1 : V → V → V → V → V → Hp → Prop) (l2 : V → V → V → V → V → V → Hp → Prop) (Q : V → Hp → Prop) (v0 v1 v2 v3 v8 v9 : V) (h : Hp) : Prop :=
  p.bin .gtr 3 false false v9 v1 fun x1 =>
  p.gval x1 true (fun k2 =>
   k2 v3) fun x3 =>
  p.gval x1 true (fun k4 =>
   k4 v0) fun x5 =>
  p.gval x1 true (fun k6 =>
   k6 v9) fun x7 =>
  p.gval x1 true (fun k8 =>
   p.iaddr 29 x5 x7 fun x9 =>
   k8 x9) fun x10 =>
  p.gval x1 true (fun k11 =>
   p.load h 26 x10 fun x12 =>
   k11 x12) fun x13 =>
  p.gval x1 true (fun k14 =>
   k14 v0) fun x15 =>
  p.gval x1 true (fun k16 =>
   k16 v9) fun x17 =>
  p.gval x1 true (fun k18 =>
   p.bin .sub 3 false true x17 (.int .i64 1) fun x19 =>
   k18 x19) fun x20 =>
  p.gval x1 true (fun k21 =>
   p.iaddr 29 x15 x20 fun x22 =>
   k21 x22) fun x23 =>
  p.gval x1 true (fun k24 =>
   p.load h 26 x23 fun x25 =>
   k24 x25) fun x26 =>
  p.geff x1 true (fun k27 =>
   p.callv x3 [x13, x26] h fun x28 h29 =>
   k27 x28 h29) h fun x30 h31 =>
  p.gval x1 true (fun k32 =>
   p.bin .lss 3 false true x30 (.int .i64 0) fun x33 =>
   k32 x33) fun x34 =>
  p.pick x1 (some x34) (some (.bool false)) fun x35 =>
  p.cond x35
  (fun _ =>
   p.bin .sub 3 false true v9 (.int .i64 1) fun x36 =>
   p.bin .sub 3 false true v9 (.int .i64 1) fun x37 =>
   p.iaddr 29 v0 x37 fun x38 =>
   p.load h31 26 x38 fun x39 =>
   p.iaddr 29 v0 v9 fun x40 =>
   p.load h31 26 x40 fun x41 =>
   p.iaddr 29 v0 v9 fun x42 =>
   p.store h31 26 x42 x39 fun h43 =>
   p.iaddr 29 v0 x36 fun x44 =>
   p.store h43 26 x44 x41 fun h45 =>
   p.bin .sub 3 false true v9 (.int .i64 1) fun x46 =>
   l2 v0 v1 v2 v3 v8 x46 h45)
  (fun _ =>
   p.bin .add 3 false true v8 (.int .i64 1) fun x47 =>
   l1 v0 v1 v2 v3 x47 h31)
theorem q_slices_insertionSortCmpFunc_api_Spot_2 (p : Pr) (l1 : V → V → V → V → V → Hp → Prop) (l2 : V → V → V → V → V → V → Hp → Prop) (Q : V → Hp → Prop) (s : List V) (h : Hp) : t_slices_insertionSortCmpFunc_api_Spot_2 p l1 l2 Q (nth s 0) (nth s 1) (nth s 2) (nth s 3) (nth s 8) (nth s 9) h = KAt p EE (cutOf [[false, true], [false, true, false, false, true, false, false, true]]) (X_slices_insertionSortCmpFunc_api_Spot l1 l2) c_slices_insertionSortCmpFunc_api_Spot [] [true, false, false, true, false, false, true, false] (finK p Tryz.f96 Q) (nths s 53 0) h [] := by kernel_rfl
theorem r_slices_insertionSortCmpFunc_api_Spot_2 {Q : V → Hp → Prop} {v0 v1 v2 v3 v8 v9 : V} {h : Hp} (H : t_slices_insertionSortCmpFunc_api_Spot_2 (Pu EE) (L_slices_insertionSortCmpFunc_api_Spot_1 Q) (L_slices_insertionSortCmpFunc_api_Spot_2 Q) Q v0 v1 v2 v3 v8 v9 h) : L_slices_insertionSortCmpFunc_api_Spot_2 Q v0 v1 v2 v3 v8 v9 h := by
  intro s hl ⟨e0, e1, e2, e3, e8, e9⟩
  subst e0 e1 e2 e3 e8 e9
  have hl : s.length = 53 := hl
  rw [nth_all hl]
  exact lab_ofX (o_slices_insertionSortCmpFunc_api_Spot Q) [true, false, false, true, false, false, true, false] (cast (q_slices_insertionSortCmpFunc_api_Spot_2 (Pu EE) (L_slices_insertionSortCmpFunc_api_Spot_1 Q) (L_slices_insertionSortCmpFunc_api_Spot_2 Q) Q s h) H)
noncomputable def c_slices_Clone_api_Spot_api_Spot : Code := match Tryz.f52.body with | some c => c | none => .skip
theorem b_slices_Clone_api_Spot_api_Spot : Tryz.f52.body = some c_slices_Clone_api_Spot_api_Spot := by kernel_rfl
theorem e_slices_Clone_api_Spot_api_Spot : EE.fn.get 52 = some Tryz.f52 := by kernel_rfl
noncomputable def t_slices_Clone_api_Spot_api_Spot_0 (p : Pr) (Q : V → Hp → Prop) (v0 : V) (h : Hp) : Prop :=
  p.bin .eql 29 false true v0 .nils fun x1 =>
  p.cond x1
  (fun _ =>
   Q .nils h)
  (fun _ =>
   p.bsl h 29 0 [] fun x2 h3 b4 =>
   p.ebui h3 #[29, 29] .append [x2, v0] fun x5 h6 =>
   Q x5 h6)
theorem q_slices_Clone_api_Spot_api_Spot_0 (p : Pr) (Q : V → Hp → Prop) (v0 : V) (h : Hp) : t_slices_Clone_api_Spot_api_Spot_0 p Q v0 h = KAt p EE (cutOf []) (fun _ _ _ _ => False) c_slices_Clone_api_Spot_api_Spot [] [] (finK p Tryz.f52 Q) ([v0] ++ List.replicate 7 u0) h [] := by kernel_rfl
theorem a_slices_Clone_api_Spot_api_Spot {Q : V → Hp → Prop} {v0 : V} {h : Hp} (H : t_slices_Clone_api_Spot_api_Spot_0 (Pu EE) Q v0 h) : Ans EE 52 [v0] h Q :=
  ans_of (by kernel_rfl) e_slices_Clone_api_Spot_api_Spot b_slices_Clone_api_Spot_api_Spot (by kernel_rfl) (lab_ofX (fun _ _ _ _ h => h.elim) [] (cast (q_slices_Clone_api_Spot_api_Spot_0 (Pu EE) Q v0 h) H))
noncomputable def c_slices_Compact_api_Spot_api_Spot : Code := match Tryz.f53.body with | some c => c | none => .skip
theorem b_slices_Compact_api_Spot_api_Spot : Tryz.f53.body = some c_slices_Compact_api_Spot_api_Spot := by kernel_rfl
theorem e_slices_Compact_api_Spot_api_Spot : EE.fn.get 53 = some Tryz.f53 := by kernel_rfl
noncomputable def L_slices_Compact_api_Spot_api_Spot_1 (Q : V → Hp → Prop) (v0 v3 : V) (h : Hp) : Prop := ∀ s : List V, s.length = (Tryz.f53).ntmps → nth s 0 = v0 ∧ nth s 3 = v3 → Lab EE Tryz.f53 c_slices_Compact_api_Spot_api_Spot Q [false, true, false, true, true] s h []
noncomputable def L_slices_Compact_api_Spot_api_Spot_2 (Q : V → Hp → Prop) (v0 v3 v4 v5 : V) (h : Hp) : Prop := ∀ s : List V, s.length = (Tryz.f53).ntmps → nth s 0 = v0 ∧ nth s 3 = v3 ∧ nth s 4 = v4 ∧ nth s 5 = v5 → Lab EE Tryz.f53 c_slices_Compact_api_Spot_api_Spot Q [false, true, false, true, false, true, false, false, true, false, false, true, false, true, true] s h []
noncomputable def X_slices_Compact_api_Spot_api_Spot (l1 : V → V → Hp → Prop) (l2 : V → V → V → V → Hp → Prop) : Lb := fun π s h d => match d with
  | [] => bif eqB [false, true, false, true, true] π then l1 (nth s 0) (nth s 3) h else bif eqB [false, true, false, true, false, true, false, false, true, false, false, true, false, true, true] π then l2 (nth s 0) (nth s 3) (nth s 4) (nth s 5) h else False
  | _ => False
theorem o_slices_Compact_api_Spot_api_Spot (Q : V → Hp → Prop) : ∀ π s h d, X_slices_Compact_api_Spot_api_Spot (L_slices_Compact_api_Spot_api_Spot_1 Q) (L_slices_Compact_api_Spot_api_Spot_2 Q) π s h d → s.length = (Tryz.f53).ntmps → Lab EE Tryz.f53 c_slices_Compact_api_Spot_api_Spot Q π s h d := by
  intro π s h d hx hl
  cases d with
  | cons _ _ => exact hx.elim
  | nil =>
    simp only [X_slices_Compact_api_Spot_api_Spot] at hx
    cases hk : eqB [false, true, false, true, true] π with
    | true => rw [hk, cond_true] at hx; rw [← eqB_eq hk]; exact hx s hl ⟨rfl, rfl⟩
    | false =>
    rw [hk, cond_false] at hx
    cases hk : eqB [false, true, false, true, false, true, false, false, true, false, false, true, false, true, true] π with
    | true => rw [hk, cond_true] at hx; rw [← eqB_eq hk]; exact hx s hl ⟨rfl, rfl, rfl, rfl⟩
    | false =>
    rw [hk, cond_false] at hx
    exact hx.elim
noncomputable def t_slices_Compact_api_Spot_api_Spot_0 (p : Pr) (l1 : V → V → Hp → Prop) (l2 : V → V → V → V → Hp → Prop) (Q : V → Hp → Prop) (v0 : V) (h : Hp) : Prop :=
  p.lbui h #[29] .len [v0] fun x1 =>
  p.bin .lss 3 false true x1 (.int .i64 2) fun x2 =>
  p.cond x2
  (fun _ =>
   Q v0 h)
  (fun _ =>
   l1 v0 (.int .i64 1) h)
theorem q_slices_Compact_api_Spot_api_Spot_0 (p : Pr) (l1 : V → V → Hp → Prop) (l2 : V → V → V → V → Hp → Prop) (Q : V → Hp → Prop) (v0 : V) (h : Hp) : t_slices_Compact_api_Spot_api_Spot_0 p l1 l2 Q v0 h = KAt p EE (cutOf [[false, true, false, true, true], [false, true, false, true, false, true, false, false, true, false, false, true, false, true, true]]) (X_slices_Compact_api_Spot_api_Spot l1 l2) c_slices_Compact_api_Spot_api_Spot [] [] (finK p Tryz.f53 Q) ([v0] ++ List.replicate 60 u0) h [] := by kernel_rfl
theorem a_slices_Compact_api_Spot_api_Spot {Q : V → Hp → Prop} {v0 : V} {h : Hp} (H : t_slices_Compact_api_Spot_api_Spot_0 (Pu EE) (L_slices_Compact_api_Spot_api_Spot_1 Q) (L_slices_Compact_api_Spot_api_Spot_2 Q) Q v0 h) : Ans EE 53 [v0] h Q :=
  ans_of (by kernel_rfl) e_slices_Compact_api_Spot_api_Spot b_slices_Compact_api_Spot_api_Spot (by kernel_rfl) (lab_ofX (o_slices_Compact_api_Spot_api_Spot Q) [] (cast (q_slices_Compact_api_Spot_api_Spot_0 (Pu EE) (L_slices_Compact_api_Spot_api_Spot_1 Q) (L_slices_Compact_api_Spot_api_Spot_2 Q) Q v0 h) H))
noncomputable def t_slices_Compact_api_Spot_api_Spot_1 (p : Pr) (l1 : V → V → Hp → Prop) (l2 : V → V → V → V → Hp → Prop) (Q : V → Hp → Prop) (v0 v3 : V) (h : Hp) : Prop :=
  p.lbui h #[29] .len [v0] fun x1 =>
  p.bin .lss 3 false false v3 x1 fun x2 =>
  p.cond x2
  (fun _ =>
   p.iaddr 29 v0 v3 fun x3 =>
   p.load h 26 x3 fun x4 =>
   p.bin .sub 3 false true v3 (.int .i64 1) fun x5 =>
   p.iaddr 29 v0 x5 fun x6 =>
   p.load h 26 x6 fun x7 =>
   p.bin .eql 26 false false x4 x7 fun x8 =>
   p.cond x8
   (fun _ =>
    p.slice 29 v0 (some v3) none none fun x9 =>
    l2 v0 v3 x9 (.int .i64 1) h)
   (fun _ =>
    p.bin .add 3 false true v3 (.int .i64 1) fun x10 =>
    l1 v0 x10 h))
  (fun _ =>
   Q v0 h)
theorem q_slices_Compact_api_Spot_api_Spot_1 (p : Pr) (l1 : V → V → Hp → Prop) (l2 : V → V → V → V → Hp → Prop) (Q : V → Hp → Prop) (s : List V) (h : Hp) : t_slices_Compact_api_Spot_api_Spot_1 p l1 l2 Q (nth s 0) (nth s 3) h = KAt p EE (cutOf [[false, true, false, true, true], [false, true, false, true, false, true, false, false, true, false, false, true, false, true, true]]) (X_slices_Compact_api_Spot_api_Spot l1 l2) c_slices_Compact_api_Spot_api_Spot [] [true, true, false, true, false] (finK p Tryz.f53 Q) (nths s 61 0) h [] := by kernel_rfl
theorem r_slices_Compact_api_Spot_api_Spot_1 {Q : V → Hp → Prop} {v0 v3 : V} {h : Hp} (H : t_slices_Compact_api_Spot_api_Spot_1 (Pu EE) (L_slices_Compact_api_Spot_api_Spot_1 Q) (L_slices_Compact_api_Spot_api_Spot_2 Q) Q v0 v3 h) : L_slices_Compact_api_Spot_api_Spot_1 Q v0 v3 h := by
  intro s hl ⟨e0, e3⟩
  subst e0 e3
  have hl : s.length = 61 := hl
  rw [nth_all hl]
  exact lab_ofX (o_slices_Compact_api_Spot_api_Spot Q) [true, true, false, true, false] (cast (q_slices_Compact_api_Spot_api_Spot_1 (Pu EE) (L_slices_Compact_api_Spot_api_Spot_1 Q) (L_slices_Compact_api_Spot_api_Spot_2 Q) Q s h) H)
noncomputable def t_slices_Compact_api_Spot_api_Spot_2 (p : Pr) (l1 : V → V → Hp → Prop) (l2 : V → V → V → V → Hp → Prop) (Q : V → Hp → Prop) (v0 v3 v4 v5 : V) (h : Hp) : Prop :=
  p.lbui h #[29] .len [v4] fun x1 =>
  p.bin .lss 3 false false v5 x1 fun x2 =>
  p.cond x2
  (fun _ =>
   p.iaddr 29 v4 v5 fun x3 =>
   p.load h 26 x3 fun x4 =>
   p.bin .sub 3 false true v5 (.int .i64 1) fun x5 =>
   p.iaddr 29 v4 x5 fun x6 =>
   p.load h 26 x6 fun x7 =>
   p.bin .neq 26 false false x4 x7 fun x8 =>
   p.cond x8
   (fun _ =>
    p.iaddr 29 v4 v5 fun x9 =>
    p.load h 26 x9 fun x10 =>
    p.iaddr 29 v0 v3 fun x11 =>
    p.store h 26 x11 x10 fun h12 =>
    p.bin .add 3 false true v3 (.int .i64 1) fun x13 =>
    p.bin .add 3 false true v5 (.int .i64 1) fun x14 =>
    l2 v0 x13 v4 x14 h12)
   (fun _ =>
    p.bin .add 3 false true v5 (.int .i64 1) fun x15 =>
    l2 v0 v3 v4 x15 h))
  (fun _ =>
   p.slice 29 v0 (some v3) none none fun x16 =>
   p.ebui h #[29] .clear [x16] fun x17 h18 =>
   p.slice 29 v0 none (some v3) none fun x19 =>
   Q x19 h18)
theorem q_slices_Compact_api_Spot_api_Spot_2 (p : Pr) (l1 : V → V → Hp → Prop) (l2 : V → V → V → V → Hp → Prop) (Q : V → Hp → Prop) (s : List V) (h : Hp) : t_slices_Compact_api_Spot_api_Spot_2 p l1 l2 Q (nth s 0) (nth s 3) (nth s 4) (nth s 5) h = KAt p EE (cutOf [[false, true, false, true, true], [false, true, false, true, false, true, false, false, true, false, false, true, false, true, true]]) (X_slices_Compact_api_Spot_api_Spot l1 l2) c_slices_Compact_api_Spot_api_Spot [] [true, true, false, true, false, false, true, false, false, true, false, true, false, true, false] (finK p Tryz.f53 Q) (nths s 61 0) h [] := by kernel_rfl
theorem r_slices_Compact_api_Spot_api_Spot_2 {Q : V → Hp → Prop} {v0 v3 v4 v5 : V} {h : Hp} (H : t_slices_Compact_api_Spot_api_Spot_2 (Pu EE) (L_slices_Compact_api_Spot_api_Spot_1 Q) (L_slices_Compact_api_Spot_api_Spot_2 Q) Q v0 v3 v4 v5 h) : L_slices_Compact_api_Spot_api_Spot_2 Q v0 v3 v4 v5 h := by
  intro s hl ⟨e0, e3, e4, e5⟩
  subst e0 e3 e4 e5
  have hl : s.length = 61 := hl
  rw [nth_all hl]
  exact lab_ofX (o_slices_Compact_api_Spot_api_Spot Q) [true, true, false, true, false, false, true, false, false, true, false, true, false, true, false] (cast (q_slices_Compact_api_Spot_api_Spot_2 (Pu EE) (L_slices_Compact_api_Spot_api_Spot_1 Q) (L_slices_Compact_api_Spot_api_Spot_2 Q) Q s h) H)
noncomputable def c_math_bits_Len : Code := match Tryz.f75.body with | some c => c | none => .skip
theorem b_math_bits_Len : Tryz.f75.body = some c_math_bits_Len := by kernel_rfl
theorem e_math_bits_Len : EE.fn.get 75 = some Tryz.f75 := by kernel_rfl
noncomputable def t_math_bits_Len_0 (p : Pr) (Q : V → Hp → Prop) (v0 : V) (h : Hp) : Prop :=
  p.cond (.bool false)
  (fun _ =>
   p.conv h 119 154 v0 fun x1 =>
   p.call 104 [x1] h fun x2 h3 =>
   Q x2 h3)
  (fun _ =>
   p.call 105 [v0] h fun x4 h5 =>
   Q x4 h5)
theorem q_math_bits_Len_0 (p : Pr) (Q : V → Hp → Prop) (v0 : V) (h : Hp) : t_math_bits_Len_0 p Q v0 h = KAt p EE (cutOf []) (fun _ _ _ _ => False) c_math_bits_Len [] [] (finK p Tryz.f75 Q) ([v0] ++ List.replicate 7 u0) h [] := by kernel_rfl
theorem a_math_bits_Len {Q : V → Hp → Prop} {v0 : V} {h : Hp} (H : t_math_bits_Len_0 (Pu EE) Q v0 h) : Ans EE 75 [v0] h Q :=
  ans_of (by kernel_rfl) e_math_bits_Len b_math_bits_Len (by kernel_rfl) (lab_ofX (fun _ _ _ _ h => h.elim) [] (cast (q_math_bits_Len_0 (Pu EE) Q v0 h) H))
noncomputable def c_math_bits_Len64 : Code := match Tryz.f105.body with | some c => c | none => .skip
theorem b_math_bits_Len64 : Tryz.f105.body = some c_math_bits_Len64 := by kernel_rfl
theorem e_math_bits_Len64 : EE.fn.get 105 = some Tryz.f105 := by kernel_rfl
noncomputable def L_math_bits_Len64_1 (Q : V → Hp → Prop) (v0 v2 : V) (h : Hp) : Prop := ∀ s : List V, s.length = (Tryz.f105).ntmps → nth s 0 = v0 ∧ nth s 2 = v2 → Lab EE Tryz.f105 c_math_bits_Len64 Q [true, true] s h []
noncomputable def L_math_bits_Len64_2 (Q : V → Hp → Prop) (v0 v2 : V) (h : Hp) : Prop := ∀ s : List V, s.length = (Tryz.f105).ntmps → nth s 0 = v0 ∧ nth s 2 = v2 → Lab EE Tryz.f105 c_math_bits_Len64 Q [true, true, true] s h []
noncomputable def L_math_bits_Len64_3 (Q : V → Hp → Prop) (v0 v2 : V) (h : Hp) : Prop := ∀ s : List V, s.length = (Tryz.f105).ntmps → nth s 0 = v0 ∧ nth s 2 = v2 → Lab EE Tryz.f105 c_math_bits_Len64 Q [true, true, true, true] s h []
noncomputable def X_math_bits_Len64 (l1 : V → V → Hp → Prop) (l2 : V → V → Hp → Prop) (l3 : V → V → Hp → Prop) : Lb := fun π s h d => match d with
  | [] => bif eqB [true, true] π then l1 (nth s 0) (nth s 2) h else bif eqB [true, true, true] π then l2 (nth s 0) (nth s 2) h else bif eqB [true, true, true, true] π then l3 (nth s 0) (nth s 2) h else False
  | _ => False
theorem o_math_bits_Len64 (Q : V → Hp → Prop) : ∀ π s h d, X_math_bits_Len64 (L_math_bits_Len64_1 Q) (L_math_bits_Len64_2 Q) (L_math_bits_Len64_3 Q) π s h d → s.length = (Tryz.f105).ntmps → Lab EE Tryz.f105 c_math_bits_Len64 Q π s h d := by
  intro π s h d hx hl
  cases d with
  | cons _ _ => exact hx.elim
  | nil =>
    simp only [X_math_bits_Len64] at hx
    cases hk : eqB [true, true] π with
    | true => rw [hk, cond_true] at hx; rw [← eqB_eq hk]; exact hx s hl ⟨rfl, rfl⟩
    | false =>
    rw [hk, cond_false] at hx
    cases hk : eqB [true, true, true] π with
    | true => rw [hk, cond_true] at hx; rw [← eqB_eq hk]; exact hx s hl ⟨rfl, rfl⟩
    | false =>
    rw [hk, cond_false] at hx
    cases hk : eqB [true, true, true, true] π with
    | true => rw [hk, cond_true] at hx; rw [← eqB_eq hk]; exact hx s hl ⟨rfl, rfl⟩
    | false =>
    rw [hk, cond_false] at hx
    exact hx.elim
noncomputable def t_math_bits_Len64_0 (p : Pr) (l1 : V → V → Hp → Prop) (l2 : V → V → Hp → Prop) (l3 : V → V → Hp → Prop) (Q : V → Hp → Prop) (v0 : V) (h : Hp) : Prop :=
  p.bin .geq 120 false true v0 (.int .u64 4294967296) fun x1 =>
  p.cond x1
  (fun _ =>
   p.bin .shr 120 false true v0 (.int .u64 32) fun x2 =>
   l1 x2 (.int .i64 32) h)
  (fun _ =>
   l1 v0 (.int .i64 0) h)
theorem q_math_bits_Len64_0 (p : Pr) (l1 : V → V → Hp → Prop) (l2 : V → V → Hp → Prop) (l3 : V → V → Hp → Prop) (Q : V → Hp → Prop) (v0 : V) (h : Hp) : t_math_bits_Len64_0 p l1 l2 l3 Q v0 h = KAt p EE (cutOf [[true, true], [true, true, true], [true, true, true, true]]) (X_math_bits_Len64 l1 l2 l3) c_math_bits_Len64 [] [] (finK p Tryz.f105 Q) ([v0] ++ List.replicate 24 u0) h [] := by kernel_rfl
theorem a_math_bits_Len64 {Q : V → Hp → Prop} {v0 : V} {h : Hp} (H : t_math_bits_Len64_0 (Pu EE) (L_math_bits_Len64_1 Q) (L_math_bits_Len64_2 Q) (L_math_bits_Len64_3 Q) Q v0 h) : Ans EE 105 [v0] h Q :=
  ans_of (by kernel_rfl) e_math_bits_Len64 b_math_bits_Len64 (by kernel_rfl) (lab_ofX (o_math_bits_Len64 Q) [] (cast (q_math_bits_Len64_0 (Pu EE) (L_math_bits_Len64_1 Q) (L_math_bits_Len64_2 Q) (L_math_bits_Len64_3 Q) Q v0 h) H))
noncomputable def t_math_bits_Len64_1 (p : Pr) (l1 : V → V → Hp → Prop) (l2 : V → V → Hp → Prop) (l3 : V → V → Hp → Prop) (Q : V → Hp → Prop) (v0 v2 : V) (h : Hp) : Prop :=
  p.bin .geq 120 false true v0 (.int .u64 65536) fun x1 =>
  p.cond x1
  (fun _ =>
   p.bin .shr 120 false true v0 (.int .u64 16) fun x2 =>
   p.bin .add 3 false true v2 (.int .i64 16) fun x3 =>
   l2 x2 x3 h)
  (fun _ =>
   l2 v0 v2 h)
theorem q_math_bits_Len64_1 (p : Pr) (l1 : V → V → Hp → Prop) (l2 : V → V → Hp → Prop) (l3 : V → V → Hp → Prop) (Q : V → Hp → Prop) (s : List V) (h : Hp) : t_math_bits_Len64_1 p l1 l2 l3 Q (nth s 0) (nth s 2) h = KAt p EE (cutOf [[true, true], [true, true, true], [true, true, true, true]]) (X_math_bits_Len64 l1 l2 l3) c_math_bits_Len64 [] [true, true] (finK p Tryz.f105 Q) (nths s 25 0) h [] := by kernel_rfl
theorem r_math_bits_Len64_1 {Q : V → Hp → Prop} {v0 v2 : V} {h : Hp} (H : t_math_bits_Len64_1 (Pu EE) (L_math_bits_Len64_1 Q) (L_math_bits_Len64_2 Q) (L_math_bits_Len64_3 Q) Q v0 v2 h) : L_math_bits_Len64_1 Q v0 v2 h := by
  intro s hl ⟨e0, e2⟩
  subst e0 e2
  have hl : s.length = 25 := hl
  rw [nth_all hl]
  exact lab_ofX (o_math_bits_Len64 Q) [true, true] (cast (q_math_bits_Len64_1 (Pu EE) (L_math_bits_Len64_1 Q) (L_math_bits_Len64_2 Q) (L_math_bits_Len64_3 Q) Q s h) H)
noncomputable def t_math_bits_Len64_2 (p : Pr) (l1 : V → V → Hp → Prop) (l2 : V → V → Hp → Prop) (l3 : V → V → Hp → Prop) (Q : V → Hp → Prop) (v0 v2 : V) (h : Hp) : Prop :=
  p.bin .geq 120 false true v0 (.int .u64 256) fun x1 =>
  p.cond x1
  (fun _ =>
   p.bin .shr 120 false true v0 (.int .u64 8) fun x2 =>
   p.bin .add 3 false true v2 (.int .i64 8) fun x3 =>
   l3 x2 x3 h)
  (fun _ =>
   l3 v0 v2 h)
theorem q_math_bits_Len64_2 (p : Pr) (l1 : V → V → Hp → Prop) (l2 : V → V → Hp → Prop) (l3 : V → V → Hp → Prop) (Q : V → Hp → Prop) (s : List V) (h : Hp) : t_math_bits_Len64_2 p l1 l2 l3 Q (nth s 0) (nth s 2) h = KAt p EE (cutOf [[true, true], [true, true, true], [true, true, true, true]]) (X_math_bits_Len64 l1 l2 l3) c_math_bits_Len64 [] [true, true, true] (finK p Tryz.f105 Q) (nths s 25 0) h [] := by kernel_rfl
theorem r_math_bits_Len64_2 {Q : V → Hp → Prop} {v0 v2 : V} {h : Hp} (H : t_math_bits_Len64_2 (Pu EE) (L_math_bits_Len64_1 Q) (L_math_bits_Len64_2 Q) (L_math_bits_Len64_3 Q) Q v0 v2 h) : L_math_bits_Len64_2 Q v0 v2 h := by
  intro s hl ⟨e0, e2⟩
  subst e0 e2
  have hl : s.length = 25 := hl
  rw [nth_all hl]
  exact lab_ofX (o_math_bits_Len64 Q) [true, true, true] (cast (q_math_bits_Len64_2 (Pu EE) (L_math_bits_Len64_1 Q) (L_math_bits_Len64_2 Q) (L_math_bits_Len64_3 Q) Q s h) H)
noncomputable def t_math_bits_Len64_3 (p : Pr) (l1 : V → V → Hp → Prop) (l2 : V → V → Hp → Prop) (l3 : V → V → Hp → Prop) (Q : V → Hp → Prop) (v0 v2 : V) (h : Hp) : Prop :=
  p.conv h 120 5 v0 fun x1 =>
  p.index 9 (.str [0, 1, 2, 2, 3, 3, 3, 3, 4, 4, 4, 4, 4, 4, 4, 4, 5, 5, 5, 5, 5, 5, 5, 5, 5, 5, 5, 5, 5, 5, 5, 5, 6, 6, 6, 6, 6, 6, 6, 6, 6, 6, 6, 6, 6, 6, 6, 6, 6, 6, 6, 6, 6, 6, 6, 6, 6, 6, 6, 6, 6, 6, 6, 6, 7, 7, 7, 7, 7, 7, 7, 7, 7, 7, 7, 7, 7, 7, 7, 7, 7, 7, 7, 7, 7, 7, 7, 7, 7, 7, 7, 7, 7, 7, 7, 7, 7, 7, 7, 7, 7, 7, 7, 7, 7, 7, 7, 7, 7, 7, 7, 7, 7, 7, 7, 7, 7, 7, 7, 7, 7, 7, 7, 7, 7, 7, 7, 7, 8, 8, 8, 8, 8, 8, 8, 8, 8, 8, 8, 8, 8, 8, 8, 8, 8, 8, 8, 8, 8, 8, 8, 8, 8, 8, 8, 8, 8, 8, 8, 8, 8, 8, 8, 8, 8, 8, 8, 8, 8, 8, 8, 8, 8, 8, 8, 8, 8, 8, 8, 8, 8, 8, 8, 8, 8, 8, 8, 8, 8, 8, 8, 8, 8, 8, 8, 8, 8, 8, 8, 8, 8, 8, 8, 8, 8, 8, 8, 8, 8, 8, 8, 8, 8, 8, 8, 8, 8, 8, 8, 8, 8, 8, 8, 8, 8, 8, 8, 8, 8, 8, 8, 8, 8, 8, 8, 8, 8, 8, 8, 8, 8, 8, 8, 8, 8, 8, 8, 8, 8, 8, 8, 8, 8, 8, 8, 8]) x1 fun x2 =>
  p.conv h 5 3 x2 fun x3 =>
  p.bin .add 3 false false v2 x3 fun x4 =>
  Q x4 h
theorem q_math_bits_Len64_3 (p : Pr) (l1 : V → V → Hp → Prop) (l2 : V → V → Hp → Prop) (l3 : V → V → Hp → Prop) (Q : V → Hp → Prop) (s : List V) (h : Hp) : t_math_bits_Len64_3 p l1 l2 l3 Q (nth s 0) (nth s 2) h = KAt p EE (cutOf [[true, true], [true, true, true], [true, true, true, true]]) (X_math_bits_Len64 l1 l2 l3) c_math_bits_Len64 [] [true, true, true, true] (finK p Tryz.f105 Q) (nths s 25 0) h [] := by kernel_rfl
theorem r_math_bits_Len64_3 {Q : V → Hp → Prop} {v0 v2 : V} {h : Hp} (H : t_math_bits_Len64_3 (Pu EE) (L_math_bits_Len64_1 Q) (L_math_bits_Len64_2 Q) (L_math_bits_Len64_3 Q) Q v0 v2 h) : L_math_bits_Len64_3 Q v0 v2 h := by
  intro s hl ⟨e0, e2⟩
  subst e0 e2
  have hl : s.length = 25 := hl
  rw [nth_all hl]
  exact lab_ofX (o_math_bits_Len64 Q) [true, true, true, true] (cast (q_math_bits_Len64_3 (Pu EE) (L_math_bits_Len64_1 Q) (L_math_bits_Len64_2 Q) (L_math_bits_Len64_3 Q) Q s h) H)
noncomputable def c_slices_pdqsortCmpFunc_api_Spot : Code := match Tryz.f74.body with | some c => c | none => .skip
theorem b_slices_pdqsortCmpFunc_api_Spot : Tryz.f74.body = some c_slices_pdqsortCmpFunc_api_Spot := by kernel_rfl
theorem e_slices_pdqsortCmpFunc_api_Spot : EE.fn.get 74 = some Tryz.f74 := by kernel_rfl
noncomputable def L_slices_pdqsortCmpFunc_api_Spot_1 (Q : V → Hp → Prop) (v0 v1 v2 v3 v4 v10 v11 : V) (h : Hp) : Prop := ∀ s : List V, s.length = (Tryz.f74).ntmps → nth s 0 = v0 ∧ nth s 1 = v1 ∧ nth s 2 = v2 ∧ nth s 3 = v3 ∧ nth s 4 = v4 ∧ nth s 10 = v10 ∧ nth s 11 = v11 → Lab EE Tryz.f74 c_slices_pdqsortCmpFunc_api_Spot Q [false, true, true] s h []
noncomputable def L_slices_pdqsortCmpFunc_api_Spot_2 (Q : V → Hp → Prop) (v0 v1 v2 v3 v4 v10 v11 v12 : V) (h : Hp) : Prop := ∀ s : List V, s.length = (Tryz.f74).ntmps → nth s 0 = v0 ∧ nth s 1 = v1 ∧ nth s 2 = v2 ∧ nth s 3 = v3 ∧ nth s 4 = v4 ∧ nth s 10 = v10 ∧ nth s 11 = v11 ∧ nth s 12 = v12 → Lab EE Tryz.f74 c_slices_pdqsortCmpFunc_api_Spot Q [true, true, true, true, false, false, false, true, true] s h []
noncomputable def L_slices_pdqsortCmpFunc_api_Spot_3 (Q : V → Hp → Prop) (v0 v1 v2 v3 v4 v10 v11 v12 v13 v14 : V) (h : Hp) : Prop := ∀ s : List V, s.length = (Tryz.f74).ntmps → nth s 0 = v0 ∧ nth s 1 = v1 ∧ nth s 2 = v2 ∧ nth s 3 = v3 ∧ nth s 4 = v4 ∧ nth s 10 = v10 ∧ nth s 11 = v11 ∧ nth s 12 = v12 ∧ nth s 13 = v13 ∧ nth s 14 = v14 → Lab EE Tryz.f74 c_slices_pdqsortCmpFunc_api_Spot Q [true, true, true, true, true, true, false, false, false, true, true] s h []
noncomputable def L_slices_pdqsortCmpFunc_api_Spot_4 (Q : V → Hp → Prop) (v0 v1 v2 v3 v4 v10 v11 v12 v13 : V) (h : Hp) : Prop := ∀ s : List V, s.length = (Tryz.f74).ntmps → nth s 0 = v0 ∧ nth s 1 = v1 ∧ nth s 2 = v2 ∧ nth s 3 = v3 ∧ nth s 4 = v4 ∧ nth s 10 = v10 ∧ nth s 11 = v11 ∧ nth s 12 = v12 ∧ nth s 13 = v13 → Lab EE Tryz.f74 c_slices_pdqsortCmpFunc_api_Spot Q [true, true, true, true, true, true, true, false, false, false, true, true] s h []
noncomputable def X_slices_pdqsortCmpFunc_api_Spot (l1 : V → V → V → V → V → V → V → Hp → Prop) (l2 : V → V → V → V → V → V → V → V → Hp → Prop) (l3 : V → V → V → V → V → V → V → V → V → V → Hp → Prop) (l4 : V → V → V → V → V → V → V → V → V → Hp → Prop) : Lb := fun π s h d => match d with
  | [] => bif eqB [false, true, true] π then l1 (nth s 0) (nth s 1) (nth s 2) (nth s 3) (nth s 4) (nth s 10) (nth s 11) h else bif eqB [true, true, true, true, false, false, false, true, true] π then l2 (nth s 0) (nth s 1) (nth s 2) (nth s 3) (nth s 4) (nth s 10) (nth s 11) (nth s 12) h else bif eqB [true, true, true, true, true, true, false, false, false, true, true] π then l3 (nth s 0) (nth s 1) (nth s 2) (nth s 3) (nth s 4) (nth s 10) (nth s 11) (nth s 12) (nth s 13) (nth s 14) h else bif eqB [true, true, true, true, true, true, true, false, false, false, true, true] π then l4 (nth s 0) (nth s 1) (nth s 2) (nth s 3) (nth s 4) (nth s 10) (nth s 11) (nth s 12) (nth s 13) h else False
  | _ => False
theorem o_slices_pdqsortCmpFunc_api_Spot (Q : V → Hp → Prop) : ∀ π s h d, X_slices_pdqsortCmpFunc_api_Spot (L_slices_pdqsortCmpFunc_api_Spot_1 Q) (L_slices_pdqsortCmpFunc_api_Spot_2 Q) (L_slices_pdqsortCmpFunc_api_Spot_3 Q) (L_slices_pdqsortCmpFunc_api_Spot_4 Q) π s h d → s.length = (Tryz.f74).ntmps → Lab EE Tryz.f74 c_slices_pdqsortCmpFunc_api_Spot Q π s h d := by
  intro π s h d hx hl
  cases d with
  | cons _ _ => exact hx.elim
  | nil =>
    simp only [X_slices_pdqsortCmpFunc_api_Spot] at hx
    cases hk : eqB [false, true, true] π with
    | true => rw [hk, cond_true] at hx; rw [← eqB_eq hk]; exact hx s hl ⟨rfl, rfl, rfl, rfl, rfl, rfl, rfl⟩
    | false =>
    rw [hk, cond_false] at hx
    cases hk : eqB [true, true, true, true, false, false, false, true, true] π with
    | true => rw [hk, cond_true] at hx; rw [← eqB_eq hk]; exact hx s hl ⟨rfl, rfl, rfl, rfl, rfl, rfl, rfl, rfl⟩
    | false =>
    rw [hk, cond_false] at hx
    cases hk : eqB [true, true, true, true, true, true, false, false, false, true, true] π with
    | true => rw [hk, cond_true] at hx; rw [← eqB_eq hk]; exact hx s hl ⟨rfl, rfl, rfl, rfl, rfl, rfl, rfl, rfl, rfl, rfl⟩
    | false =>
    rw [hk, cond_false] at hx
    cases hk : eqB [true, true, true, true, true, true, true, false, false, false, true, true] π with
    | true => rw [hk, cond_true] at hx; rw [← eqB_eq hk]; exact hx s hl ⟨rfl, rfl, rfl, rfl, rfl, rfl, rfl, rfl, rfl⟩
    | false =>
    rw [hk, cond_false] at hx
    exact hx.elim
noncomputable def t_slices_pdqsortCmpFunc_api_Spot_0 (p : Pr) (l1 : V → V → V → V → V → V → V → Hp → Prop) (l2 : V → V → V → V → V → V → V → V → Hp → Prop) (l3 : V → V → V → V → V → V → V → V → V → V → Hp → Prop) (l4 : V → V → V → V → V → V → V → V → V → Hp → Prop) (Q : V → Hp → Prop) (v0 v1 v2 v3 v4 : V) (h : Hp) : Prop :=
  l1 v0 v1 v2 v3 v4 (.bool true) (.bool true) h
theorem q_slices_pdqsortCmpFunc_api_Spot_0 (p : Pr) (l1 : V → V → V → V → V → V → V → Hp → Prop) (l2 : V → V → V → V → V → V → V → V → Hp → Prop) (l3 : V → V → V → V → V → V → V → V → V → V → Hp → Prop) (l4 : V → V → V → V → V → V → V → V → V → Hp → Prop) (Q : V → Hp → Prop) (v0 v1 v2 v3 v4 : V) (h : Hp) : t_slices_pdqsortCmpFunc_api_Spot_0 p l1 l2 l3 l4 Q v0 v1 v2 v3 v4 h = KAt p EE (cutOf [[false, true, true], [true, true, true, true, false, false, false, true, true], [true, true, true, true, true, true, false, false, false, true, true], [true, true, true, true, true, true, true, false, false, false, true, true]]) (X_slices_pdqsortCmpFunc_api_Spot l1 l2 l3 l4) c_slices_pdqsortCmpFunc_api_Spot [] [] (finK p Tryz.f74 Q) ([v0, v1, v2, v3, v4] ++ List.replicate 143 u0) h [] := by kernel_rfl
theorem a_slices_pdqsortCmpFunc_api_Spot {Q : V → Hp → Prop} {v0 v1 v2 v3 v4 : V} {h : Hp} (H : t_slices_pdqsortCmpFunc_api_Spot_0 (Pu EE) (L_slices_pdqsortCmpFunc_api_Spot_1 Q) (L_slices_pdqsortCmpFunc_api_Spot_2 Q) (L_slices_pdqsortCmpFunc_api_Spot_3 Q) (L_slices_pdqsortCmpFunc_api_Spot_4 Q) Q v0 v1 v2 v3 v4 h) : Ans EE 74 [v0, v1, v2, v3, v4] h Q :=
  ans_of (by kernel_rfl) e_slices_pdqsortCmpFunc_api_Spot b_slices_pdqsortCmpFunc_api_Spot (by kernel_rfl) (lab_ofX (o_slices_pdqsortCmpFunc_api_Spot Q) [] (cast (q_slices_pdqsortCmpFunc_api_Spot_0 (Pu EE) (L_slices_pdqsortCmpFunc_api_Spot_1 Q) (L_slices_pdqsortCmpFunc_api_Spot_2 Q) (L_slices_pdqsortCmpFunc_api_Spot_3 Q) (L_slices_pdqsortCmpFunc_api_Spot_4 Q) Q v0 v1 v2 v3 v4 h) H))
noncomputable def t_slices_pdqsortCmpFunc_api_Spot_1 (p : Pr) (l1 : V → V → V → V → V → V → V → Hp → Prop) (l2 : V → V → V → V → V → V → V → V → Hp → Prop) (l3 : V → V → V → V → V → V → V → V → V → V → Hp → Prop) (l4 : V → V → V → V → V → V → V → V → V → Hp → Prop) (Q : V → Hp → Prop) (v0 v1 v2 v3 v4 v10 v11 : V) (h : Hp) : Prop :=
  p.bin .sub 3 false false v2 v1 fun x1 =>
  p.bin .leq 3 false true x1 (.int .i64 12) fun x2 =>
  p.cond x2
  (fun _ =>
   p.call 96 [v0, v1, v2, v4] h fun x3 h4 =>
   Q u0 h4)
  (fun _ =>
   p.bin .eql 3 false true v3 (.int .i64 0) fun x5 =>
   p.cond x5
   (fun _ =>
    p.call 97 [v0, v1, v2, v4] h fun x6 h7 =>
    Q u0 h7)
   (fun _ =>
    p.un .not v10 fun x8 =>
    p.cond x8
    (fun _ =>
     p.call 98 [v0, v1, v2, v4] h fun x9 h10 =>
     p.bin .sub 3 false true v3 (.int .i64 1) fun x11 =>
     l2 v0 v1 v2 x11 v4 v10 v11 x1 h10)
    (fun _ =>
     l2 v0 v1 v2 v3 v4 v10 v11 x1 h)))
theorem q_slices_pdqsortCmpFunc_api_Spot_1 (p : Pr) (l1 : V → V → V → V → V → V → V → Hp → Prop) (l2 : V → V → V → V → V → V → V → V → Hp → Prop) (l3 : V → V → V → V → V → V → V → V → V → V → Hp → Prop) (l4 : V → V → V → V → V → V → V → V → V → Hp → Prop) (Q : V → Hp → Prop) (s : List V) (h : Hp) : t_slices_pdqsortCmpFunc_api_Spot_1 p l1 l2 l3 l4 Q (nth s 0) (nth s 1) (nth s 2) (nth s 3) (nth s 4) (nth s 10) (nth s 11) h = KAt p EE (cutOf [[false, true, true], [true, true, true, true, false, false, false, true, true], [true, true, true, true, true, true, false, false, false, true, true], [true, true, true, true, true, true, true, false, false, false, true, true]]) (X_slices_pdqsortCmpFunc_api_Spot l1 l2 l3 l4) c_slices_pdqsortCmpFunc_api_Spot [] [true, true, false] (finK p Tryz.f74 Q) (nths s 148 0) h [] := by kernel_rfl
theorem r_slices_pdqsortCmpFunc_api_Spot_1 {Q : V → Hp → Prop} {v0 v1 v2 v3 v4 v10 v11 : V} {h : Hp} (H : t_slices_pdqsortCmpFunc_api_Spot_1 (Pu EE) (L_slices_pdqsortCmpFunc_api_Spot_1 Q) (L_slices_pdqsortCmpFunc_api_Spot_2 Q) (L_slices_pdqsortCmpFunc_api_Spot_3 Q) (L_slices_pdqsortCmpFunc_api_Spot_4 Q) Q v0 v1 v2 v3 v4 v10 v11 h) : L_slices_pdqsortCmpFunc_api_Spot_1 Q v0 v1 v2 v3 v4 v10 v11 h := by
  intro s hl ⟨e0, e1, e2, e3, e4, e10, e11⟩
  subst e0 e1 e2 e3 e4 e10 e11
  have hl : s.length = 148 := hl
  rw [nth_all hl]
  exact lab_ofX (o_slices_pdqsortCmpFunc_api_Spot Q) [true, true, false] (cast (q_slices_pdqsortCmpFunc_api_Spot_1 (Pu EE) (L_slices_pdqsortCmpFunc_api_Spot_1 Q) (L_slices_pdqsortCmpFunc_api_Spot_2 Q) (L_slices_pdqsortCmpFunc_api_Spot_3 Q) (L_slices_pdqsortCmpFunc_api_Spot_4 Q) Q s h) H)
noncomputable def t_slices_pdqsortCmpFunc_api_Spot_2 (p : Pr) (l1 : V → V → V → V → V → V → V → Hp → Prop) (l2 : V → V → V → V → V → V → V → V → Hp → Prop) (l3 : V → V → V → V → V → V → V → V → V → V → Hp → Prop) (l4 : V → V → V → V → V → V → V → V → V → Hp → Prop) (Q : V → Hp → Prop) (v0 v1 v2 v3 v4 v10 v11 v12 : V) (h : Hp) : Prop :=
  p.call 99 [v0, v1, v2, v4] h fun x1 h2 =>
  p.extr x1 0 fun x3 =>
  p.extr x1 1 fun x4 =>
  p.bin .eql 147 false true x4 (.int .i64 2) fun x5 =>
  p.cond x5
  (fun _ =>
   p.call 100 [v0, v1, v2, v4] h2 fun x6 h7 =>
   p.bin .sub 3 false true v2 (.int .i64 1) fun x8 =>
   p.bin .sub 3 false false x3 v1 fun x9 =>
   p.bin .sub 3 false false x8 x9 fun x10 =>
   l3 v0 v1 v2 v3 v4 v10 v11 v12 x10 (.int .i64 1) h7)
  (fun _ =>
   l3 v0 v1 v2 v3 v4 v10 v11 v12 x3 x4 h2)
theorem q_slices_pdqsortCmpFunc_api_Spot_2 (p : Pr) (l1 : V → V → V → V → V → V → V → Hp → Prop) (l2 : V → V → V → V → V → V → V → V → Hp → Prop) (l3 : V → V → V → V → V → V → V → V → V → V → Hp → Prop) (l4 : V → V → V → V → V → V → V → V → V → Hp → Prop) (Q : V → Hp → Prop) (s : List V) (h : Hp) : t_slices_pdqsortCmpFunc_api_Spot_2 p l1 l2 l3 l4 Q (nth s 0) (nth s 1) (nth s 2) (nth s 3) (nth s 4) (nth s 10) (nth s 11) (nth s 12) h = KAt p EE (cutOf [[false, true, true], [true, true, true, true, false, false, false, true, true], [true, true, true, true, true, true, false, false, false, true, true], [true, true, true, true, true, true, true, false, false, false, true, true]]) (X_slices_pdqsortCmpFunc_api_Spot l1 l2 l3 l4) c_slices_pdqsortCmpFunc_api_Spot [] [true, true, false, false, false, true, true, true, true] (finK p Tryz.f74 Q) (nths s 148 0) h [] := by kernel_rfl
theorem r_slices_pdqsortCmpFunc_api_Spot_2 {Q : V → Hp → Prop} {v0 v1 v2 v3 v4 v10 v11 v12 : V} {h : Hp} (H : t_slices_pdqsortCmpFunc_api_Spot_2 (Pu EE) (L_slices_pdqsortCmpFunc_api_Spot_1 Q) (L_slices_pdqsortCmpFunc_api_Spot_2 Q) (L_slices_pdqsortCmpFunc_api_Spot_3 Q) (L_slices_pdqsortCmpFunc_api_Spot_4 Q) Q v0 v1 v2 v3 v4 v10 v11 v12 h) : L_slices_pdqsortCmpFunc_api_Spot_2 Q v0 v1 v2 v3 v4 v10 v11 v12 h := by
  intro s hl ⟨e0, e1, e2, e3, e4, e10, e11, e12⟩
  subst e0 e1 e2 e3 e4 e10 e11 e12
  have hl : s.length = 148 := hl
  rw [nth_all hl]
  exact lab_ofX (o_slices_pdqsortCmpFunc_api_Spot Q) [true, true, false, false, false, true, true, true, true] (cast (q_slices_pdqsortCmpFunc_api_Spot_2 (Pu EE) (L_slices_pdqsortCmpFunc_api_Spot_1 Q) (L_slices_pdqsortCmpFunc_api_Spot_2 Q) (L_slices_pdqsortCmpFunc_api_Spot_3 Q) (L_slices_pdqsortCmpFunc_api_Spot_4 Q) Q s h) H)
noncomputable def t_slices_pdqsortCmpFunc_api_Spot_3 (p : Pr) (l1 : V → V → V → V → V → V → V → Hp → Prop) (l2 : V → V → V → V → V → V → V → V → Hp → Prop) (l3 : V → V → V → V → V → V → V → V → V → V → Hp → Prop) (l4 : V → V → V → V → V → V → V → V → V → Hp → Prop) (Q : V → Hp → Prop) (v0 v1 v2 v3 v4 v10 v11 v12 v13 v14 : V) (h : Hp) : Prop :=
  p.gval v10 true (fun k1 =>
   k1 v11) fun x2 =>
  p.pick v10 (some x2) (some (.bool false)) fun x3 =>
  p.gval x3 true (fun k4 =>
   k4 v14) fun x5 =>
  p.gval x3 true (fun k6 =>
   p.bin .eql 147 false true x5 (.int .i64 1) fun x7 =>
   k6 x7) fun x8 =>
  p.pick x3 (some x8) (some (.bool false)) fun x9 =>
  p.cond x9
  (fun _ =>
   p.call 101 [v0, v1, v2, v4] h fun x10 h11 =>
   p.cond x10
   (fun _ =>
    Q u0 h11)
   (fun _ =>
    l4 v0 v1 v2 v3 v4 v10 v11 v12 v13 h11))
  (fun _ =>
   l4 v0 v1 v2 v3 v4 v10 v11 v12 v13 h)
theorem q_slices_pdqsortCmpFunc_api_Spot_3 (p : Pr) (l1 : V → V → V → V → V → V → V → Hp → Prop) (l2 : V → V → V → V → V → V → V → V → Hp → Prop) (l3 : V → V → V → V → V → V → V → V → V → V → Hp → Prop) (l4 : V → V → V → V → V → V → V → V → V → Hp → Prop) (Q : V → Hp → Prop) (s : List V) (h : Hp) : t_slices_pdqsortCmpFunc_api_Spot_3 p l1 l2 l3 l4 Q (nth s 0) (nth s 1) (nth s 2) (nth s 3) (nth s 4) (nth s 10) (nth s 11) (nth s 12) (nth s 13) (nth s 14) h = KAt p EE (cutOf [[false, true, true], [true, true, true, true, false, false, false, true, true], [true, true, true, true, true, true, false, false, false, true, true], [true, true, true, true, true, true, true, false, false, false, true, true]]) (X_slices_pdqsortCmpFunc_api_Spot l1 l2 l3 l4) c_slices_pdqsortCmpFunc_api_Spot [] [true, true, false, false, false, true, true, true, true, true, true] (finK p Tryz.f74 Q) (nths s 148 0) h [] := by kernel_rfl
theorem r_slices_pdqsortCmpFunc_api_Spot_3 {Q : V → Hp → Prop} {v0 v1 v2 v3 v4 v10 v11 v12 v13 v14 : V} {h : Hp} (H : t_slices_pdqsortCmpFunc_api_Spot_3 (Pu EE) (L_slices_pdqsortCmpFunc_api_Spot_1 Q) (L_slices_pdqsortCmpFunc_api_Spot_2 Q) (L_slices_pdqsortCmpFunc_api_Spot_3 Q) (L_slices_pdqsortCmpFunc_api_Spot_4 Q) Q v0 v1 v2 v3 v4 v10 v11 v12 v13 v14 h) : L_slices_pdqsortCmpFunc_api_Spot_3 Q v0 v1 v2 v3 v4 v10 v11 v12 v13 v14 h := by
  intro s hl ⟨e0, e1, e2, e3, e4, e10, e11, e12, e13, e14⟩
  subst e0 e1 e2 e3 e4 e10 e11 e12 e13 e14
  have hl : s.length = 148 := hl
  rw [nth_all hl]
  exact lab_ofX (o_slices_pdqsortCmpFunc_api_Spot Q) [true, true, false, false, false, true, true, true, true, true, true] (cast (q_slices_pdqsortCmpFunc_api_Spot_3 (Pu EE) (L_slices_pdqsortCmpFunc_api_Spot_1 Q) (L_slices_pdqsortCmpFunc_api_Spot_2 Q) (L_slices_pdqsortCmpFunc_api_Spot_3 Q) (L_slices_pdqsortCmpFunc_api_Spot_4 Q) Q s h) H)
noncomputable def t_slices_pdqsortCmpFunc_api_Spot_4 (p : Pr) (l1 : V → V → V → V → V → V → V → Hp → Prop) (l2 : V → V → V → V → V → V → V → V → Hp → Prop) (l3 : V → V → V → V → V → V → V → V → V → V → Hp → Prop) (l4 : V → V → V → V → V → V → V → V → V → Hp → Prop) (Q : V → Hp → Prop) (v0 v1 v2 v3 v4 v10 v11 v12 v13 : V) (h : Hp) : Prop :=
  p.bin .gtr 3 false true v1 (.int .i64 0) fun x1 =>
  p.gval x1 true (fun k2 =>
   k2 v4) fun x3 =>
  p.gval x1 true (fun k4 =>
   k4 v0) fun x5 =>
  p.gval x1 true (fun k6 =>
   k6 v1) fun x7 =>
  p.gval x1 true (fun k8 =>
   p.bin .sub 3 false true x7 (.int .i64 1) fun x9 =>
   k8 x9) fun x10 =>
  p.gval x1 true (fun k11 =>
   p.iaddr 29 x5 x10 fun x12 =>
   k11 x12) fun x13 =>
  p.gval x1 true (fun k14 =>
   p.load h 26 x13 fun x15 =>
   k14 x15) fun x16 =>
  p.gval x1 true (fun k17 =>
   k17 v0) fun x18 =>
  p.gval x1 true (fun k19 =>
   k19 v13) fun x20 =>
  p.gval x1 true (fun k21 =>
   p.iaddr 29 x18 x20 fun x22 =>
   k21 x22) fun x23 =>
  p.gval x1 true (fun k24 =>
   p.load h 26 x23 fun x25 =>
   k24 x25) fun x26 =>
  p.geff x1 true (fun k27 =>
   p.callv x3 [x16, x26] h fun x28 h29 =>
   k27 x28 h29) h fun x30 h31 =>
  p.gval x1 true (fun k32 =>
   p.bin .lss 3 false true x30 (.int .i64 0) fun x33 =>
   k32 x33) fun x34 =>
  p.gval x1 true (fun k35 =>
   p.un .not x34 fun x36 =>
   k35 x36) fun x37 =>
  p.pick x1 (some x37) (some (.bool false)) fun x38 =>
  p.cond x38
  (fun _ =>
   p.call 102 [v0, v1, v2, v13, v4] h31 fun x39 h40 =>
   l1 v0 x39 v2 v3 v4 v10 v11 h40)
  (fun _ =>
   p.call 103 [v0, v1, v2, v13, v4] h31 fun x41 h42 =>
   p.extr x41 0 fun x43 =>
   p.extr x41 1 fun x44 =>
   p.bin .sub 3 false false x43 v1 fun x45 =>
   p.bin .sub 3 false false v2 x43 fun x46 =>
   p.bin .quo 3 false true v12 (.int .i64 8) fun x47 =>
   p.bin .lss 3 false false x45 x46 fun x48 =>
   p.cond x48
   (fun _ =>
    p.bin .geq 3 false false x45 x47 fun x49 =>
    p.call 74 [v0, v1, x43, v3, v4] h42 fun x50 h51 =>
    p.bin .add 3 false true x43 (.int .i64 1) fun x52 =>
    l1 v0 x52 v2 v3 v4 x49 x44 h51)
   (fun _ =>
    p.bin .geq 3 false false x46 x47 fun x53 =>
    p.bin .add 3 false true x43 (.int .i64 1) fun x54 =>
    p.call 74 [v0, x54, v2, v3, v4] h42 fun x55 h56 =>
    l1 v0 v1 x43 v3 v4 x53 x44 h56))
theorem q_slices_pdqsortCmpFunc_api_Spot_4 (p : Pr) (l1 : V → V → V → V → V → V → V → Hp → Prop) (l2 : V → V → V → V → V → V → V → V → Hp → Prop) (l3 : V → V → V → V → V → V → V → V → V → V → Hp → Prop) (l4 : V → V → V → V → V → V → V → V → V → Hp → Prop) (Q : V → Hp → Prop) (s : List V) (h : Hp) : t_slices_pdqsortCmpFunc_api_Spot_4 p l1 l2 l3 l4 Q (nth s 0) (nth s 1) (nth s 2) (nth s 3) (nth s 4) (nth s 10) (nth s 11) (nth s 12) (nth s 13) h = KAt p EE (cutOf [[false, true, true], [true, true, true, true, false, false, false, true, true], [true, true, true, true, true, true, false, false, false, true, true], [true, true, true, true, true, true, true, false, false, false, true, true]]) (X_slices_pdqsortCmpFunc_api_Spot l1 l2 l3 l4) c_slices_pdqsortCmpFunc_api_Spot [] [true, true, false, false, false, true, true, true, true, true, true, true] (finK p Tryz.f74 Q) (nths s 148 0) h [] := by kernel_rfl
theorem r_slices_pdqsortCmpFunc_api_Spot_4 {Q : V → Hp → Prop} {v0 v1 v2 v3 v4 v10 v11 v12 v13 : V} {h : Hp} (H : t_slices_pdqsortCmpFunc_api_Spot_4 (Pu EE) (L_slices_pdqsortCmpFunc_api_Spot_1 Q) (L_slices_pdqsortCmpFunc_api_Spot_2 Q) (L_slices_pdqsortCmpFunc_api_Spot_3 Q) (L_slices_pdqsortCmpFunc_api_Spot_4 Q) Q v0 v1 v2 v3 v4 v10 v11 v12 v13 h) : L_slices_pdqsortCmpFunc_api_Spot_4 Q v0 v1 v2 v3 v4 v10 v11 v12 v13 h := by
  intro s hl ⟨e0, e1, e2, e3, e4, e10, e11, e12, e13⟩
  subst e0 e1 e2 e3 e4 e10 e11 e12 e13
  have hl : s.length = 148 := hl
  rw [nth_all hl]
  exact lab_ofX (o_slices_pdqsortCmpFunc_api_Spot Q) [true, true, false, false, false, true, true, true, true, true, true, true] (cast (q_slices_pdqsortCmpFunc_api_Spot_4 (Pu EE) (L_slices_pdqsortCmpFunc_api_Spot_1 Q) (L_slices_pdqsortCmpFunc_api_Spot_2 Q) (L_slices_pdqsortCmpFunc_api_Spot_3 Q) (L_slices_pdqsortCmpFunc_api_Spot_4 Q) Q s h) H)
end
end Go.Proofs.YtlllhhjlfmhmlaaGreatDoor.VM
namespace Go.Proofs.YtlllhhjlfmhmlaaGreatDoor.VM
open Go
set_option linter.unusedVariables false
set_option linter.unusedSectionVars false
set_option linter.unusedSimpArgs false
set_option maxRecDepth 20000
noncomputable section
attribute [local instance] syZ
theorem own_addr {N : Nat} {h : Hp} {v : V} {l : List Spt} (o : OwnS N h v l) {i : Nat} (hi : i < l.length) :
    ∃ b, h.t.get b = some (.cells (spCs l) 26 false) ∧ N ≤ b ∧ b < h.n ∧ blkOf v = some b ∧ ∀ (k : IntKind) (q : V → Prop), (Pu EE).iaddr 29 v (.int k i) q ↔ q (.ptr b (i * 3)) := by
  obtain ⟨ti, h1, h2⟩ := s_sl_api_Spot
  obtain ⟨⟨j, h3, h4, _, _, _⟩, _⟩ := l_api_Spot
  rcases o.at_ with ⟨_, h0⟩ | ⟨b, hb, hbn, hg, hv⟩
  · omega
  · refine ⟨b, hg, hb, hbn, by rcases hv with rfl | rfl <;> rfl, fun k q => ?_⟩
    show (∃ u, vindexAddr EE 29 v (.int k i) = some u ∧ q u) ↔ _
    have hbl : Nat.blt i l.length = true := by rw [Nat.blt_eq]; exact hi
    rcases hv with rfl | rfl <;> simp only [vindexAddr, natOf_nat, h1, Option.bind_some, h2, h3, hbl, cond_true, h4, Nat.zero_add, ex_some]
theorem spl_spt : ∀ (l : List Spt) (i : Nat) (x : Spt), i < l.length → spl (spCs l) (i * 3) (spC x) = some (spCs (l.set i x))
  | [], i, x, h => by simp at h
  | a :: l, 0, x, _ => by
    have e : ∀ m : List V, spl m 0 [] = some m := fun m => by cases m <;> rfl
    show ((((spl (spCs l) 0 []).bind fun r => some (V.int .i64 x.c :: r)).bind fun r => some (V.int .i64 x.r :: r)).bind fun r => some (V.str x.s :: r)) = _
    rw [e]
    rfl
  | a :: l, i + 1, x, h => by
    have ih := spl_spt l i x (by simpa using h)
    have e : (i + 1) * 3 = (((i * 3) + 1) + 1) + 1 := by omega
    rw [e]
    show ((((spl (spCs l) (i * 3) (spC x)).bind fun r => some (V.int .i64 a.c :: r)).bind fun r => some (V.int .i64 a.r :: r)).bind fun r => some (V.str a.s :: r)) = _
    rw [ih]
    rfl
/-- an element is written -/
theorem own_store {N : Nat} {h : Hp} {v : V} {l : List Spt} (o : OwnS N h v l) {i b : Nat} (hi : i < l.length) (hb : blkOf v = some b) (x : Spt) {q : Hp → Prop} (hq : ∀ h', OwnS N h' v (l.set i x) → Ext N h h' → h'.n = h.n → q h') : (Pu EE).store h 26 (.ptr b (i * 3)) (spV x) q := by
  obtain ⟨b', hg, hbN, hbn, hb', _⟩ := own_addr o hi
  rw [hb] at hb'
  cases hb'
  refine pu_storeX l_api_Spot hg rfl rfl (spl_spt l i x hi) fun h1 w => hq h1 ⟨by rw [spCs_len], ?_⟩ (w.ext hbN) w.n
  rcases o.at_ with ⟨_, h0⟩ | ⟨b2, h2, h3, h4, h5⟩
  · omega
  · have : b2 = b := by rcases h5 with rfl | rfl <;> (cases hb; rfl)
    subst this
    refine .inr ⟨b2, h2, by rw [w.n]; exact h3, w.at_, ?_⟩
    rw [List.length_set]
    exact h5
def gD (l : List Spt) (i : Nat) : Spt := l.getD i sp0
theorem gD_at {l : List Spt} {i : Nat} (h : i < l.length) : l[i]? = some (gD l i) := by simp [gD, List.getD, h]
theorem gD_set {l : List Spt} {i j : Nat} {x : Spt} (h : i < l.length) : gD (l.set i x) j = if j = i then x else gD l j := by
  unfold gD
  rw [List.getD_eq_getElem?_getD, List.getD_eq_getElem?_getD, List.getElem?_set]
  by_cases e : i = j
  · subst e; simp [h]
  · rw [if_neg e, if_neg (fun q => e q.symm)]
/-- in order but for one place -/
structure InsI (l : List Spt) (i j : Nat) : Prop where
  a : ∀ p q, p < q → q ≤ i → p ≠ j → q ≠ j → spLe (gD l p) (gD l q)
  b : ∀ q, j < q → q ≤ i → spLe (gD l j) (gD l q)
def SortedTo (l : List Spt) (i : Nat) : Prop := ∀ p q, p < q → q < i → spLe (gD l p) (gD l q)
theorem cmp_lt (a b : Spt) : spCmpZ a b < 0 ↔ spLt a b = true := by
  unfold spCmpZ
  cases spLt a b with
  | true => simp
  | false =>
    simp
    split <;> omega
theorem ins_loop (Q : V → Hp → Prop) (N : Nat) (n : Nat) (hn : n ≤ 1000) (l0 : List Spt) (h0 : Hp) (v : V) (hq : ∀ (h : Hp) (l : List Spt), OwnS N h v l → l.Perm l0 → SortedTo l l.length → Ext N h0 h → N ≤ h.n → Q u0 h) :
    ∀ (k i : Nat), n - i = k → 1 ≤ i → ∀ (h : Hp) (l : List Spt), l.length = n → OwnS N h v l → l.Perm l0 → SortedTo l i → Ext N h0 h → N ≤ h.n →
      L_slices_insertionSortCmpFunc_api_Spot_1 Q v (.int .i64 0) (.int .i64 n) (.fn (.func 19) [] []) (.int .i64 i) h := by
  intro k
  induction k with
  | zero =>
    intro i hk hi h l hl o hp hs x hNn
    apply r_slices_insertionSortCmpFunc_api_Spot_1
    unfold t_slices_insertionSortCmpFunc_api_Spot_1
    rw [pu_lssN, pu_cond_d]
    exact ⟨fun q => absurd q (by omega), fun _ => hq h l o hp (fun p q h1 h2 => hs p q h1 (by omega)) x hNn⟩
  | succ k ih =>
    intro i hk hi h l hl o hp hs x hNn
    apply r_slices_insertionSortCmpFunc_api_Spot_1
    unfold t_slices_insertionSortCmpFunc_api_Spot_1
    rw [pu_lssN, pu_cond_d]
    refine ⟨fun hin => ?_, fun q => absurd (by omega) q⟩
    have inner : ∀ (j : Nat), j ≤ i → ∀ (h : Hp) (l : List Spt), l.length = n → OwnS N h v l → l.Perm l0 → InsI l i j → Ext N h0 h → N ≤ h.n →
        L_slices_insertionSortCmpFunc_api_Spot_2 Q v (.int .i64 0) (.int .i64 n) (.fn (.func 19) [] []) (.int .i64 i) (.int .i64 j) h := by
      intro j
      induction j with
      | zero =>
        intro hj h l hl o hp I x hNn
        apply r_slices_insertionSortCmpFunc_api_Spot_2
        unfold t_slices_insertionSortCmpFunc_api_Spot_2
        rw [pu_gtr, decide_eq_false (by omega : ¬ ((0 : Int) < ((0 : Nat) : Int)))]
        simp only [pu_gval_ft, pu_geff_ft, pu_pick_f, pu_cond_f]
        rw [pu_inc _ _ _ _ (by omega)]
        refine ih (i + 1) (by omega) (by omega) h l hl o hp (fun p q h1 h2 => ?_) x hNn
        by_cases hp0 : p = 0
        · subst hp0; exact I.b q h1 (by omega)
        · exact I.a p q h1 (by omega) hp0 (by omega)
      | succ j ihj =>
        intro hj h l hl o hp I x hNn
        apply r_slices_insertionSortCmpFunc_api_Spot_2
        unfold t_slices_insertionSortCmpFunc_api_Spot_2
        rw [pu_gtr, decide_eq_true (by omega : ((0 : Int) < ((j + 1 : Nat) : Int)))]
        simp only [pu_gval_y, pu_geff_y, pu_pick_t]
        have hjl : j + 1 < l.length := by omega
        have hj0 : j < l.length := by omega
        have hsub : ∀ q : V → Prop, (Pu EE).bin .sub 3 false true (.int .i64 ((j + 1 : Nat) : Int)) (.int .i64 1) q ↔ q (.int .i64 (j : Nat)) := fun q => by
          rw [pu_sub, show (((j + 1 : Nat) : Int)) - 1 = ((j : Nat) : Int) by omega, w64 _ (by omega)]
        obtain ⟨b, hg, hbN, hbn, hbv, hia⟩ := own_addr o hjl
        obtain ⟨b', hg', _, _, hbv', hia'⟩ := own_addr o hj0
        have hbb : b' = b := by rw [hbv] at hbv'; exact (Option.some.inj hbv').symm
        subst hbb
        obtain ⟨p1, q1, g1, g2, _⟩ := sps_get o.sps s_sl_api_Spot l_api_Spot (gD_at hjl)
        obtain ⟨p2, q2, g3, g4, _⟩ := sps_get o.sps s_sl_api_Spot l_api_Spot (gD_at hj0)
        rw [g1, g2, hsub, g3, g4]
        refine ⟨(19, [spV (gD l (j + 1)), spV (gD l j)]), rfl, ?_⟩
        refine (cmp_ok (gD l (j + 1)) (gD l j) h).mono ?_
        rintro y h2 ⟨rfl, x2⟩
        have n2 := x2.n
        have o2 : OwnS N h2 v l := o.keep x2.n fun c hc => x2.old c (o.in_ c hc)
        rw [pu_lss, show decide (spCmpZ (gD l (j + 1)) (gD l j) < 0) = decide (spLt (gD l (j + 1)) (gD l j) = true) by rw [decide_eq_decide]; exact cmp_lt _ _, pu_cond_d]
        refine ⟨fun e => ?_, fun e => ?_⟩
        · obtain ⟨p3, q3, g5, g6, _⟩ := sps_get o2.sps s_sl_api_Spot l_api_Spot (gD_at hjl)
          obtain ⟨p4, q4, g7, g8, _⟩ := sps_get o2.sps s_sl_api_Spot l_api_Spot (gD_at hj0)
          rw [hsub, hsub, g7, g8, g5, g6, hia]
          refine own_store o2 hjl hbv (gD l j) fun h3 o3 x3 n3 => ?_
          rw [hia']
          refine own_store o3 (by rw [List.length_set]; exact hj0) hbv (gD l (j + 1)) fun h4 o4 x4 n4 => ?_
          rw [hsub]
          have gs : ∀ p, gD ((l.set (j + 1) (gD l j)).set j (gD l (j + 1))) p = if p = j then gD l (j + 1) else if p = j + 1 then gD l j else gD l p := fun p => by
            rw [gD_set (by rw [List.length_set]; exact hj0), gD_set hjl]
          have hperm : ((l.set (j + 1) (gD l j)).set j (gD l (j + 1))).Perm l := by
            have := swap_perm (L := l) (i := j + 1) (k := j) hjl hj0
            exact this
          refine ihj (by omega) h4 _ (by simp [hl]) o4 (hperm.trans hp) ⟨fun p q hpq hq' hpj hqj => ?_, fun q hq1 hq2 => ?_⟩ (x.trans ((x2.mono hNn).trans (x3.trans x4))) (by omega)
          · rw [gs, gs, if_neg hpj, if_neg hqj]
            by_cases p1 : p = j + 1
            · rw [if_pos p1, if_neg (by omega)]
              exact I.a j q (by omega) hq' (by omega) (by omega)
            · rw [if_neg p1]
              by_cases q1 : q = j + 1
              · rw [if_pos q1]
                exact I.a p j (by omega) (by omega) p1 (by omega)
              · rw [if_neg q1]
                exact I.a p q hpq hq' p1 q1
          · rw [gs, gs, if_pos rfl, if_neg (by omega)]
            by_cases q1 : q = j + 1
            · rw [if_pos q1]
              exact spLe_of_lt e
            · rw [if_neg q1]
              exact I.b q (by omega) hq2
        · rw [pu_inc _ _ _ _ (by omega)]
          have hle : spLe (gD l j) (gD l (j + 1)) := spLe_of_not e
          refine ih (i + 1) (by omega) (by omega) h2 l hl o2 hp (fun p q h1 h2 => ?_) (x.trans (x2.mono hNn)) (by omega)
          by_cases p1 : p = j + 1
          · subst p1; exact I.b q h1 (by omega)
          · by_cases q1 : q = j + 1
            · subst q1
              by_cases p2 : p = j
              · subst p2; exact hle
              · exact (I.a p j (by omega) (by omega) p1 (by omega)).trans hle
            · exact I.a p q h1 (by omega) p1 q1
    refine inner i (Nat.le_refl _) h l hl o hp ⟨fun p q h1 h2 h3 h4 => hs p q h1 (by omega), fun q h1 h2 => absurd h1 (by omega)⟩ x hNn
theorem insSort_ok (N : Nat) (h : Hp) (v : V) (l : List Spt) (o : OwnS N h v l) (hl : l.length ≤ 12) (hN : N ≤ h.n) : Ans EE 96 [v, .int .i64 0, .int .i64 l.length, .fn (.func 19) [] []] h fun x h' => ∃ l', OwnS N h' v l' ∧ l'.Perm l ∧ l'.Pairwise spLe ∧ Ext N h h' ∧ N ≤ h'.n := by
  apply a_slices_insertionSortCmpFunc_api_Spot
  unfold t_slices_insertionSortCmpFunc_api_Spot_0
  rw [show (0 : Int) = ((0 : Nat) : Int) from rfl, pu_inc _ _ _ _ (by omega)]
  refine ins_loop _ N l.length (by omega) l h v (fun h' l' o' p' s' x' n' => ⟨l', o', p', ?_, x', n'⟩) _ 1 rfl (Nat.le_refl _) h l rfl o (List.Perm.refl _) (fun p q h1 h2 => absurd h1 (by omega)) (Ext.refl _ _) hN
  refine List.pairwise_iff_getElem.2 fun p q hp hq hpq => ?_
  have := s' p q hpq hq
  unfold gD at this
  simpa [List.getD, hp, hq] using this
end
end Go.Proofs.YtlllhhjlfmhmlaaGreatDoor.VM
namespace Go.Proofs.YtlllhhjlfmhmlaaGreatDoor.VM
open Go
set_option linter.unusedVariables false
set_option linter.unusedSectionVars false
set_option linter.unusedSimpArgs false
set_option maxRecDepth 20000
noncomputable section
attribute [local instance] syZ
theorem i_uint : IsInt EE 119 .u64 := isInt (by kernel_rfl)
theorem pu_conv {s d : Nat} {k k' : IntKind} (hs : IsInt EE s k') (hd : IsInt EE d k) (h : Hp) (n : Int) (q : V → Prop) : (Pu EE).conv h s d (.int k' n) q ↔ q (.int k (k.wrap n)) := by
  obtain ⟨i, h1, _⟩ := hs
  obtain ⟨j, h2, h3⟩ := hd
  exact pu_conv_int h s d i j k k' h1 h2 h3 n q
theorem lenRun (n : Nat) (hn : n ≤ 12) (h : Hp) : ∃ k : Int, callOf EE (exec EE 100) 75 [.int .u64 n] h = some (.int .i64 k, h) := by
  rcases (by omega : n = 0 ∨ n = 1 ∨ n = 2 ∨ n = 3 ∨ n = 4 ∨ n = 5 ∨ n = 6 ∨ n = 7 ∨ n = 8 ∨ n = 9 ∨ n = 10 ∨ n = 11 ∨ n = 12) with rfl | rfl | rfl | rfl | rfl | rfl | rfl | rfl | rfl | rfl | rfl | rfl | rfl
  · exact ⟨0, by kernel_rfl⟩
  · exact ⟨1, by kernel_rfl⟩
  · exact ⟨2, by kernel_rfl⟩
  · exact ⟨2, by kernel_rfl⟩
  · exact ⟨3, by kernel_rfl⟩
  · exact ⟨3, by kernel_rfl⟩
  · exact ⟨3, by kernel_rfl⟩
  · exact ⟨3, by kernel_rfl⟩
  · exact ⟨4, by kernel_rfl⟩
  · exact ⟨4, by kernel_rfl⟩
  · exact ⟨4, by kernel_rfl⟩
  · exact ⟨4, by kernel_rfl⟩
  · exact ⟨4, by kernel_rfl⟩
def SortPost (N : Nat) (v : V) (l : List Spt) (h' : Hp) : Prop := ∃ l', OwnS N h' v l' ∧ l'.Perm l ∧ l'.Pairwise spLe ∧ N ≤ h'.n
theorem pdq_ok (N : Nat) (h : Hp) (v : V) (l : List Spt) (z : Int) (o : OwnS N h v l) (hl : l.length ≤ 12) (hN : N ≤ h.n) : Ans EE 74 [v, .int .i64 0, .int .i64 l.length, .int .i64 z, .fn (.func 19) [] []] h fun x h' => SortPost N v l h' ∧ Ext N h h' := by
  apply a_slices_pdqsortCmpFunc_api_Spot
  unfold t_slices_pdqsortCmpFunc_api_Spot_0
  apply r_slices_pdqsortCmpFunc_api_Spot_1
  unfold t_slices_pdqsortCmpFunc_api_Spot_1
  rw [pu_sub, show (l.length : Int) - 0 = (l.length : Int) by omega, w64 _ (by omega), show (12 : Int) = ((12 : Nat) : Int) from rfl, leqN, decide_eq_true hl, pu_cond_t]
  refine (insSort_ok N h v l o hl hN).mono ?_
  rintro y h2 ⟨l', o', p', s', x', n'⟩
  exact ⟨⟨l', o', p', s', n'⟩, x'⟩
theorem sortF_ok (N : Nat) (h : Hp) (v : V) (l : List Spt) (o : OwnS N h v l) (hl : l.length ≤ 12) (hN : N ≤ h.n) : Ans EE 51 [v, .fn (.func 19) [] []] h fun x h' => SortPost N v l h' ∧ Ext N h h' := by
  apply a_slices_SortFunc_api_Spot_api_Spot
  unfold t_slices_SortFunc_api_Spot_api_Spot_0
  rw [pu_len o.sps s_sl_api_Spot, pu_conv i_int i_uint]
  have hw : IntKind.u64.wrap (l.length : Int) = (l.length : Int) := by
    unfold IntKind.wrap
    simp [IntKind.bits, IntKind.signed]
    omega
  rw [hw]
  obtain ⟨k, hk⟩ := lenRun l.length hl h
  refine Ans.mono (Q := fun x h' => x = .int .i64 k ∧ h' = h) ⟨_, _, ⟨100, hk⟩, rfl, rfl⟩ ?_
  rintro y h2 ⟨rfl, rfl⟩
  exact (pdq_ok N h2 v l k o hl hN).mono fun x h' q => q
theorem compact_ok (N : Nat) (h : Hp) (v : V) (l : List Spt) (o : OwnS N h v l) (hs : Ris l) (hl : l.length < 1000000) : Ans EE 53 [v] h fun x h' => x = v ∧ h' = h := by
  apply a_slices_Compact_api_Spot_api_Spot
  unfold t_slices_Compact_api_Spot_api_Spot_0
  rw [pu_len o.sps s_sl_api_Spot, show (2 : Int) = ((2 : Nat) : Int) from rfl, pu_lssN, pu_cond_d]
  refine ⟨fun _ => ⟨rfl, rfl⟩, fun h2 => ?_⟩
  have loop : ∀ (k i : Nat), l.length - i = k → 1 ≤ i → i ≤ l.length → L_slices_Compact_api_Spot_api_Spot_1 (fun x h' => x = v ∧ h' = h) v (.int .i64 i) h := by
    intro k
    induction k with
    | zero =>
      intro i hk hi hil
      apply r_slices_Compact_api_Spot_api_Spot_1
      unfold t_slices_Compact_api_Spot_api_Spot_1
      rw [pu_len o.sps s_sl_api_Spot, pu_lssN, pu_cond_d]
      exact ⟨fun q => absurd q (by omega), fun _ => ⟨rfl, rfl⟩⟩
    | succ k ih =>
      intro i hk hi hil
      apply r_slices_Compact_api_Spot_api_Spot_1
      unfold t_slices_Compact_api_Spot_api_Spot_1
      rw [pu_len o.sps s_sl_api_Spot, pu_lssN, pu_cond_d]
      refine ⟨fun hin => ?_, fun q => absurd (by omega) q⟩
      obtain ⟨b1, o1, g1, g2, _⟩ := sps_get o.sps s_sl_api_Spot l_api_Spot (List.getElem?_eq_getElem hin)
      obtain ⟨b2, o2, g3, g4, _⟩ := sps_get o.sps s_sl_api_Spot l_api_Spot (List.getElem?_eq_getElem (by omega : i - 1 < l.length))
      rw [g1, g2, pu_sub, show (i : Int) - 1 = ((i - 1 : Nat) : Int) by omega, w64 _ (by omega), g3, g4, pu_speq]
      have hne : l[i] ≠ l[i - 1] := fun e => by
        have := List.pairwise_iff_getElem.1 hs (i - 1) i (by omega) hin (by omega)
        rw [← e, spLt_irr] at this
        cases this
      rw [decide_eq_false hne, pu_cond_f, pu_inc _ _ _ _ (by omega)]
      exact ih (i + 1) (by omega) (by omega) (by omega)
  rw [show (1 : Int) = ((1 : Nat) : Int) from rfl]
  exact loop _ 1 rfl (Nat.le_refl _) (by omega)
def isNils : V → Bool
  | .nils => true
  | _ => false
theorem pu_slnil {N : Nat} {h : Hp} {v : V} {l : List Spt} (o : OwnS N h v l) (cx cy : Bool) (q : V → Prop) : (Pu EE).bin .eql 29 cx cy v .nils q ↔ q (.bool (isNils v)) := by
  obtain ⟨i, h1, h2⟩ := s_sl_api_Spot
  show (∃ u, vbinB EE .eql 29 cx cy v .nils = some u ∧ q u) ↔ _
  have : vbinB EE .eql 29 cx cy v .nils = some (.bool (isNils v)) := by
    have key : ∀ x : V, vbinB EE .eql 29 cx cy x .nils = eqOp .eql ((EE.ty.get 29).bind fun i => veq EE i x .nils) → vbinB EE .eql 29 cx cy x .nils = eqOp .eql (veq EE i x .nils) := fun x e => by rw [e, h1]; rfl
    rcases o.at_ with ⟨rfl, _⟩ | ⟨b, _, _, _, rfl | rfl⟩
    · rw [key _ rfl]
      simp only [veq, h2]
      rfl
    · rw [key _ rfl]
      simp only [veq, h2]
      rfl
    · rw [key _ rfl]
      simp only [veq, h2]
      rfl
  rw [this, ex_some]
theorem clone_ok (N : Nat) (h : Hp) (v : V) (l : List Spt) (o : OwnS N h v l) (hl : l.length ≤ 1000000) : Ans EE 52 [v] h fun x h' => OwnS h.n h' x l ∧ Ext h.n h h' := by
  apply a_slices_Clone_api_Spot_api_Spot
  unfold t_slices_Clone_api_Spot_api_Spot_0
  rw [pu_slnil o, pu_cond]
  refine ⟨fun e => ?_, fun e => ?_⟩
  · have hl0 : l = [] := by
      rcases o.at_ with ⟨_, h0⟩ | ⟨b, _, _, _, rfl | rfl⟩
      · exact List.length_eq_zero_iff.1 h0
      · cases e
      · cases e
    subst hl0
    exact ⟨OwnS.nil _ _, Ext.refl _ _⟩
  · rw [pu_bsl0 s_sl_api_Spot l_api_Spot]
    obtain ⟨h1, hh1⟩ : ∃ h1, h1 = h.new (.cells [] 26 false) := ⟨_, rfl⟩
    rw [← hh1]
    have n1 : h1.n = h.n + 1 := by rw [hh1]; rfl
    have x1 : Ext h.n h h1 := by rw [hh1]; exact Ext.new (Nat.le_refl _) _
    have o1 : Own h.n h1 (.sl h.n 0 0 0) 26 3 0 [] := ⟨by simp, .inr ⟨h.n, Nat.le_refl _, by omega, by rw [hh1, Hp.get_new, if_pos rfl], .inr rfl⟩⟩
    refine app_all o1 s_sl_api_Spot l_api_Spot (o.sps.ext x1 o.in_) (spCs_cells l) (by omega) (by omega) fun v2 h2 o2 x2 _ _ => ⟨?_, x1.trans x2⟩
    rw [Nat.zero_add, List.nil_append] at o2
    exact o2
theorem ris_of {l : List Spt} (h : l.Pairwise spLe) (hd : l.Nodup) : Ris l := by
  refine List.Pairwise.imp₂ (fun a b h1 h2 => ?_) h hd
  rcases h1.cases with e | e
  · exact absurd e h2
  · exact e
theorem rising_ok (N : Nat) (h : Hp) (v : V) (l : List Spt) (o : OwnS N h v l) (hl : l.length ≤ 12) (hN : N ≤ h.n) (hd : l.Nodup) : Ans EE 32 [v] h fun x h' => ∃ l', OwnS N h' x l' ∧ l'.Perm l ∧ Ris l' ∧ Ext N h h' := by
  apply a_deps_rising
  unfold t_deps_rising_0
  refine (sortF_ok N h v l o hl hN).mono ?_
  rintro y h2 ⟨⟨l', o', p', s', n'⟩, x'⟩
  have hr : Ris l' := ris_of s' (p'.nodup_iff.2 hd)
  have hlen := p'.length_eq
  refine (compact_ok N h2 v l' o' hr (by omega)).mono ?_
  rintro y h3 ⟨rfl, rfl⟩
  refine (clone_ok N h3 y l' o' (by omega)).mono ?_
  rintro z h4 ⟨o4, x4⟩
  exact ⟨l', o4.mono n', p', hr, x'.trans (x4.mono n')⟩
end
end Go.Proofs.YtlllhhjlfmhmlaaGreatDoor.VM
namespace Go.Proofs.YtlllhhjlfmhmlaaGreatDoor.VM
open Go
set_option linter.unusedVariables false
set_option linter.unusedSectionVars false
set_option linter.unusedSimpArgs false
set_option maxRecDepth 20000
noncomputable section
attribute [local instance] syZ
theorem pu_min (h : Hp) (ts : Array TypeId) (a b : Int) (q : V → Prop) : (Pu EE).lbui h ts .min [.int .i64 a, .int .i64 b] q ↔ q (.int .i64 (if b < a then b else a)) := by
  show (∃ v, lBuiltin EE h ts .min [.int .i64 a, .int .i64 b] = some v ∧ q v) ↔ _
  have : lBuiltin EE h ts .min [.int .i64 a, .int .i64 b] = some (.int .i64 (if b < a then b else a)) := by
    show vminS EE true [.int .i64 a, .int .i64 b] = _
    unfold vminS vmin
    simp only [vminF, keq_refl, cond_true, ilt_dec, mkInt_eq, Bool.cond_decide]
  rw [this, ex_some]
theorem w64m (n : Nat) (h : n < 1000000) : IntKind.i64.wrap ((n : Int) - 1) = (n : Int) - 1 := by
  unfold IntKind.wrap
  simp [IntKind.bits, IntKind.signed]
  omega
theorem min_guard (c t n : Nat) : decide ((c : Int) ≤ if (n : Int) - 1 < (t : Int) then (n : Int) - 1 else (t : Int)) = decide (c < min (t + 1) n) := by
  rw [decide_eq_decide]
  split <;> omega
theorem neqN (a : Nat) (b : Nat) (t : Nat) (cx cy : Bool) (q : V → Prop) : (Pu EE).bin .neq t cx cy (.int .i64 a) (.int .i64 b) q ↔ q (.bool (!decide (a = b))) := by
  rw [pu_neq]
  have : decide ((a : Int) = (b : Int)) = decide (a = b) := by rw [decide_eq_decide]; omega
  rw [this]
theorem own_fresh {N : Nat} {h : Hp} {v : V} {l : List Spt} (o : OwnS N h v l) {b : Nat} (hb : h.n ≤ b) : blkOf v ≠ some b := fun e => by
  have := o.in_ b e
  omega
/-- the box of a node, its corner told -/
def boxN (d : Nd) (tr tc : Nat) (t0 t3 t4 : V) : List V := [.int .i64 d.k, d.z 0, d.z 1, .str d.s, .int .i64 d.c, .int .i64 d.r, d.z 2, d.z 3, t0, .int .i64 tc, .int .i64 tr, t3, t4, d.z 7]
section
variable (Q : V → Hp → Prop) (M : Nat) (h0 : Hp) (bk : Bok) (sv nv : V) (nds : List Nd) (s : Spt) (b2 b3 : Nat)
/-- what stands while Needs goes on -/
structure DN (h : Hp) (v : V) (acc : List Spt) : Prop where
  bk : ShsAt M h sv bk
  box : h.t.get b2 = some (.cells [sv] 24 false)
  spot : h.t.get b3 = some (.cells (spC s) 26 false)
  nodes : NodesAt h0.n h nv nds
  own : OwnS h0.n h v acc
  ext : Ext h0.n h0 h
variable (hM : M ≤ h0.n) (hb2 : b2 < h0.n) (hb3 : b3 < h0.n) (g : Good bk) (tot : List Spt) (htot : tot.length ≤ 12)
include hM hb2 hb3
theorem DN.next {h h' : Hp} {v v' : V} {acc acc' : List Spt} (a : DN M h0 bk sv nv nds s b2 b3 h v acc) (x : Ext h0.n h h') (o : OwnS h0.n h' v' acc') : DN M h0 bk sv nv nds s b2 b3 h' v' acc' :=
  ⟨a.bk.ext (x.mono hM), by rw [x.old b2 hb2]; exact a.box, by rw [x.old b3 hb3]; exact a.spot, a.nodes.ext x, o, a.ext.trans x⟩
include g htot
theorem dn_l3 (i b8 : Nat) (d : Nd) (tr tc : Nat) (t0 t3 t4 : V) (nm : List Nat) (rv : V) (rows : List (List (List Nat))) (r : Nat) (row : List (List Nat)) (rest : List Spt) (hrow : rows[r]? = some row) (hrl : row.length < 1000000) (hrr : rows.length < 1000000) (hb8 : h0.n ≤ b8)
    (hnext : ∀ (h : Hp) (v : V) (acc : List Spt), DN M h0 bk sv nv nds s b2 b3 h v acc → RowsAt M h rv rows → h.t.get b8 = some (.cells (boxN d tr tc t0 t3 t4) 66 false) → blkOf v ≠ some b8 → b8 < h.n → acc ++ rest = tot →
      L_deps_Needs_2 Q (.ptr b2 0) (.ptr b3 0) v (.ptr b8 0) (.str nm) rv (.int .i64 (r + 1 : Nat)) nv (.int .i64 nds.length) (.int .i64 i) h) :
    ∀ (k c : Nat), min (tc + 1) row.length - c = k → ∀ (h : Hp) (v : V) (acc : List Spt), DN M h0 bk sv nv nds s b2 b3 h v acc → RowsAt M h rv rows → h.t.get b8 = some (.cells (boxN d tr tc t0 t3 t4) 66 false) → blkOf v ≠ some b8 → b8 < h.n →
      acc ++ (colsL nm r c (min (tc + 1) row.length) ++ rest) = tot → L_deps_Needs_3 Q (.ptr b2 0) (.ptr b3 0) v (.ptr b8 0) (.str nm) rv (.int .i64 r) (.int .i64 c) nv (.int .i64 nds.length) (.int .i64 i) h := by
  have hril := (List.getElem?_eq_some_iff.1 hrow).1
  intro k
  induction k with
  | zero =>
    intro c hk h v acc a hra h8 hne hbn he
    apply r_deps_Needs_3
    unfold t_deps_Needs_3
    obtain ⟨b5, o5, w5, m1, m2, m3⟩ := rows_get hra s_sl_sl_string l_sl_string hrow
    rw [fa_api_Node_4, fa_api_Ref_1, pu_load1 l_int h8 rfl, m1, m2, pu_len m3.1 s_sl_string, pu_sub, w64m _ hrl, pu_min, pu_leq, min_guard, pu_cond_d]
    refine ⟨fun h1 => absurd h1 (by omega), fun _ => ?_⟩
    rw [pu_inc _ _ _ _ (by omega)]
    rw [colsL_end (by omega), List.nil_append] at he
    exact hnext h v acc a hra h8 hne hbn he
  | succ k ih =>
    intro c hk h v acc a hra h8 hne hbn he
    apply r_deps_Needs_3
    unfold t_deps_Needs_3
    obtain ⟨b5, o5, w5, m1, m2, m3⟩ := rows_get hra s_sl_sl_string l_sl_string hrow
    rw [fa_api_Node_4, fa_api_Ref_1, pu_load1 l_int h8 rfl, m1, m2, pu_len m3.1 s_sl_string, pu_sub, w64m _ hrl, pu_min, pu_leq, min_guard, pu_cond_d]
    refine ⟨fun h1 => ?_, fun h1 => absurd (by omega) h1⟩
    rw [mk_spot]
    rw [colsL_step h1] at he
    have hl : acc.length + 1 ≤ 1048576 := by
      have := congrArg List.length he
      simp only [List.length_append, List.cons_append, List.length_cons] at this
      omega
    refine append_spot a.own _ hl a.ext.n _ fun v' h' o' x hkeep hblk => ?_
    rw [pu_inc _ _ _ _ (by omega)]
    refine ih (c + 1) (by omega) h' v' (acc ++ [⟨nm, r, c⟩]) (a.next M h0 bk sv nv nds s b2 b3 hM hb2 hb3 x o') (hra.ext (x.mono hM)) (by rw [hkeep b8 hbn hne]; exact h8) (fun e => ?_) (Nat.lt_of_lt_of_le hbn ?_) ?_
    · rcases hblk b8 e with e' | e'
      · exact hne e'
      · omega
    · exact x.n
    · rw [← he]
      simp
theorem dn_l2 (i b8 : Nat) (d : Nd) (tr tc r0 : Nat) (t0 t3 t4 : V) (nm : List Nat) (rv : V) (rows : List (List (List Nat))) (rest : List Spt) (hrl : ∀ row ∈ rows, row.length < 1000000) (hrr : rows.length < 1000000) (hb8 : h0.n ≤ b8) (hi : i < 1000000)
    (hnext : ∀ (h : Hp) (v : V) (acc : List Spt), DN M h0 bk sv nv nds s b2 b3 h v acc → acc ++ rest = tot → L_deps_Needs_1 Q (.ptr b2 0) (.ptr b3 0) v nv (.int .i64 nds.length) (.int .i64 (i + 1 : Nat)) h) :
    ∀ (k r : Nat), min (tr + 1) rows.length - r = k → ∀ (h : Hp) (v : V) (acc : List Spt), DN M h0 bk sv nv nds s b2 b3 h v acc → RowsAt M h rv rows → h.t.get b8 = some (.cells (boxN d tr tc t0 t3 t4) 66 false) → blkOf v ≠ some b8 → b8 < h.n →
      acc ++ (rowsL ⟨nm, r0, d.c, tr, tc⟩ rows k r ++ rest) = tot → L_deps_Needs_2 Q (.ptr b2 0) (.ptr b3 0) v (.ptr b8 0) (.str nm) rv (.int .i64 r) nv (.int .i64 nds.length) (.int .i64 i) h := by
  intro k
  induction k with
  | zero =>
    intro r hk h v acc a hra h8 hne hbn he
    apply r_deps_Needs_2
    unfold t_deps_Needs_2
    obtain ⟨us, hu⟩ := hra.rd
    rw [fa_api_Node_4, fa_api_Ref_2, pu_load1 l_int h8 rfl, pu_len hu s_sl_sl_string, pu_sub, w64m _ hrr, pu_min, pu_leq, min_guard, pu_cond_d]
    refine ⟨fun h1 => absurd h1 (by omega), fun _ => ?_⟩
    rw [pu_inc _ _ _ _ (by omega)]
    rw [rowsL, List.nil_append] at he
    exact hnext h v acc a he
  | succ k ih =>
    intro r hk h v acc a hra h8 hne hbn he
    apply r_deps_Needs_2
    unfold t_deps_Needs_2
    obtain ⟨us, hu⟩ := hra.rd
    rw [fa_api_Node_4, fa_api_Ref_2, pu_load1 l_int h8 rfl, pu_len hu s_sl_sl_string, pu_sub, w64m _ hrr, pu_min, pu_leq, min_guard, pu_cond_d]
    refine ⟨fun h1 => ?_, fun h1 => absurd (by omega) h1⟩
    rw [fa_api_Node_3, fa_api_Ref_1, pu_load1 l_int h8 rfl]
    have hrow : rows[r]? = some rows[r] := List.getElem?_eq_getElem (by omega)
    rw [rowsL, hrow] at he
    simp only [Option.getD_some, List.append_assoc] at he
    exact dn_l3 Q M h0 bk sv nv nds s b2 b3 hM hb2 hb3 g tot htot i b8 d tr tc t0 t3 t4 nm rv rows r rows[r] _ hrow (hrl _ (List.mem_of_getElem? hrow)) hrr hb8
      (fun h' v' acc' a' hra' h8' hne' hbn' he' => ih (r + 1) (by omega) h' v' acc' a' hra' h8' hne' hbn' he') _ d.c rfl h v acc a hra h8 hne hbn he
theorem dn_l5 (i b8 : Nat) (d : Nd) (tr tc : Nat) (t0 t3 t4 : V) (nm : List Nat) (rest : List Spt) (hb8 : h0.n ≤ b8) (hi : i < 1000000)
    (hnext : ∀ (h : Hp) (v : V) (acc : List Spt), DN M h0 bk sv nv nds s b2 b3 h v acc → acc ++ rest = tot → L_deps_Needs_1 Q (.ptr b2 0) (.ptr b3 0) v nv (.int .i64 nds.length) (.int .i64 (i + 1 : Nat)) h)
    (h : Hp) (v : V) (acc : List Spt) (a : DN M h0 bk sv nv nds s b2 b3 h v acc) (h8 : h.t.get b8 = some (.cells (boxN d tr tc t0 t3 t4) 66 false)) (hne : blkOf v ≠ some b8) (hbn : b8 < h.n)
    (he : acc ++ (rectL bk ⟨nm, d.r, d.c, tr, tc⟩ ++ rest) = tot) : L_deps_Needs_5 Q (.ptr b2 0) (.ptr b3 0) v (.ptr b8 0) (.str nm) nv (.int .i64 nds.length) (.int .i64 i) h := by
  apply r_deps_Needs_5
  unfold t_deps_Needs_5
  have hxn := a.ext.n
  rw [pu_loadS l_api_Book a.box (l := [sv]) rfl]
  refine (pfind_ok M h _ bk nm ⟨sv, rfl, a.bk⟩ (by omega) g.fit.len).mono ?_
  rintro y h2 ⟨rfl, hx⟩
  have hn2 := hx.n
  have a2 : DN M h0 bk sv nv nds s b2 b3 h2 v acc := a.next M h0 bk sv nv nds s b2 b3 hM hb2 hb3 (hx.mono hxn) (a.own.keep hx.n fun c hc => hx.old c (a.own.in_ c hc))
  have h82 : h2.t.get b8 = some (.cells (boxN d tr tc t0 t3 t4) 66 false) := by rw [hx.old b8 hbn]; exact h8
  unfold findZ
  cases hf : findN bk nm 0 with
  | none =>
    have hr := findN_none hf
    simp only
    rw [pu_lss, decide_eq_true (by decide : (-1 : Int) < 0), pu_cond_t, pu_inc _ _ _ _ (by omega)]
    refine hnext h2 v acc a2 ?_
    rw [← he]
    unfold rectL
    rw [hr]
    rfl
  | some j =>
    obtain ⟨_, t, ht, hnm, hfr⟩ := findN_some hf
    rw [Nat.sub_zero] at ht
    simp only
    rw [pu_lss, decide_eq_false (by omega : ¬ (j : Int) < 0), pu_cond_f]
    obtain ⟨b4, o4, rv, g1, g2, g3, vs, f, ro, g4, g5⟩ := sht_get a2.bk s_sl_api_Sheet l_api_Sheet ht
    rw [fa_api_Book_0, pu_load1 l_sl_api_Sheet a2.box rfl, g1, fa_api_Sheet_2, pu_load1 l_sl_sl_string g4 (g5 2 _ rfl), fa_api_Node_3, fa_api_Ref_2, pu_load1 l_int h82 rfl]
    have hrl := g.fit.rows t (List.mem_of_getElem? ht)
    unfold rectL at he
    rw [hfr] at he
    exact dn_l2 Q M h0 bk sv nv nds s b2 b3 hM hb2 hb3 g tot htot i b8 d tr tc d.r t0 t3 t4 nm rv t.rows rest hrl.2 hrl.1 hb8 hi hnext _ d.r rfl h2 v acc a2 g3 h82 hne (by omega) he
theorem dn_l4 (i b8 : Nat) (d : Nd) (tr tc : Nat) (t0 t3 t4 : V) (rest : List Spt) (hb8 : h0.n ≤ b8) (hi : i < 1000000)
    (hnext : ∀ (h : Hp) (v : V) (acc : List Spt), DN M h0 bk sv nv nds s b2 b3 h v acc → acc ++ rest = tot → L_deps_Needs_1 Q (.ptr b2 0) (.ptr b3 0) v nv (.int .i64 nds.length) (.int .i64 (i + 1 : Nat)) h)
    (h : Hp) (v : V) (acc : List Spt) (a : DN M h0 bk sv nv nds s b2 b3 h v acc) (h8 : h.t.get b8 = some (.cells (boxN d tr tc t0 t3 t4) 66 false)) (hne : blkOf v ≠ some b8) (hbn : b8 < h.n)
    (he : acc ++ (rectL bk ⟨if d.s = [] then s.s else d.s, d.r, d.c, tr, tc⟩ ++ rest) = tot) : L_deps_Needs_4 Q (.ptr b2 0) (.ptr b3 0) v (.ptr b8 0) nv (.int .i64 nds.length) (.int .i64 i) h := by
  apply r_deps_Needs_4
  unfold t_deps_Needs_4
  rw [fa_api_Node_3, fa_api_Ref_0, pu_load1 l_string h8 rfl, pu_seql, pu_cond_d]
  refine ⟨fun e => ?_, fun e => ?_⟩
  · rw [fa_api_Spot_0, pu_load1 l_string a.spot rfl]
    rw [if_pos e] at he
    exact dn_l5 Q M h0 bk sv nv nds s b2 b3 hM hb2 hb3 g tot htot i b8 d tr tc t0 t3 t4 s.s rest hb8 hi hnext h v acc a h8 hne hbn he
  · rw [if_neg e] at he
    exact dn_l5 Q M h0 bk sv nv nds s b2 b3 hM hb2 hb3 g tot htot i b8 d tr tc t0 t3 t4 d.s rest hb8 hi hnext h v acc a h8 hne hbn he
theorem dn_l1 (hnl : nds.length < 1000000) (hnd : tot.Nodup) (hq : ∀ (x : V) (h' : Hp) (l' : List Spt), OwnS h0.n h' x l' → l'.Perm tot → Ris l' → Ext h0.n h0 h' → Q x h') :
    ∀ (k i : Nat), nds.length - i = k → i ≤ nds.length → ∀ (h : Hp) (v : V) (acc : List Spt), DN M h0 bk sv nv nds s b2 b3 h v acc → acc ++ (rectsN s.s (nds.drop i)).flatMap (rectL bk) = tot →
      L_deps_Needs_1 Q (.ptr b2 0) (.ptr b3 0) v nv (.int .i64 nds.length) (.int .i64 i) h := by
  intro k
  induction k with
  | zero =>
    intro i hk hi h v acc a he
    apply r_deps_Needs_1
    unfold t_deps_Needs_1
    rw [pu_lssN, pu_cond_d]
    refine ⟨fun h1 => absurd h1 (by omega), fun _ => ?_⟩
    rw [List.drop_eq_nil_of_le (by omega : nds.length ≤ i)] at he
    have e : acc = tot := by simpa [rectsN] using he
    subst e
    refine (rising_ok h0.n h v acc a.own htot a.ext.n hnd).mono ?_
    rintro x h' ⟨l', o', p', r', x'⟩
    exact hq x h' l' o' p' r' (a.ext.trans x')
  | succ k ih =>
    intro i hk hi h v acc a he
    apply r_deps_Needs_1
    unfold t_deps_Needs_1
    rw [pu_lssN, pu_cond_d]
    refine ⟨fun h1 => ?_, fun h1 => absurd (by omega) h1⟩
    obtain ⟨d, hd⟩ : ∃ d, d = nds[i] := ⟨_, rfl⟩
    have hdl : nds[i]? = some d := by rw [hd]; exact List.getElem?_eq_getElem h1
    obtain ⟨b1, o1, g1, g2⟩ := nd_get a.nodes hdl
    have hcell := a.nodes.cell d (List.mem_of_getElem? hdl)
    rw [g1, g2]
    have hxn := a.ext.n
    refine pu_allocX l_api_Node fun h2 b8 w8 => ?_
    refine pu_storeX l_api_Node w8.at_ (x := .agg d.cells) rfl hcell (r := d.cells) rfl fun h3 w9 => ?_
    have n2 := w8.n
    have e2 := w8.b
    have n3 := w9.n
    have x3 : Ext h0.n h h3 := (w8.ext hxn).trans (w9.ext (by omega))
    have o3 : OwnS h0.n h3 v acc := a.own.keep (by omega) fun c hc => by
      have := a.own.in_ c hc
      rw [w9.other c (by omega), w8.old c (by omega)]
    have hne : blkOf v ≠ some b8 := own_fresh a.own (by omega)
    have a3 : DN M h0 bk sv nv nds s b2 b3 h3 v acc := a.next M h0 bk sv nv nds s b2 b3 hM hb2 hb3 x3 o3
    rw [drop_cons h1, ← hd] at he
    have nx : ∀ (h' : Hp) (v' : V) (acc' : List Spt), DN M h0 bk sv nv nds s b2 b3 h' v' acc' → acc' ++ (rectsN s.s (nds.drop (i + 1))).flatMap (rectL bk) = tot → L_deps_Needs_1 Q (.ptr b2 0) (.ptr b3 0) v' nv (.int .i64 nds.length) (.int .i64 (i + 1 : Nat)) h' :=
      fun h' v' acc' a' he' => ih (i + 1) (by omega) (by omega) h' v' acc' a' he'
    rw [fa_api_Node_0, pu_load1 l_int w9.at_ rfl, show (5 : Int) = ((5 : Nat) : Int) from rfl, eqlN, pu_cond_d]
    refine ⟨fun q5 => ?_, fun q5 => ?_⟩
    · rw [fa_api_Node_3, pu_loadS l_api_Ref w9.at_ (l := [.str d.s, .int .i64 d.c, .int .i64 d.r, d.z 2, d.z 3]) rfl, fa_api_Node_4]
      have hc3 : allCells [V.str d.s, .int .i64 d.c, .int .i64 d.r, d.z 2, d.z 3] = true := by
        refine allCells_iff.2 fun u hu => allCells_iff.1 hcell u ?_
        simp only [List.mem_cons, List.not_mem_nil, or_false] at hu
        rcases hu with rfl | rfl | rfl | rfl | rfl <;> simp [Nd.cells]
      refine pu_storeX l_api_Ref w9.at_ (x := .agg [.str d.s, .int .i64 d.c, .int .i64 d.r, d.z 2, d.z 3]) rfl hc3 (r := boxN d d.r d.c (.str d.s) (d.z 2) (d.z 3)) rfl fun h4 w10 => ?_
      have n4 := w10.n
      have x4 : Ext h0.n h3 h4 := w10.ext (by omega)
      have o4 : OwnS h0.n h4 v acc := o3.keep (by omega) fun c hc => w10.other c fun e => hne (e ▸ hc)
      have a4 := a3.next M h0 bk sv nv nds s b2 b3 hM hb2 hb3 x4 o4
      refine dn_l4 Q M h0 bk sv nv nds s b2 b3 hM hb2 hb3 g tot htot i b8 d d.r d.c _ _ _ _ (by omega) (by omega) nx h4 v acc a4 w10.at_ hne (by omega) ?_
      rw [← he]
      have : rectsN s.s (d :: nds.drop (i + 1)) = ⟨if d.s = [] then s.s else d.s, d.r, d.c, d.r, d.c⟩ :: rectsN s.s (nds.drop (i + 1)) := by
        unfold rectsN
        rw [List.filterMap_cons]
        simp [Nd.rect, q5]
      rw [this, List.flatMap_cons]
    · rw [fa_api_Node_0, pu_load1 l_int w9.at_ rfl, show (6 : Int) = ((6 : Nat) : Int) from rfl, neqN, pu_cond_n]
      refine ⟨fun q6 => ?_, fun q6 => ?_⟩
      · rw [pu_inc _ _ _ _ (by omega)]
        refine nx h3 v acc a3 ?_
        rw [← he]
        have : rectsN s.s (d :: nds.drop (i + 1)) = rectsN s.s (nds.drop (i + 1)) := by
          unfold rectsN
          rw [List.filterMap_cons]
          simp [Nd.rect, q5, q6]
        rw [this]
      · refine dn_l4 Q M h0 bk sv nv nds s b2 b3 hM hb2 hb3 g tot htot i b8 d d.r1 d.c1 (d.z 4) (d.z 5) (d.z 6) _ (by omega) (by omega) nx h3 v acc a3 w9.at_ hne (by omega) ?_
        rw [← he]
        have : rectsN s.s (d :: nds.drop (i + 1)) = ⟨if d.s = [] then s.s else d.s, d.r, d.c, d.r1, d.c1⟩ :: rectsN s.s (nds.drop (i + 1)) := by
          unfold rectsN
          rw [List.filterMap_cons]
          simp [Nd.rect, q5, q6]
        rw [this, List.flatMap_cons]
end
theorem ris_needs {bk : Bok} (hb : Rises bk) (ks : List Rct) {l : List Spt} (hp : l.Perm (ks.flatMap (rectL bk))) (hs : Ris l) : l = needsR ks bk := by
  have h1 := needs_law hb ks hp (hs.imp fun q => spLe_of_lt q)
  rw [← h1]
  exact ris_ext hs (compL_ris l (hs.imp fun q => spLe_of_lt q)) fun a => (compL_mem l a).symm
/-- the cells gone through for one cell's text: few, each once -/
def Few (bk : Bok) (s : Spt) : Prop := ((rectsT s.s (getC bk s)).flatMap (rectL bk)).length ≤ 12 ∧ ((rectsT s.s (getC bk s)).flatMap (rectL bk)).Nodup
theorem dneeds_ok (M : Nat) (h : Hp) (v : V) (bk : Bok) (s : Spt) (hv : BokAt M h v bk) (hM : M ≤ h.n) (g : Good bk) (hw : Few bk s) : Ans EE 12 [v, spV s] h fun x h' => OwnS h.n h' x (ndR bk s) ∧ Ext h.n h h' := by
  have hv0 := hv
  obtain ⟨sv, rfl, hs⟩ := hv
  obtain ⟨cs, hrd⟩ := hs.rd
  have hcell : allCells [sv] = true := by have := hrd.c1; simp [allCells, this.2]
  apply a_deps_Needs
  unfold t_deps_Needs_0
  refine pu_boxX (cs := [sv]) hcell fun h1 b1 w1 => ?_
  refine pu_boxX (cs := spC s) rfl fun h2 b2 w2 => ?_
  have n1 := w1.n
  have n2 := w2.n
  have e1 := w1.b
  have e2 := w2.b
  have hx2 : Ext h.n h h2 := (w1.ext (Nat.le_refl h.n)).trans (w2.ext (by omega))
  have hb1 : h2.t.get b1 = some (.cells [sv] 24 false) := by rw [w2.old b1 (by omega)]; exact w1.at_
  rw [pu_loadS l_api_Book hb1 (l := [sv]) rfl, pu_loadS l_api_Spot w2.at_ (l := spC s) rfl]
  refine (pget_ok M h2 _ bk s (hv0.ext (hx2.mono hM)) (by omega) g.fit.len).mono ?_
  rintro y h3 ⟨rfl, hx3⟩
  have n3 := hx3.n
  have ht := g.get s
  refine (pform_ok ht h3).mono ?_
  rintro y h4 ⟨hx4, hp⟩
  have n4 := hx4.n
  have x4 : Ext h2.n h2 h4 := hx3.trans (hx4.mono n3)
  have xx : Ext h.n h h4 := hx2.trans (x4.mono (by omega))
  have hrt := rectsT_prog ht s.s
  cases hf : formP (getC bk s) with
  | none =>
    rw [hf] at hp
    simp only at hp
    subst hp
    rw [pu_extr0, pu_extr1, pu_not]
    simp only [Bool.not_false, pu_cond_t]
    have hr : formR (getC bk s) = none := by
      have := ht.some_
      rw [hf] at this
      cases q : formR (getC bk s) with
      | none => rfl
      | some b => rw [q] at this; cases this
    rw [ndR_none hr]
    exact ⟨OwnS.nil _ _, xx⟩
  | some ds =>
    rw [hf] at hp hrt
    obtain ⟨nv, ds', rfl, hnd, hlen, hrc⟩ := hp
    simp only at hrt
    rw [pu_extr0, pu_extr1, pu_not]
    simp only [Bool.not_true, pu_cond_f]
    have hfew : ds.length ≤ 20 := by
      have := ht.some_
      rw [hf] at this
      cases q : formR (getC bk s) with
      | none => rw [q] at this; cases this
      | some b => exact (ht.few ds b hf q).1
    rw [pu_len hnd.rd s_sl_api_Node]
    have hnodes : NodesAt h4.n h4 nv ds' := hnd
    refine dn_l1 _ M h4 bk sv nv ds' s b1 b2 (by omega) (by omega) (by omega) g ((rectsT s.s (getC bk s)).flatMap (rectL bk)) hw.1 (by omega) hw.2 (fun x h' l' o' p' r' x' => ⟨?_, xx.trans (x'.mono (by omega))⟩) _ 0 rfl (by omega) h4 .nils []
      ⟨(hs.ext (hx2.mono hM)).ext (x4.mono (by omega)), by rw [x4.old b1 (by omega)]; exact hb1, by rw [x4.old b2 (by omega)]; exact w2.at_, hnodes, OwnS.nil _ _, Ext.refl _ _⟩ ?_
    · rw [List.drop_zero, List.nil_append, hrc, hrt]
    · have := ris_needs g.ris _ p' r'
      rw [this] at o'
      exact o'.mono (by omega)
end
end Go.Proofs.YtlllhhjlfmhmlaaGreatDoor.VM
namespace Go.Proofs.YtlllhhjlfmhmlaaGreatDoor.VM
open Go
set_option linter.unusedVariables false
set_option linter.unusedSectionVars false
set_option linter.unusedSimpArgs false
set_option maxRecDepth 20000
noncomputable section
attribute [local instance] syZ
def cellT (ns : List Nat) (p : Nat) : List Nat := match ns[p]? with
  | some n => txt n
  | none => []
def rowT (ns : List Nat) (C p : Nat) : List (List Nat) := (List.range C).map fun c => cellT ns (p + c)
def rowsT (ns : List Nat) (C R p : Nat) : List (List (List Nat)) := (List.range R).map fun r => rowT ns C (p + r * C)
def nS (sh : Nat) : Nat := 1 + sh % 3
def nC (sh : Nat) : Nat := 1 + sh / 3 % 4
def nR (sh : Nat) : Nat := 1 + sh / 12 % 5
def nameT (sh i : Nat) : List Nat := [65 + i + sh / 64 * i]
def shtT (ns : List Nat) (sh i : Nat) : Sht := ⟨nameT sh i, nC sh, rowsT ns (nC sh) (nR sh) (i * (nR sh * nC sh))⟩
def bookT (ns : List Nat) (sh : Nat) : Bok := (List.range (nS sh)).map (shtT ns sh)
/-! ### its texts -/
def allR (n : Nat) (p : Nat → Bool) : Bool := Nat.rec (motive := fun _ => Bool) true (fun k ih => p k && ih) n
theorem allR_get {p : Nat → Bool} : ∀ {n k : Nat}, allR n p = true → k < n → p k = true
  | 0, _, _, hk => by omega
  | n + 1, k, h, hk => by
    have h2 : p n = true ∧ allR n p = true := by
      have : (p n && allR n p) = true := h
      simpa using this
    by_cases e : k = n
    · subst e; exact h2.1
    · exact allR_get h2.2 (by omega)
theorem txt_in' : allR 256 (fun n => textL.any fun t => seq t (txt n)) = true := by kernel_rfl
theorem txt_in {n : Nat} (h : n < 256) : txt n ∈ textL := by
  have := allR_get txt_in' h
  obtain ⟨t, h1, h2⟩ := List.any_eq_true.1 this
  rw [seq_dec, decide_eq_true_iff] at h2
  rw [← h2]; exact h1
theorem nil_in : ([] : List Nat) ∈ textL := txt_in (n := 0) (by omega)
theorem cell_in {ns : List Nat} (h : ∀ n ∈ ns, n < 256) (p : Nat) : cellT ns p ∈ textL := by
  unfold cellT
  split
  · rename_i n hn; exact txt_in (h n (List.mem_of_getElem? hn))
  · exact nil_in
def TextsIn (bk : Bok) : Prop := ∀ s ∈ bk, ∀ row ∈ s.rows, ∀ t ∈ row, t ∈ textL
theorem getC_in {bk : Bok} (h : TextsIn bk) (s : Spt) : getC bk s ∈ textL := by
  unfold getC
  split
  · exact nil_in
  · rename_i t ht
    split
    · exact nil_in
    · rename_i row hrow
      cases hc : row[s.c]? with
      | none => exact nil_in
      | some x => exact h t (List.mem_of_find?_eq_some ht) row (List.mem_of_getElem? hrow) x (List.mem_of_getElem? hc)
/-! ### few are gone through -/
def rk (k : Rct) : Nat × Nat × Nat × Nat := (k.r0, k.c0, k.r1, k.c1)
theorem rects_rk (own : List Nat) : ∀ l : List Nd, (rectsN own l).map rk = (rectsN [0] l).map rk
  | [] => rfl
  | d :: l => by
    have ih := rects_rk own l
    unfold rectsN at ih ⊢
    have e : (Nd.rect own d).map rk = (Nd.rect [0] d).map rk := by
      unfold Nd.rect
      split
      · rfl
      · split
        · rfl
        · rfl
    cases h1 : Nd.rect own d with
    | none =>
      cases h2 : Nd.rect [0] d with
      | none => rw [List.filterMap_cons_none h1, List.filterMap_cons_none h2, ih]
      | some b => rw [h1, h2] at e; cases e
    | some a =>
      cases h2 : Nd.rect [0] d with
      | none => rw [h1, h2] at e; cases e
      | some b =>
        rw [h1, h2] at e
        rw [List.filterMap_cons_some h1, List.filterMap_cons_some h2, List.map_cons, List.map_cons, ih]
        simp only [Option.map_some, Option.some.injEq] at e
        rw [e]
def szR (q : Nat × Nat × Nat × Nat) : Nat := (q.2.2.1 + 1 - q.1) * (q.2.2.2 + 1 - q.2.1)
def apartR (a b : Nat × Nat × Nat × Nat) : Bool := Nat.blt a.2.2.1 b.1 || Nat.blt b.2.2.1 a.1 || Nat.blt a.2.2.2 b.2.1 || Nat.blt b.2.2.2 a.2.1
def apartL : List (Nat × Nat × Nat × Nat) → Bool
  | [] => true
  | a :: l => l.all (apartR a) && apartL l
def sumR : List (Nat × Nat × Nat × Nat) → Nat
  | [] => 0
  | a :: l => szR a + sumR l
def fewOK (t : List Nat) : Bool := match formR t with
  | none => true
  | some l => Nat.ble (sumR ((rectsN [0] l).map rk)) 12 && apartL ((rectsN [0] l).map rk)
theorem few_ok : textL.all fewOK = true := by kernel_rfl
theorem colsL_len (nm : List Nat) (r a b : Nat) : (colsL nm r a b).length = b - a := by unfold colsL; simp
theorem rowsL_len (k : Rct) (rows : List (List (List Nat))) : ∀ (n r : Nat), (rowsL k rows n r).length ≤ n * (k.c1 + 1 - k.c0)
  | 0, r => by simp [rowsL]
  | n + 1, r => by
    rw [rowsL, List.length_append, colsL_len, Nat.succ_mul]
    have := rowsL_len k rows n (r + 1)
    omega
theorem rectL_len (bk : Bok) (k : Rct) : (rectL bk k).length ≤ szR (rk k) := by
  unfold rectL
  split
  · simp
  · refine Nat.le_trans (rowsL_len _ _ _ _) ?_
    unfold szR rk
    exact Nat.mul_le_mul_right _ (by simp only; omega)
theorem colsL_ris (nm : List Nat) (r a b : Nat) : Ris (colsL nm r a b) := by
  unfold colsL Ris
  rw [List.pairwise_map]
  refine List.Pairwise.imp (fun {x y} h => ?_) List.pairwise_lt_range
  rw [spLt_iff]
  exact .inr ⟨rfl, .inr ⟨rfl, by simp only; omega⟩⟩
theorem rowsL_ris (k : Rct) (rows : List (List (List Nat))) : ∀ (n r : Nat), Ris (rowsL k rows n r)
  | 0, r => List.Pairwise.nil
  | n + 1, r => by
    rw [rowsL]
    refine List.pairwise_append.2 ⟨colsL_ris _ _ _ _, rowsL_ris k rows n (r + 1), fun a ha b hb => ?_⟩
    obtain ⟨h1, h2, _⟩ := colsL_mem.1 ha
    obtain ⟨h3, h4, _⟩ := rowsL_mem.1 hb
    rw [spLt_iff]
    exact .inr ⟨by rw [h1, h3], .inl (by omega)⟩
theorem rectL_nodup (bk : Bok) (k : Rct) : (rectL bk k).Nodup := by
  unfold rectL
  split
  · exact List.nodup_nil
  · exact (rowsL_ris _ _ _ _).nodup
theorem apart_disj {bk : Bok} (hb : Rises bk) {a b : Rct} (h : apartR (rk a) (rk b) = true) {x : Spt} (h1 : x ∈ rectL bk a) (h2 : x ∈ rectL bk b) : False := by
  have k1 := ((rectL_mem hb).1 h1).1
  have k2 := ((rectL_mem hb).1 h2).1
  simp only [Rct.has, Bool.and_eq_true, decide_eq_true_iff] at k1 k2
  simp only [apartR, rk, Bool.or_eq_true, Nat.blt_eq] at h
  omega
theorem few_rects {bk : Bok} (hb : Rises bk) : ∀ (ks : List Rct), apartL (ks.map rk) = true → (ks.flatMap (rectL bk)).length ≤ sumR (ks.map rk) ∧ (ks.flatMap (rectL bk)).Nodup
  | [], _ => by simp [sumR]
  | a :: l, h => by
    simp only [List.map_cons, apartL, Bool.and_eq_true, List.all_eq_true] at h
    obtain ⟨h1, h2⟩ := few_rects hb l h.2
    rw [List.flatMap_cons, List.map_cons, sumR, List.length_append]
    refine ⟨by have := rectL_len bk a; omega, List.nodup_append.2 ⟨rectL_nodup bk a, h2, fun x hx y hy e => ?_⟩⟩
    subst e
    obtain ⟨b, hb1, hb2⟩ := List.mem_flatMap.1 hy
    exact apart_disj hb (h.1 (rk b) (List.mem_map_of_mem hb1)) hx hb2
theorem few_of {bk : Bok} (hb : Rises bk) (s : Spt) (ht : getC bk s ∈ textL) : Few bk s := by
  have hk := List.all_eq_true.1 few_ok _ ht
  unfold Few rectsT
  unfold fewOK at hk
  split at hk
  · rename_i e
    rw [e]
    simp
  · rename_i l e
    rw [e]
    simp only [Bool.and_eq_true, Nat.ble_eq] at hk
    have e2 := rects_rk s.s l
    rw [← e2] at hk
    obtain ⟨h1, h2⟩ := few_rects hb (rectsN s.s l) hk.2
    show ((rectsN s.s l).flatMap (rectL bk)).length ≤ 12 ∧ ((rectsN s.s l).flatMap (rectL bk)).Nodup
    exact ⟨by have := hk.1; omega, h2⟩
/-! ### it may be -/
section
variable {ns : List Nat} {sh : Nat}
theorem book_in (h : ∀ n ∈ ns, n < 256) : TextsIn (bookT ns sh) := fun s hs row hr t ht => by
  unfold bookT at hs
  obtain ⟨i, _, rfl⟩ := List.mem_map.1 hs
  unfold shtT rowsT at hr
  obtain ⟨r, _, rfl⟩ := List.mem_map.1 hr
  unfold rowT at ht
  obtain ⟨c, _, rfl⟩ := List.mem_map.1 ht
  exact cell_in h _
theorem book_ris : Rises (bookT ns sh) := by
  unfold bookT Rises
  rw [List.pairwise_map]
  refine List.Pairwise.imp (fun {x y} h => ?_) List.pairwise_lt_range
  unfold shtT nameT
  rw [slt_cons]
  left
  have := Nat.mul_le_mul_left (sh / 64) (Nat.le_of_lt h)
  omega
theorem allSpots_len (R C : Nat) : ∀ (bk : Bok), (∀ s ∈ bk, s.rows.length ≤ R ∧ ∀ row ∈ s.rows, row.length ≤ C) → (allSpots bk).length ≤ bk.length * (R * C)
  | [], _ => by simp [allSpots]
  | s :: bk, h => by
    have h1 := allSpots_len R C bk fun t ht => h t (by simp [ht])
    have h2 : ∀ (rows : List (List (List Nat))) (r : Nat), (∀ row ∈ rows, row.length ≤ C) → (rowsSpots s.name r rows).length ≤ rows.length * C := by
      intro rows
      induction rows with
      | nil => intro r _; simp [rowsSpots]
      | cons row rows ih =>
        intro r hr
        rw [rowsSpots, List.length_append, List.length_cons, Nat.succ_mul]
        have := ih (r + 1) fun x hx => hr x (by simp [hx])
        have h3 : (rowSpots s.name r row).length = row.length := by unfold rowSpots; simp
        have := hr row (by simp)
        omega
    have h3 := h2 s.rows 0 (h s (by simp)).2
    have h4 := Nat.mul_le_mul_right C (h s (by simp)).1
    rw [allSpots, List.length_append, List.length_cons, Nat.succ_mul]
    omega
theorem book_rows : ∀ s ∈ bookT ns sh, s.rows.length = nR sh ∧ s.cols = nC sh ∧ ∀ row ∈ s.rows, row.length = nC sh := fun s hs => by
  unfold bookT at hs
  obtain ⟨i, _, rfl⟩ := List.mem_map.1 hs
  unfold shtT rowsT
  refine ⟨by simp, rfl, fun row hr => ?_⟩
  obtain ⟨r, _, rfl⟩ := List.mem_map.1 hr
  unfold rowT
  simp
theorem nC_le : nC sh ≤ 4 := by unfold nC; omega
theorem nR_le : nR sh ≤ 5 := by unfold nR; omega
theorem nS_le : nS sh ≤ 3 := by unfold nS; omega
theorem book_good (h : ∀ n ∈ ns, n < 256) : Good (bookT ns sh) := by
  have hR := @nR_le sh
  have hC := @nC_le sh
  have hS := @nS_le sh
  have hl : (bookT ns sh).length = nS sh := by unfold bookT; simp
  refine ⟨⟨?_, by omega, fun s hs => ?_⟩, book_ris, fun s hs row hr t ht => textIs (book_in h s hs row hr t ht)⟩
  · have := allSpots_len 5 4 (bookT ns sh) fun s hs => by
      obtain ⟨h1, _, h2⟩ := book_rows s hs
      exact ⟨by omega, fun row hr => by rw [h2 row hr]; exact hC⟩
    rw [hl] at this
    omega
  · obtain ⟨h1, _, h2⟩ := book_rows s hs
    exact ⟨by omega, fun row hr => by rw [h2 row hr]; omega⟩
theorem book_mays (h : ∀ n ∈ ns, n < 256) (hsh : sh < 256) : Mays (bookT ns sh) := by
  have hR := @nR_le sh
  have hC := @nC_le sh
  have hS := @nS_le sh
  refine ⟨book_good h, by unfold bookT; simp; omega, fun s hs => ?_, fun s hs => ?_, fun s hs r hr => ?_, fun s hs => ?_⟩
  · obtain ⟨_, h1, _⟩ := book_rows s hs; omega
  · obtain ⟨h1, _, _⟩ := book_rows s hs; omega
  · obtain ⟨_, h1, h2⟩ := book_rows s hs; rw [h2 r hr, h1]
  · unfold bookT at hs
    obtain ⟨i, hi, rfl⟩ := List.mem_map.1 hs
    have hi := List.mem_range.1 hi
    have h64 : sh / 64 ≤ 3 := by omega
    have : sh / 64 * i ≤ 3 * 2 := Nat.mul_le_mul h64 (by omega)
    exact name1 (by omega) (by omega)
theorem book_few (h : ∀ n ∈ ns, n < 256) (s : Spt) : Few (bookT ns sh) s := few_of book_ris s (getC_in (book_in h) s)
end
end
end Go.Proofs.YtlllhhjlfmhmlaaGreatDoor.VM
