/- What labels of functions ask for. Written by pe.py. · book.Find, Has, Get, by labels. · book.May, by labels. · What labels of functions ask for. Written by pe.py. · cmp.Compare, cmp.Or, deps.Cmp, by labels. · deps.formulas, by labels. -/
import Derived.Test.YtlllhhjlfmhmlaaGreatDoorMg8
namespace Go.Proofs.YtlllhhjlfmhmlaaGreatDoor.VM
open Go
set_option linter.unusedVariables false
set_option maxRecDepth 100000
noncomputable section
noncomputable def c_book_May : Code := match Tryz.f23.body with | some c => c | none => .skip
theorem b_book_May : Tryz.f23.body = some c_book_May := by kernel_rfl
theorem e_book_May : EE.fn.get 23 = some Tryz.f23 := by kernel_rfl
noncomputable def L_book_May_1 (Q : V → Hp → Prop) (v1 v10 v11 v12 : V) (h : Hp) : Prop := ∀ s : List V, s.length = (Tryz.f23).ntmps → nth s 1 = v1 ∧ nth s 10 = v10 ∧ nth s 11 = v11 ∧ nth s 12 = v12 → Lab EE Tryz.f23 c_book_May Q [false, true, false, true, true] s h []
noncomputable def X_book_May (l1 : V → V → V → V → Hp → Prop) : Lb := fun π s h d => match d with
  | [] => bif eqB [false, true, false, true, true] π then l1 (nth s 1) (nth s 10) (nth s 11) (nth s 12) h else False
  | _ => False
theorem o_book_May (Q : V → Hp → Prop) : ∀ π s h d, X_book_May (L_book_May_1 Q) π s h d → s.length = (Tryz.f23).ntmps → Lab EE Tryz.f23 c_book_May Q π s h d := by
  intro π s h d hx hl
  cases d with
  | cons _ _ => exact hx.elim
  | nil =>
    simp only [X_book_May] at hx
    cases hk : eqB [false, true, false, true, true] π with
    | true => rw [hk, cond_true] at hx; rw [← eqB_eq hk]; exact hx s hl ⟨rfl, rfl, rfl, rfl⟩
    | false =>
    rw [hk, cond_false] at hx
    exact hx.elim
noncomputable def t_book_May_0 (p : Pr) (l1 : V → V → V → V → Hp → Prop) (Q : V → Hp → Prop) (v0 : V) (h : Hp) : Prop :=
  p.box h 24 v0 fun x1 h2 b3 =>
  p.faddr 24 x1 0 fun x4 =>
  p.load h2 22 x4 fun x5 =>
  p.lbui h2 #[22] .len [x5] fun x6 =>
  p.bin .gtr 3 false true x6 (.int .i64 5) fun x7 =>
  p.cond x7
  (fun _ =>
   Q (.bool false) h2)
  (fun _ =>
   p.faddr 24 x1 0 fun x8 =>
   p.load h2 22 x8 fun x9 =>
   p.lbui h2 #[22] .len [x9] fun x10 =>
   l1 x1 x9 x10 (.int .i64 0) h2)
theorem q_book_May_0 (p : Pr) (l1 : V → V → V → V → Hp → Prop) (Q : V → Hp → Prop) (v0 : V) (h : Hp) : t_book_May_0 p l1 Q v0 h = KAt p EE (cutOf [[false, true, false, true, true]]) (X_book_May l1) c_book_May [] [] (finK p Tryz.f23 Q) ([v0] ++ List.replicate 36 u0) h [] := by kernel_rfl
theorem a_book_May {Q : V → Hp → Prop} {v0 : V} {h : Hp} (H : t_book_May_0 (Pu EE) (L_book_May_1 Q) Q v0 h) : Ans EE 23 [v0] h Q :=
  ans_of (by kernel_rfl) e_book_May b_book_May (by kernel_rfl) (lab_ofX (o_book_May Q) [] (cast (q_book_May_0 (Pu EE) (L_book_May_1 Q) Q v0 h) H))
noncomputable def t_book_May_1 (p : Pr) (l1 : V → V → V → V → Hp → Prop) (Q : V → Hp → Prop) (v1 v10 v11 v12 : V) (h : Hp) : Prop :=
  p.bin .lss 3 false false v12 v11 fun x1 =>
  p.cond x1
  (fun _ =>
   p.iaddr 22 v10 v12 fun x2 =>
   p.load h 48 x2 fun x3 =>
   p.alloc h 48 fun x4 h5 b6 =>
   p.store h5 48 x4 x3 fun h7 =>
   p.bin .gtr 3 false true v12 (.int .i64 0) fun x8 =>
   p.gval x8 true (fun k9 =>
    p.faddr 24 v1 0 fun x10 =>
    k9 x10) fun x11 =>
   p.gval x8 true (fun k12 =>
    p.load h7 22 x11 fun x13 =>
    k12 x13) fun x14 =>
   p.gval x8 true (fun k15 =>
    k15 v12) fun x16 =>
   p.gval x8 true (fun k17 =>
    p.bin .sub 3 false true x16 (.int .i64 1) fun x18 =>
    k17 x18) fun x19 =>
   p.gval x8 true (fun k20 =>
    p.iaddr 22 x14 x19 fun x21 =>
    k20 x21) fun x22 =>
   p.gval x8 true (fun k23 =>
    p.faddr 48 x22 0 fun x24 =>
    k23 x24) fun x25 =>
   p.gval x8 true (fun k26 =>
    p.load h7 9 x25 fun x27 =>
    k26 x27) fun x28 =>
   p.gval x8 true (fun k29 =>
    p.faddr 48 x4 0 fun x30 =>
    k29 x30) fun x31 =>
   p.gval x8 true (fun k32 =>
    p.load h7 9 x31 fun x33 =>
    k32 x33) fun x34 =>
   p.gval x8 true (fun k35 =>
    p.bin .geq 9 false false x28 x34 fun x36 =>
    k35 x36) fun x37 =>
   p.pick x8 (some x37) (some (.bool false)) fun x38 =>
   p.gval x38 false (fun k39 =>
    p.load h7 48 x4 fun x40 =>
    k39 x40) fun x41 =>
   p.geff x38 false (fun k42 =>
    p.call 43 [x41] h7 fun x43 h44 =>
    k42 x43 h44) h7 fun x45 h46 =>
   p.gval x38 false (fun k47 =>
    p.un .not x45 fun x48 =>
    k47 x48) fun x49 =>
   p.pick x38 (some (.bool true)) (some x49) fun x50 =>
   p.cond x50
   (fun _ =>
    Q (.bool false) h46)
   (fun _ =>
    p.bin .add 3 false true v12 (.int .i64 1) fun x51 =>
    l1 v1 v10 v11 x51 h46))
  (fun _ =>
   Q (.bool true) h)
theorem q_book_May_1 (p : Pr) (l1 : V → V → V → V → Hp → Prop) (Q : V → Hp → Prop) (s : List V) (h : Hp) : t_book_May_1 p l1 Q (nth s 1) (nth s 10) (nth s 11) (nth s 12) h = KAt p EE (cutOf [[false, true, false, true, true]]) (X_book_May l1) c_book_May [] [true, true, false, true, false] (finK p Tryz.f23 Q) (nths s 37 0) h [] := by kernel_rfl
theorem r_book_May_1 {Q : V → Hp → Prop} {v1 v10 v11 v12 : V} {h : Hp} (H : t_book_May_1 (Pu EE) (L_book_May_1 Q) Q v1 v10 v11 v12 h) : L_book_May_1 Q v1 v10 v11 v12 h := by
  intro s hl ⟨e1, e10, e11, e12⟩
  subst e1 e10 e11 e12
  have hl : s.length = 37 := hl
  rw [nth_all hl]
  exact lab_ofX (o_book_May Q) [true, true, false, true, false] (cast (q_book_May_1 (Pu EE) (L_book_May_1 Q) Q s h) H)
noncomputable def c_book_maySheet : Code := match Tryz.f43.body with | some c => c | none => .skip
theorem b_book_maySheet : Tryz.f43.body = some c_book_maySheet := by kernel_rfl
theorem e_book_maySheet : EE.fn.get 43 = some Tryz.f43 := by kernel_rfl
noncomputable def L_book_maySheet_1 (Q : V → Hp → Prop) (v1 v28 v29 v30 : V) (h : Hp) : Prop := ∀ s : List V, s.length = (Tryz.f43).ntmps → nth s 1 = v1 ∧ nth s 28 = v28 ∧ nth s 29 = v29 ∧ nth s 30 = v30 → Lab EE Tryz.f43 c_book_maySheet Q [false, true, false, true, true] s h []
noncomputable def L_book_maySheet_2 (Q : V → Hp → Prop) (v1 v28 v29 v30 v39 v40 v41 : V) (h : Hp) : Prop := ∀ s : List V, s.length = (Tryz.f43).ntmps → nth s 1 = v1 ∧ nth s 28 = v28 ∧ nth s 29 = v29 ∧ nth s 30 = v30 ∧ nth s 39 = v39 ∧ nth s 40 = v40 ∧ nth s 41 = v41 → Lab EE Tryz.f43 c_book_maySheet Q [false, true, true, true, false, false, true, true, false, false, true, false, true, true] s h []
noncomputable def X_book_maySheet (l1 : V → V → V → V → Hp → Prop) (l2 : V → V → V → V → V → V → V → Hp → Prop) : Lb := fun π s h d => match d with
  | [] => bif eqB [false, true, false, true, true] π then l1 (nth s 1) (nth s 28) (nth s 29) (nth s 30) h else bif eqB [false, true, true, true, false, false, true, true, false, false, true, false, true, true] π then l2 (nth s 1) (nth s 28) (nth s 29) (nth s 30) (nth s 39) (nth s 40) (nth s 41) h else False
  | _ => False
theorem o_book_maySheet (Q : V → Hp → Prop) : ∀ π s h d, X_book_maySheet (L_book_maySheet_1 Q) (L_book_maySheet_2 Q) π s h d → s.length = (Tryz.f43).ntmps → Lab EE Tryz.f43 c_book_maySheet Q π s h d := by
  intro π s h d hx hl
  cases d with
  | cons _ _ => exact hx.elim
  | nil =>
    simp only [X_book_maySheet] at hx
    cases hk : eqB [false, true, false, true, true] π with
    | true => rw [hk, cond_true] at hx; rw [← eqB_eq hk]; exact hx s hl ⟨rfl, rfl, rfl, rfl⟩
    | false =>
    rw [hk, cond_false] at hx
    cases hk : eqB [false, true, true, true, false, false, true, true, false, false, true, false, true, true] π with
    | true => rw [hk, cond_true] at hx; rw [← eqB_eq hk]; exact hx s hl ⟨rfl, rfl, rfl, rfl, rfl, rfl, rfl⟩
    | false =>
    rw [hk, cond_false] at hx
    exact hx.elim
noncomputable def t_book_maySheet_0 (p : Pr) (l1 : V → V → V → V → Hp → Prop) (l2 : V → V → V → V → V → V → V → Hp → Prop) (Q : V → Hp → Prop) (v0 : V) (h : Hp) : Prop :=
  p.box h 48 v0 fun x1 h2 b3 =>
  p.faddr 48 x1 0 fun x4 =>
  p.load h2 9 x4 fun x5 =>
  p.call 65 [x5] h2 fun x6 h7 =>
  p.un .not x6 fun x8 =>
  p.gval x8 false (fun k9 =>
   p.faddr 48 x1 1 fun x10 =>
   k9 x10) fun x11 =>
  p.gval x8 false (fun k12 =>
   p.load h7 3 x11 fun x13 =>
   k12 x13) fun x14 =>
  p.gval x8 false (fun k15 =>
   p.bin .lss 3 false true x14 (.int .i64 0) fun x16 =>
   k15 x16) fun x17 =>
  p.pick x8 (some (.bool true)) (some x17) fun x18 =>
  p.gval x18 false (fun k19 =>
   p.faddr 48 x1 1 fun x20 =>
   k19 x20) fun x21 =>
  p.gval x18 false (fun k22 =>
   p.load h7 3 x21 fun x23 =>
   k22 x23) fun x24 =>
  p.gval x18 false (fun k25 =>
   p.bin .gtr 3 false true x24 (.int .i64 12) fun x26 =>
   k25 x26) fun x27 =>
  p.pick x18 (some (.bool true)) (some x27) fun x28 =>
  p.gval x28 false (fun k29 =>
   p.faddr 48 x1 2 fun x30 =>
   k29 x30) fun x31 =>
  p.gval x28 false (fun k32 =>
   p.load h7 46 x31 fun x33 =>
   k32 x33) fun x34 =>
  p.gval x28 false (fun k35 =>
   p.lbui h7 #[46] .len [x34] fun x36 =>
   k35 x36) fun x37 =>
  p.gval x28 false (fun k38 =>
   p.bin .gtr 3 false true x37 (.int .i64 24) fun x39 =>
   k38 x39) fun x40 =>
  p.pick x28 (some (.bool true)) (some x40) fun x41 =>
  p.cond x41
  (fun _ =>
   Q (.bool false) h7)
  (fun _ =>
   p.faddr 48 x1 2 fun x42 =>
   p.load h7 46 x42 fun x43 =>
   p.lbui h7 #[46] .len [x43] fun x44 =>
   l1 x1 x43 x44 (.int .i64 0) h7)
theorem q_book_maySheet_0 (p : Pr) (l1 : V → V → V → V → Hp → Prop) (l2 : V → V → V → V → V → V → V → Hp → Prop) (Q : V → Hp → Prop) (v0 : V) (h : Hp) : t_book_maySheet_0 p l1 l2 Q v0 h = KAt p EE (cutOf [[false, true, false, true, true], [false, true, true, true, false, false, true, true, false, false, true, false, true, true]]) (X_book_maySheet l1 l2) c_book_maySheet [] [] (finK p Tryz.f43 Q) ([v0] ++ List.replicate 49 u0) h [] := by kernel_rfl
theorem a_book_maySheet {Q : V → Hp → Prop} {v0 : V} {h : Hp} (H : t_book_maySheet_0 (Pu EE) (L_book_maySheet_1 Q) (L_book_maySheet_2 Q) Q v0 h) : Ans EE 43 [v0] h Q :=
  ans_of (by kernel_rfl) e_book_maySheet b_book_maySheet (by kernel_rfl) (lab_ofX (o_book_maySheet Q) [] (cast (q_book_maySheet_0 (Pu EE) (L_book_maySheet_1 Q) (L_book_maySheet_2 Q) Q v0 h) H))
noncomputable def t_book_maySheet_1 (p : Pr) (l1 : V → V → V → V → Hp → Prop) (l2 : V → V → V → V → V → V → V → Hp → Prop) (Q : V → Hp → Prop) (v1 v28 v29 v30 : V) (h : Hp) : Prop :=
  p.bin .lss 3 false false v30 v29 fun x1 =>
  p.cond x1
  (fun _ =>
   p.iaddr 46 v28 v30 fun x2 =>
   p.load h 49 x2 fun x3 =>
   p.lbui h #[49] .len [x3] fun x4 =>
   p.faddr 48 v1 1 fun x5 =>
   p.load h 3 x5 fun x6 =>
   p.bin .neq 3 false false x4 x6 fun x7 =>
   p.cond x7
   (fun _ =>
    Q (.bool false) h)
   (fun _ =>
    p.lbui h #[49] .len [x3] fun x8 =>
    l2 v1 v28 v29 v30 x3 x8 (.int .i64 0) h))
  (fun _ =>
   Q (.bool true) h)
theorem q_book_maySheet_1 (p : Pr) (l1 : V → V → V → V → Hp → Prop) (l2 : V → V → V → V → V → V → V → Hp → Prop) (Q : V → Hp → Prop) (s : List V) (h : Hp) : t_book_maySheet_1 p l1 l2 Q (nth s 1) (nth s 28) (nth s 29) (nth s 30) h = KAt p EE (cutOf [[false, true, false, true, true], [false, true, true, true, false, false, true, true, false, false, true, false, true, true]]) (X_book_maySheet l1 l2) c_book_maySheet [] [true, true, false, true, false] (finK p Tryz.f43 Q) (nths s 50 0) h [] := by kernel_rfl
theorem r_book_maySheet_1 {Q : V → Hp → Prop} {v1 v28 v29 v30 : V} {h : Hp} (H : t_book_maySheet_1 (Pu EE) (L_book_maySheet_1 Q) (L_book_maySheet_2 Q) Q v1 v28 v29 v30 h) : L_book_maySheet_1 Q v1 v28 v29 v30 h := by
  intro s hl ⟨e1, e28, e29, e30⟩
  subst e1 e28 e29 e30
  have hl : s.length = 50 := hl
  rw [nth_all hl]
  exact lab_ofX (o_book_maySheet Q) [true, true, false, true, false] (cast (q_book_maySheet_1 (Pu EE) (L_book_maySheet_1 Q) (L_book_maySheet_2 Q) Q s h) H)
noncomputable def t_book_maySheet_2 (p : Pr) (l1 : V → V → V → V → Hp → Prop) (l2 : V → V → V → V → V → V → V → Hp → Prop) (Q : V → Hp → Prop) (v1 v28 v29 v30 v39 v40 v41 : V) (h : Hp) : Prop :=
  p.bin .lss 3 false false v41 v40 fun x1 =>
  p.cond x1
  (fun _ =>
   p.iaddr 49 v39 v41 fun x2 =>
   p.load h 9 x2 fun x3 =>
   p.call 46 [x3] h fun x4 h5 =>
   p.un .not x4 fun x6 =>
   p.cond x6
   (fun _ =>
    Q (.bool false) h5)
   (fun _ =>
    p.bin .add 3 false true v41 (.int .i64 1) fun x7 =>
    l2 v1 v28 v29 v30 v39 v40 x7 h5))
  (fun _ =>
   p.bin .add 3 false true v30 (.int .i64 1) fun x8 =>
   l1 v1 v28 v29 x8 h)
theorem q_book_maySheet_2 (p : Pr) (l1 : V → V → V → V → Hp → Prop) (l2 : V → V → V → V → V → V → V → Hp → Prop) (Q : V → Hp → Prop) (s : List V) (h : Hp) : t_book_maySheet_2 p l1 l2 Q (nth s 1) (nth s 28) (nth s 29) (nth s 30) (nth s 39) (nth s 40) (nth s 41) h = KAt p EE (cutOf [[false, true, false, true, true], [false, true, true, true, false, false, true, true, false, false, true, false, true, true]]) (X_book_maySheet l1 l2) c_book_maySheet [] [true, true, false, true, false, false, true, true, false, false, true, true, true, false] (finK p Tryz.f43 Q) (nths s 50 0) h [] := by kernel_rfl
theorem r_book_maySheet_2 {Q : V → Hp → Prop} {v1 v28 v29 v30 v39 v40 v41 : V} {h : Hp} (H : t_book_maySheet_2 (Pu EE) (L_book_maySheet_1 Q) (L_book_maySheet_2 Q) Q v1 v28 v29 v30 v39 v40 v41 h) : L_book_maySheet_2 Q v1 v28 v29 v30 v39 v40 v41 h := by
  intro s hl ⟨e1, e28, e29, e30, e39, e40, e41⟩
  subst e1 e28 e29 e30 e39 e40 e41
  have hl : s.length = 50 := hl
  rw [nth_all hl]
  exact lab_ofX (o_book_maySheet Q) [true, true, false, true, false, false, true, true, false, false, true, true, true, false] (cast (q_book_maySheet_2 (Pu EE) (L_book_maySheet_1 Q) (L_book_maySheet_2 Q) Q s h) H)
noncomputable def c_book_Get : Code := match Tryz.f30.body with | some c => c | none => .skip
theorem b_book_Get : Tryz.f30.body = some c_book_Get := by kernel_rfl
theorem e_book_Get : EE.fn.get 30 = some Tryz.f30 := by kernel_rfl
noncomputable def t_book_Get_0 (p : Pr) (Q : V → Hp → Prop) (v0 v1 : V) (h : Hp) : Prop :=
  p.box h 24 v0 fun x1 h2 b3 =>
  p.box h2 26 v1 fun x4 h5 b6 =>
  p.load h5 24 x1 fun x7 =>
  p.load h5 26 x4 fun x8 =>
  p.call 48 [x7, x8] h5 fun x9 h10 =>
  p.extr x9 0 fun x11 =>
  p.extr x9 1 fun x12 =>
  p.un .not x12 fun x13 =>
  p.cond x13
  (fun _ =>
   Q (.str []) h10)
  (fun _ =>
   p.faddr 24 x1 0 fun x14 =>
   p.load h10 22 x14 fun x15 =>
   p.iaddr 22 x15 x11 fun x16 =>
   p.faddr 48 x16 2 fun x17 =>
   p.load h10 46 x17 fun x18 =>
   p.faddr 26 x4 1 fun x19 =>
   p.load h10 3 x19 fun x20 =>
   p.iaddr 46 x18 x20 fun x21 =>
   p.load h10 49 x21 fun x22 =>
   p.faddr 26 x4 2 fun x23 =>
   p.load h10 3 x23 fun x24 =>
   p.iaddr 49 x22 x24 fun x25 =>
   p.load h10 9 x25 fun x26 =>
   Q x26 h10)
theorem q_book_Get_0 (p : Pr) (Q : V → Hp → Prop) (v0 v1 : V) (h : Hp) : t_book_Get_0 p Q v0 v1 h = KAt p EE (cutOf []) (fun _ _ _ _ => False) c_book_Get [] [] (finK p Tryz.f30 Q) ([v0, v1] ++ List.replicate 27 u0) h [] := by kernel_rfl
theorem a_book_Get {Q : V → Hp → Prop} {v0 v1 : V} {h : Hp} (H : t_book_Get_0 (Pu EE) Q v0 v1 h) : Ans EE 30 [v0, v1] h Q :=
  ans_of (by kernel_rfl) e_book_Get b_book_Get (by kernel_rfl) (lab_ofX (fun _ _ _ _ h => h.elim) [] (cast (q_book_Get_0 (Pu EE) Q v0 v1 h) H))
noncomputable def c_book_Has : Code := match Tryz.f48.body with | some c => c | none => .skip
theorem b_book_Has : Tryz.f48.body = some c_book_Has := by kernel_rfl
theorem e_book_Has : EE.fn.get 48 = some Tryz.f48 := by kernel_rfl
noncomputable def t_book_Has_0 (p : Pr) (Q : V → Hp → Prop) (v0 v1 : V) (h : Hp) : Prop :=
  p.box h 24 v0 fun x1 h2 b3 =>
  p.box h2 26 v1 fun x4 h5 b6 =>
  p.load h5 24 x1 fun x7 =>
  p.faddr 26 x4 0 fun x8 =>
  p.load h5 9 x8 fun x9 =>
  p.call 31 [x7, x9] h5 fun x10 h11 =>
  p.bin .lss 3 false true x10 (.int .i64 0) fun x12 =>
  p.gval x12 false (fun k13 =>
   p.faddr 26 x4 1 fun x14 =>
   k13 x14) fun x15 =>
  p.gval x12 false (fun k16 =>
   p.load h11 3 x15 fun x17 =>
   k16 x17) fun x18 =>
  p.gval x12 false (fun k19 =>
   p.bin .lss 3 false true x18 (.int .i64 0) fun x20 =>
   k19 x20) fun x21 =>
  p.pick x12 (some (.bool true)) (some x21) fun x22 =>
  p.gval x22 false (fun k23 =>
   p.faddr 26 x4 1 fun x24 =>
   k23 x24) fun x25 =>
  p.gval x22 false (fun k26 =>
   p.load h11 3 x25 fun x27 =>
   k26 x27) fun x28 =>
  p.gval x22 false (fun k29 =>
   p.faddr 24 x1 0 fun x30 =>
   k29 x30) fun x31 =>
  p.gval x22 false (fun k32 =>
   p.load h11 22 x31 fun x33 =>
   k32 x33) fun x34 =>
  p.gval x22 false (fun k35 =>
   k35 x10) fun x36 =>
  p.gval x22 false (fun k37 =>
   p.iaddr 22 x34 x36 fun x38 =>
   k37 x38) fun x39 =>
  p.gval x22 false (fun k40 =>
   p.faddr 48 x39 2 fun x41 =>
   k40 x41) fun x42 =>
  p.gval x22 false (fun k43 =>
   p.load h11 46 x42 fun x44 =>
   k43 x44) fun x45 =>
  p.gval x22 false (fun k46 =>
   p.lbui h11 #[46] .len [x45] fun x47 =>
   k46 x47) fun x48 =>
  p.gval x22 false (fun k49 =>
   p.bin .geq 3 false false x28 x48 fun x50 =>
   k49 x50) fun x51 =>
  p.pick x22 (some (.bool true)) (some x51) fun x52 =>
  p.cond x52
  (fun _ =>
   Q (.tup [x10, (.bool false)]) h11)
  (fun _ =>
   p.faddr 26 x4 2 fun x53 =>
   p.load h11 3 x53 fun x54 =>
   p.bin .geq 3 false true x54 (.int .i64 0) fun x55 =>
   p.gval x55 true (fun k56 =>
    p.faddr 26 x4 2 fun x57 =>
    k56 x57) fun x58 =>
   p.gval x55 true (fun k59 =>
    p.load h11 3 x58 fun x60 =>
    k59 x60) fun x61 =>
   p.gval x55 true (fun k62 =>
    p.faddr 24 x1 0 fun x63 =>
    k62 x63) fun x64 =>
   p.gval x55 true (fun k65 =>
    p.load h11 22 x64 fun x66 =>
    k65 x66) fun x67 =>
   p.gval x55 true (fun k68 =>
    k68 x10) fun x69 =>
   p.gval x55 true (fun k70 =>
    p.iaddr 22 x67 x69 fun x71 =>
    k70 x71) fun x72 =>
   p.gval x55 true (fun k73 =>
    p.faddr 48 x72 2 fun x74 =>
    k73 x74) fun x75 =>
   p.gval x55 true (fun k76 =>
    p.load h11 46 x75 fun x77 =>
    k76 x77) fun x78 =>
   p.gval x55 true (fun k79 =>
    p.faddr 26 x4 1 fun x80 =>
    k79 x80) fun x81 =>
   p.gval x55 true (fun k82 =>
    p.load h11 3 x81 fun x83 =>
    k82 x83) fun x84 =>
   p.gval x55 true (fun k85 =>
    p.iaddr 46 x78 x84 fun x86 =>
    k85 x86) fun x87 =>
   p.gval x55 true (fun k88 =>
    p.load h11 49 x87 fun x89 =>
    k88 x89) fun x90 =>
   p.gval x55 true (fun k91 =>
    p.lbui h11 #[49] .len [x90] fun x92 =>
    k91 x92) fun x93 =>
   p.gval x55 true (fun k94 =>
    p.bin .lss 3 false false x61 x93 fun x95 =>
    k94 x95) fun x96 =>
   p.pick x55 (some x96) (some (.bool false)) fun x97 =>
   p.gchk x55 true (fun k98 =>
    p.lbui h11 #[49] .len [x90] fun x99 =>
    p.same x99 x93 (
    k98)) (
   p.gchk x55 true (fun k100 =>
    p.load h11 49 x87 fun x101 =>
    p.same x101 x90 (
    k100)) (
   p.gchk x55 true (fun k102 =>
    p.load h11 3 x81 fun x103 =>
    p.same x103 x84 (
    k102)) (
   p.gchk x55 true (fun k104 =>
    p.load h11 46 x75 fun x105 =>
    p.same x105 x78 (
    k104)) (
   p.gchk x55 true (fun k106 =>
    p.load h11 22 x64 fun x107 =>
    p.same x107 x67 (
    k106)) (
   p.gchk x55 true (fun k108 =>
    p.load h11 3 x58 fun x109 =>
    p.same x109 x61 (
    k108)) (
   Q (.tup [x10, x97]) h11)))))))
theorem q_book_Has_0 (p : Pr) (Q : V → Hp → Prop) (v0 v1 : V) (h : Hp) : t_book_Has_0 p Q v0 v1 h = KAt p EE (cutOf []) (fun _ _ _ _ => False) c_book_Has [] [] (finK p Tryz.f48 Q) ([v0, v1] ++ List.replicate 49 u0) h [] := by kernel_rfl
theorem a_book_Has {Q : V → Hp → Prop} {v0 v1 : V} {h : Hp} (H : t_book_Has_0 (Pu EE) Q v0 v1 h) : Ans EE 48 [v0, v1] h Q :=
  ans_of (by kernel_rfl) e_book_Has b_book_Has (by kernel_rfl) (lab_ofX (fun _ _ _ _ h => h.elim) [] (cast (q_book_Has_0 (Pu EE) Q v0 v1 h) H))
noncomputable def c_book_Find : Code := match Tryz.f31.body with | some c => c | none => .skip
theorem b_book_Find : Tryz.f31.body = some c_book_Find := by kernel_rfl
theorem e_book_Find : EE.fn.get 31 = some Tryz.f31 := by kernel_rfl
noncomputable def t_book_Find_0 (p : Pr) (Q : V → Hp → Prop) (v0 v1 : V) (h : Hp) : Prop :=
  p.box h 24 v0 fun x1 h2 b3 =>
  p.box h2 9 v1 fun x4 h5 b6 =>
  p.faddr 24 x1 0 fun x7 =>
  p.load h5 22 x7 fun x8 =>
  p.call 49 [x8, (.fn (.func 50) [] [x4])] h5 fun x9 h10 =>
  Q x9 h10
theorem q_book_Find_0 (p : Pr) (Q : V → Hp → Prop) (v0 v1 : V) (h : Hp) : t_book_Find_0 p Q v0 v1 h = KAt p EE (cutOf []) (fun _ _ _ _ => False) c_book_Find [] [] (finK p Tryz.f31 Q) ([v0, v1] ++ List.replicate 7 u0) h [] := by kernel_rfl
theorem a_book_Find {Q : V → Hp → Prop} {v0 v1 : V} {h : Hp} (H : t_book_Find_0 (Pu EE) Q v0 v1 h) : Ans EE 31 [v0, v1] h Q :=
  ans_of (by kernel_rfl) e_book_Find b_book_Find (by kernel_rfl) (lab_ofX (fun _ _ _ _ h => h.elim) [] (cast (q_book_Find_0 (Pu EE) Q v0 v1 h) H))
noncomputable def c_book_Find_1 : Code := match Tryz.f50.body with | some c => c | none => .skip
theorem b_book_Find_1 : Tryz.f50.body = some c_book_Find_1 := by kernel_rfl
theorem e_book_Find_1 : EE.fn.get 50 = some Tryz.f50 := by kernel_rfl
noncomputable def t_book_Find_1_0 (p : Pr) (Q : V → Hp → Prop) (v0 v1 : V) (h : Hp) : Prop :=
  p.box h 48 v0 fun x1 h2 b3 =>
  p.faddr 48 x1 0 fun x4 =>
  p.load h2 9 x4 fun x5 =>
  p.load h2 9 v1 fun x6 =>
  p.bin .eql 9 false false x5 x6 fun x7 =>
  Q x7 h2
theorem q_book_Find_1_0 (p : Pr) (Q : V → Hp → Prop) (v0 v1 : V) (h : Hp) : t_book_Find_1_0 p Q v0 v1 h = KAt p EE (cutOf []) (fun _ _ _ _ => False) c_book_Find_1 [] [] (finK p Tryz.f50 Q) ([v0, v1] ++ List.replicate 6 u0) h [] := by kernel_rfl
theorem a_book_Find_1 {Q : V → Hp → Prop} {v0 v1 : V} {h : Hp} (H : t_book_Find_1_0 (Pu EE) Q v0 v1 h) : Ans EE 50 [v0, v1] h Q :=
  ans_of (by kernel_rfl) e_book_Find_1 b_book_Find_1 (by kernel_rfl) (lab_ofX (fun _ _ _ _ h => h.elim) [] (cast (q_book_Find_1_0 (Pu EE) Q v0 v1 h) H))
noncomputable def c_slices_IndexFunc_api_Sheet_api_Sheet : Code := match Tryz.f49.body with | some c => c | none => .skip
theorem b_slices_IndexFunc_api_Sheet_api_Sheet : Tryz.f49.body = some c_slices_IndexFunc_api_Sheet_api_Sheet := by kernel_rfl
theorem e_slices_IndexFunc_api_Sheet_api_Sheet : EE.fn.get 49 = some Tryz.f49 := by kernel_rfl
noncomputable def L_slices_IndexFunc_api_Sheet_api_Sheet_1 (Q : V → Hp → Prop) (v0 v1 v7 v8 : V) (h : Hp) : Prop := ∀ s : List V, s.length = (Tryz.f49).ntmps → nth s 0 = v0 ∧ nth s 1 = v1 ∧ nth s 7 = v7 ∧ nth s 8 = v8 → Lab EE Tryz.f49 c_slices_IndexFunc_api_Sheet_api_Sheet Q [false, true, false, true] s h []
noncomputable def X_slices_IndexFunc_api_Sheet_api_Sheet (l1 : V → V → V → V → Hp → Prop) : Lb := fun π s h d => match d with
  | [] => bif eqB [false, true, false, true] π then l1 (nth s 0) (nth s 1) (nth s 7) (nth s 8) h else False
  | _ => False
theorem o_slices_IndexFunc_api_Sheet_api_Sheet (Q : V → Hp → Prop) : ∀ π s h d, X_slices_IndexFunc_api_Sheet_api_Sheet (L_slices_IndexFunc_api_Sheet_api_Sheet_1 Q) π s h d → s.length = (Tryz.f49).ntmps → Lab EE Tryz.f49 c_slices_IndexFunc_api_Sheet_api_Sheet Q π s h d := by
  intro π s h d hx hl
  cases d with
  | cons _ _ => exact hx.elim
  | nil =>
    simp only [X_slices_IndexFunc_api_Sheet_api_Sheet] at hx
    cases hk : eqB [false, true, false, true] π with
    | true => rw [hk, cond_true] at hx; rw [← eqB_eq hk]; exact hx s hl ⟨rfl, rfl, rfl, rfl⟩
    | false =>
    rw [hk, cond_false] at hx
    exact hx.elim
noncomputable def t_slices_IndexFunc_api_Sheet_api_Sheet_0 (p : Pr) (l1 : V → V → V → V → Hp → Prop) (Q : V → Hp → Prop) (v0 v1 : V) (h : Hp) : Prop :=
  p.lbui h #[22] .len [v0] fun x1 =>
  l1 v0 v1 x1 (.int .i64 0) h
theorem q_slices_IndexFunc_api_Sheet_api_Sheet_0 (p : Pr) (l1 : V → V → V → V → Hp → Prop) (Q : V → Hp → Prop) (v0 v1 : V) (h : Hp) : t_slices_IndexFunc_api_Sheet_api_Sheet_0 p l1 Q v0 v1 h = KAt p EE (cutOf [[false, true, false, true]]) (X_slices_IndexFunc_api_Sheet_api_Sheet l1) c_slices_IndexFunc_api_Sheet_api_Sheet [] [] (finK p Tryz.f49 Q) ([v0, v1] ++ List.replicate 17 u0) h [] := by kernel_rfl
theorem a_slices_IndexFunc_api_Sheet_api_Sheet {Q : V → Hp → Prop} {v0 v1 : V} {h : Hp} (H : t_slices_IndexFunc_api_Sheet_api_Sheet_0 (Pu EE) (L_slices_IndexFunc_api_Sheet_api_Sheet_1 Q) Q v0 v1 h) : Ans EE 49 [v0, v1] h Q :=
  ans_of (by kernel_rfl) e_slices_IndexFunc_api_Sheet_api_Sheet b_slices_IndexFunc_api_Sheet_api_Sheet (by kernel_rfl) (lab_ofX (o_slices_IndexFunc_api_Sheet_api_Sheet Q) [] (cast (q_slices_IndexFunc_api_Sheet_api_Sheet_0 (Pu EE) (L_slices_IndexFunc_api_Sheet_api_Sheet_1 Q) Q v0 v1 h) H))
noncomputable def t_slices_IndexFunc_api_Sheet_api_Sheet_1 (p : Pr) (l1 : V → V → V → V → Hp → Prop) (Q : V → Hp → Prop) (v0 v1 v7 v8 : V) (h : Hp) : Prop :=
  p.bin .lss 3 false false v8 v7 fun x1 =>
  p.cond x1
  (fun _ =>
   p.iaddr 22 v0 v8 fun x2 =>
   p.load h 48 x2 fun x3 =>
   p.callv v1 [x3] h fun x4 h5 =>
   p.cond x4
   (fun _ =>
    Q v8 h5)
   (fun _ =>
    p.bin .add 3 false true v8 (.int .i64 1) fun x6 =>
    l1 v0 v1 v7 x6 h5))
  (fun _ =>
   Q (.int .i64 (-1)) h)
theorem q_slices_IndexFunc_api_Sheet_api_Sheet_1 (p : Pr) (l1 : V → V → V → V → Hp → Prop) (Q : V → Hp → Prop) (s : List V) (h : Hp) : t_slices_IndexFunc_api_Sheet_api_Sheet_1 p l1 Q (nth s 0) (nth s 1) (nth s 7) (nth s 8) h = KAt p EE (cutOf [[false, true, false, true]]) (X_slices_IndexFunc_api_Sheet_api_Sheet l1) c_slices_IndexFunc_api_Sheet_api_Sheet [] [true, false, true, false] (finK p Tryz.f49 Q) (nths s 19 0) h [] := by kernel_rfl
theorem r_slices_IndexFunc_api_Sheet_api_Sheet_1 {Q : V → Hp → Prop} {v0 v1 v7 v8 : V} {h : Hp} (H : t_slices_IndexFunc_api_Sheet_api_Sheet_1 (Pu EE) (L_slices_IndexFunc_api_Sheet_api_Sheet_1 Q) Q v0 v1 v7 v8 h) : L_slices_IndexFunc_api_Sheet_api_Sheet_1 Q v0 v1 v7 v8 h := by
  intro s hl ⟨e0, e1, e7, e8⟩
  subst e0 e1 e7 e8
  have hl : s.length = 19 := hl
  rw [nth_all hl]
  exact lab_ofX (o_slices_IndexFunc_api_Sheet_api_Sheet Q) [true, false, true, false] (cast (q_slices_IndexFunc_api_Sheet_api_Sheet_1 (Pu EE) (L_slices_IndexFunc_api_Sheet_api_Sheet_1 Q) Q s h) H)
noncomputable def c_addr_Name : Code := match Tryz.f65.body with | some c => c | none => .skip
theorem b_addr_Name : Tryz.f65.body = some c_addr_Name := by kernel_rfl
theorem e_addr_Name : EE.fn.get 65 = some Tryz.f65 := by kernel_rfl
noncomputable def L_addr_Name_1 (Q : V → Hp → Prop) (v0 v18 v19 : V) (h : Hp) : Prop := ∀ s : List V, s.length = (Tryz.f65).ntmps → nth s 0 = v0 ∧ nth s 18 = v18 ∧ nth s 19 = v19 → Lab EE Tryz.f65 c_addr_Name Q [false, true, false, true, true] s h []
noncomputable def X_addr_Name (l1 : V → V → V → Hp → Prop) : Lb := fun π s h d => match d with
  | [] => bif eqB [false, true, false, true, true] π then l1 (nth s 0) (nth s 18) (nth s 19) h else False
  | _ => False
theorem o_addr_Name (Q : V → Hp → Prop) : ∀ π s h d, X_addr_Name (L_addr_Name_1 Q) π s h d → s.length = (Tryz.f65).ntmps → Lab EE Tryz.f65 c_addr_Name Q π s h d := by
  intro π s h d hx hl
  cases d with
  | cons _ _ => exact hx.elim
  | nil =>
    simp only [X_addr_Name] at hx
    cases hk : eqB [false, true, false, true, true] π with
    | true => rw [hk, cond_true] at hx; rw [← eqB_eq hk]; exact hx s hl ⟨rfl, rfl, rfl⟩
    | false =>
    rw [hk, cond_false] at hx
    exact hx.elim
noncomputable def t_addr_Name_0 (p : Pr) (l1 : V → V → V → Hp → Prop) (Q : V → Hp → Prop) (v0 : V) (h : Hp) : Prop :=
  p.bin .eql 9 false true v0 (.str []) fun x1 =>
  p.gval x1 false (fun k2 =>
   k2 v0) fun x3 =>
  p.gval x1 false (fun k4 =>
   p.lbui h #[9] .len [x3] fun x5 =>
   k4 x5) fun x6 =>
  p.gval x1 false (fun k7 =>
   p.bin .gtr 3 false true x6 (.int .i64 12) fun x8 =>
   k7 x8) fun x9 =>
  p.pick x1 (some (.bool true)) (some x9) fun x10 =>
  p.gval x10 false (fun k11 =>
   k11 v0) fun x12 =>
  p.gval x10 false (fun k13 =>
   p.index 9 x12 (.int .i64 0) fun x14 =>
   k13 x14) fun x15 =>
  p.geff x10 false (fun k16 =>
   p.call 85 [x15] h fun x17 h18 =>
   k16 x17 h18) h fun x19 h20 =>
  p.gval x10 false (fun k21 =>
   p.un .not x19 fun x22 =>
   k21 x22) fun x23 =>
  p.pick x10 (some (.bool true)) (some x23) fun x24 =>
  p.cond x24
  (fun _ =>
   Q (.bool false) h20)
  (fun _ =>
   p.lbui h20 #[9] .len [v0] fun x25 =>
   l1 v0 x25 (.int .i64 0) h20)
theorem q_addr_Name_0 (p : Pr) (l1 : V → V → V → Hp → Prop) (Q : V → Hp → Prop) (v0 : V) (h : Hp) : t_addr_Name_0 p l1 Q v0 h = KAt p EE (cutOf [[false, true, false, true, true]]) (X_addr_Name l1) c_addr_Name [] [] (finK p Tryz.f65 Q) ([v0] ++ List.replicate 34 u0) h [] := by kernel_rfl
theorem a_addr_Name {Q : V → Hp → Prop} {v0 : V} {h : Hp} (H : t_addr_Name_0 (Pu EE) (L_addr_Name_1 Q) Q v0 h) : Ans EE 65 [v0] h Q :=
  ans_of (by kernel_rfl) e_addr_Name b_addr_Name (by kernel_rfl) (lab_ofX (o_addr_Name Q) [] (cast (q_addr_Name_0 (Pu EE) (L_addr_Name_1 Q) Q v0 h) H))
noncomputable def t_addr_Name_1 (p : Pr) (l1 : V → V → V → Hp → Prop) (Q : V → Hp → Prop) (v0 v18 v19 : V) (h : Hp) : Prop :=
  p.bin .lss 3 false false v19 v18 fun x1 =>
  p.cond x1
  (fun _ =>
   p.index 9 v0 v19 fun x2 =>
   p.call 85 [x2] h fun x3 h4 =>
   p.un .not x3 fun x5 =>
   p.gval x5 true (fun k6 =>
    k6 v0) fun x7 =>
   p.gval x5 true (fun k8 =>
    k8 v19) fun x9 =>
   p.gval x5 true (fun k10 =>
    p.index 9 x7 x9 fun x11 =>
    k10 x11) fun x12 =>
   p.geff x5 true (fun k13 =>
    p.call 86 [x12] h4 fun x14 h15 =>
    k13 x14 h15) h4 fun x16 h17 =>
   p.gval x5 true (fun k18 =>
    p.un .not x16 fun x19 =>
    k18 x19) fun x20 =>
   p.pick x5 (some x20) (some (.bool false)) fun x21 =>
   p.cond x21
   (fun _ =>
    Q (.bool false) h17)
   (fun _ =>
    p.bin .add 3 false true v19 (.int .i64 1) fun x22 =>
    l1 v0 v18 x22 h17))
  (fun _ =>
   Q (.bool true) h)
theorem q_addr_Name_1 (p : Pr) (l1 : V → V → V → Hp → Prop) (Q : V → Hp → Prop) (s : List V) (h : Hp) : t_addr_Name_1 p l1 Q (nth s 0) (nth s 18) (nth s 19) h = KAt p EE (cutOf [[false, true, false, true, true]]) (X_addr_Name l1) c_addr_Name [] [true, true, false, true, false] (finK p Tryz.f65 Q) (nths s 35 0) h [] := by kernel_rfl
theorem r_addr_Name_1 {Q : V → Hp → Prop} {v0 v18 v19 : V} {h : Hp} (H : t_addr_Name_1 (Pu EE) (L_addr_Name_1 Q) Q v0 v18 v19 h) : L_addr_Name_1 Q v0 v18 v19 h := by
  intro s hl ⟨e0, e18, e19⟩
  subst e0 e18 e19
  have hl : s.length = 35 := hl
  rw [nth_all hl]
  exact lab_ofX (o_addr_Name Q) [true, true, false, true, false] (cast (q_addr_Name_1 (Pu EE) (L_addr_Name_1 Q) Q s h) H)
noncomputable def c_addr_letter : Code := match Tryz.f85.body with | some c => c | none => .skip
theorem b_addr_letter : Tryz.f85.body = some c_addr_letter := by kernel_rfl
theorem e_addr_letter : EE.fn.get 85 = some Tryz.f85 := by kernel_rfl
noncomputable def t_addr_letter_0 (p : Pr) (Q : V → Hp → Prop) (v0 : V) (h : Hp) : Prop :=
  p.call 119 [v0] h fun x1 h2 =>
  p.gval x1 false (fun k3 =>
   k3 v0) fun x4 =>
  p.gval x1 false (fun k5 =>
   p.bin .geq 5 false true x4 (.int .u8 97) fun x6 =>
   k5 x6) fun x7 =>
  p.gval x1 false (fun k8 =>
   k8 x7) fun x9 =>
  p.gval x9 true (fun k10 =>
   k10 v0) fun x11 =>
  p.gval x9 true (fun k12 =>
   p.bin .leq 5 false true x11 (.int .u8 122) fun x13 =>
   k12 x13) fun x14 =>
  p.gval x1 false (fun k15 =>
   p.pick x9 (some x14) (some (.bool false)) fun x16 =>
   k15 x16) fun x17 =>
  p.pick x1 (some (.bool true)) (some x17) fun x18 =>
  Q x18 h2
theorem q_addr_letter_0 (p : Pr) (Q : V → Hp → Prop) (v0 : V) (h : Hp) : t_addr_letter_0 p Q v0 h = KAt p EE (cutOf []) (fun _ _ _ _ => False) c_addr_letter [] [] (finK p Tryz.f85 Q) ([v0] ++ List.replicate 12 u0) h [] := by kernel_rfl
theorem a_addr_letter {Q : V → Hp → Prop} {v0 : V} {h : Hp} (H : t_addr_letter_0 (Pu EE) Q v0 h) : Ans EE 85 [v0] h Q :=
  ans_of (by kernel_rfl) e_addr_letter b_addr_letter (by kernel_rfl) (lab_ofX (fun _ _ _ _ h => h.elim) [] (cast (q_addr_letter_0 (Pu EE) Q v0 h) H))
noncomputable def c_addr_digit : Code := match Tryz.f86.body with | some c => c | none => .skip
theorem b_addr_digit : Tryz.f86.body = some c_addr_digit := by kernel_rfl
theorem e_addr_digit : EE.fn.get 86 = some Tryz.f86 := by kernel_rfl
noncomputable def t_addr_digit_0 (p : Pr) (Q : V → Hp → Prop) (v0 : V) (h : Hp) : Prop :=
  p.bin .geq 5 false true v0 (.int .u8 48) fun x1 =>
  p.gval x1 true (fun k2 =>
   k2 v0) fun x3 =>
  p.gval x1 true (fun k4 =>
   p.bin .leq 5 false true x3 (.int .u8 57) fun x5 =>
   k4 x5) fun x6 =>
  p.pick x1 (some x6) (some (.bool false)) fun x7 =>
  Q x7 h
theorem q_addr_digit_0 (p : Pr) (Q : V → Hp → Prop) (v0 : V) (h : Hp) : t_addr_digit_0 p Q v0 h = KAt p EE (cutOf []) (fun _ _ _ _ => False) c_addr_digit [] [] (finK p Tryz.f86 Q) ([v0] ++ List.replicate 8 u0) h [] := by kernel_rfl
theorem a_addr_digit {Q : V → Hp → Prop} {v0 : V} {h : Hp} (H : t_addr_digit_0 (Pu EE) Q v0 h) : Ans EE 86 [v0] h Q :=
  ans_of (by kernel_rfl) e_addr_digit b_addr_digit (by kernel_rfl) (lab_ofX (fun _ _ _ _ h => h.elim) [] (cast (q_addr_digit_0 (Pu EE) Q v0 h) H))
noncomputable def c_addr_capital : Code := match Tryz.f119.body with | some c => c | none => .skip
theorem b_addr_capital : Tryz.f119.body = some c_addr_capital := by kernel_rfl
theorem e_addr_capital : EE.fn.get 119 = some Tryz.f119 := by kernel_rfl
noncomputable def t_addr_capital_0 (p : Pr) (Q : V → Hp → Prop) (v0 : V) (h : Hp) : Prop :=
  p.bin .geq 5 false true v0 (.int .u8 65) fun x1 =>
  p.gval x1 true (fun k2 =>
   k2 v0) fun x3 =>
  p.gval x1 true (fun k4 =>
   p.bin .leq 5 false true x3 (.int .u8 90) fun x5 =>
   k4 x5) fun x6 =>
  p.pick x1 (some x6) (some (.bool false)) fun x7 =>
  Q x7 h
theorem q_addr_capital_0 (p : Pr) (Q : V → Hp → Prop) (v0 : V) (h : Hp) : t_addr_capital_0 p Q v0 h = KAt p EE (cutOf []) (fun _ _ _ _ => False) c_addr_capital [] [] (finK p Tryz.f119 Q) ([v0] ++ List.replicate 8 u0) h [] := by kernel_rfl
theorem a_addr_capital {Q : V → Hp → Prop} {v0 : V} {h : Hp} (H : t_addr_capital_0 (Pu EE) Q v0 h) : Ans EE 119 [v0] h Q :=
  ans_of (by kernel_rfl) e_addr_capital b_addr_capital (by kernel_rfl) (lab_ofX (fun _ _ _ _ h => h.elim) [] (cast (q_addr_capital_0 (Pu EE) Q v0 h) H))
end
end Go.Proofs.YtlllhhjlfmhmlaaGreatDoor.VM
namespace Go.Proofs.YtlllhhjlfmhmlaaGreatDoor.VM
open Go
set_option linter.unusedVariables false
set_option linter.unusedSectionVars false
set_option linter.unusedSimpArgs false
set_option maxRecDepth 20000
noncomputable section
attribute [local instance] syZ
theorem pu_gchk_y (w : Bool) (f : Prop → Prop) (k : Prop) : (Pu EE).gchk (.bool w) w f k ↔ f k := by
  show (∃ c, wantV (.bool w) w = some c ∧ (c = true → f k) ∧ (c = false → k)) ↔ _
  simp [wantV]
theorem pu_gchk_ft (f : Prop → Prop) (k : Prop) : (Pu EE).gchk (.bool false) true f k ↔ k := by
  show (∃ c, wantV (.bool false) true = some c ∧ (c = true → f k) ∧ (c = false → k)) ↔ _
  simp [wantV]
theorem pu_gchk_tf (f : Prop → Prop) (k : Prop) : (Pu EE).gchk (.bool true) false f k ↔ k := by
  show (∃ c, wantV (.bool true) false = some c ∧ (c = true → f k) ∧ (c = false → k)) ↔ _
  simp [wantV]
theorem same_int (kd : IntKind) (n : Int) (k : Prop) : (Pu EE).same (.int kd n) (.int kd n) k ↔ k := by
  show (sameV _ _ = true ∧ k) ↔ k
  have : sameV (.int kd n) (.int kd n) = true := by simp [sameV, same1, keq_refl, ieq_dec]
  simp [this]
theorem same_rd {h : Hp} {sz len : Nat} {v : V} {cs : List V} (r : Rd h sz v len cs) (k : Prop) : (Pu EE).same v v k ↔ k := by
  show (sameV _ _ = true ∧ k) ↔ k
  have : sameV v v = true := by
    rcases r.at_ with ⟨rfl | rfl, _⟩ | ⟨b, off, vs, _, _, ⟨c, rfl⟩ | ⟨lo, z, rfl⟩⟩ <;> simp [sameV, same1]
  simp [this]
theorem find1_ok (N : Nat) (h : Hp) (s : Sht) (rv : V) (nm : List Nat) (b : Nat) (hC : C1 rv) (hb : b < h.n) (hs : h.t.get b = some (.cells [.str nm] 9 false)) : Ans EE 50 [.agg (shtC s rv), .ptr b 0] h fun x h' => x = .bool (decide (s.name = nm)) ∧ Ext h.n h h' := by
  apply a_book_Find_1
  unfold t_book_Find_1_0
  have hcl : allCells (shtC s rv) = true := by
    show (bif rv.isCell then allCells [] else false) = true
    rw [hC.2]; rfl
  refine pu_boxX (cs := shtC s rv) hcl fun h1 b1 w => ?_
  rw [fa_api_Sheet_0, pu_load1 l_string w.at_ rfl, pu_load1 l_string (by rw [w.old b hb]; exact hs) rfl, pu_seql]
  exact ⟨rfl, w.ext (Nat.le_refl _)⟩
theorem indexF_loop (Q : V → Hp → Prop) (M : Nat) (h0 : Hp) (sv : V) (bk : Bok) (nm : List Nat) (b : Nat) (hM : M ≤ h0.n) (hb : b < h0.n) (hs : h0.t.get b = some (.cells [.str nm] 9 false)) (hv : ShsAt M h0 sv bk) (hbl : bk.length < 1000000) :
    ∀ (k i : Nat), bk.length - i = k → i ≤ bk.length → ∀ h : Hp, Ext h0.n h0 h → (∀ (z : Int) (h' : Hp), z = (match findN (bk.drop i) nm i with | some j => (j : Int) | none => -1) → Ext h0.n h0 h' → Q (.int .i64 z) h') →
      L_slices_IndexFunc_api_Sheet_api_Sheet_1 Q sv (.fn (.func 50) [] [.ptr b 0]) (.int .i64 bk.length) (.int .i64 i) h := by
  intro k
  induction k with
  | zero =>
    intro i hk hi h x hq
    apply r_slices_IndexFunc_api_Sheet_api_Sheet_1
    unfold t_slices_IndexFunc_api_Sheet_api_Sheet_1
    rw [pu_lssN, pu_cond_d]
    refine ⟨fun h1 => absurd h1 (by omega), fun _ => hq (-1) h ?_ x⟩
    rw [List.drop_eq_nil_of_le (by omega)]
    rfl
  | succ k ih =>
    intro i hk hi h x hq
    apply r_slices_IndexFunc_api_Sheet_api_Sheet_1
    unfold t_slices_IndexFunc_api_Sheet_api_Sheet_1
    rw [pu_lssN, pu_cond_d]
    refine ⟨fun h1 => ?_, fun h1 => absurd (by omega) h1⟩
    have hv1 := hv.ext (x.mono hM)
    obtain ⟨b1, o1, rv, g1, g2, g3, _⟩ := sht_get hv1 s_sl_api_Sheet l_api_Sheet (List.getElem?_eq_getElem h1)
    have hC : C1 rv := by obtain ⟨us, hu⟩ := g3.rd; exact hu.c1
    have hxn := x.n
    rw [g1, g2]
    refine ⟨(50, [.agg (shtC bk[i] rv), .ptr b 0]), rfl, ?_⟩
    refine (find1_ok M h bk[i] rv nm b hC (by omega) (by rw [x.old b hb]; exact hs)).mono ?_
    rintro y h2 ⟨rfl, hx2⟩
    have x2 := x.trans (hx2.mono hxn)
    rw [drop_cons h1] at hq
    simp only [findN] at hq
    rw [pu_cond_d]
    refine ⟨fun e => hq i h2 (by rw [if_pos e]) x2, fun e => ?_⟩
    rw [if_neg e] at hq
    rw [pu_inc _ _ _ _ (by omega)]
    exact ih (i + 1) (by omega) (by omega) h2 x2 hq
theorem pfind_ok (M : Nat) (h : Hp) (v : V) (bk : Bok) (nm : List Nat) (hv : BokAt M h v bk) (hM : M ≤ h.n) (hb : bk.length < 1000000) : Ans EE 31 [v, .str nm] h fun x h' => x = .int .i64 (findZ bk nm) ∧ Ext h.n h h' := by
  obtain ⟨sv, rfl, hs⟩ := hv
  apply a_book_Find
  unfold t_book_Find_0
  obtain ⟨cs, hrd⟩ := hs.rd
  refine pu_boxX (cs := [sv]) (by have := hrd.c1; simp [allCells, this.2]) fun h1 b1 w1 => ?_
  refine (pu_box (x := .str nm) (e := 9) rfl h1 _).2 ?_
  have w2 := New.mk' h1 (.cells [.str nm] 9 false)
  show (Pu EE).faddr _ _ _ _
  obtain ⟨h2, hh2⟩ : ∃ h2, h2 = h1.new (.cells (V.str nm).cells 9 false) := ⟨_, rfl⟩
  rw [← hh2]
  have w2 : New h1 h2 h1.n (.cells [.str nm] 9 false) := by rw [hh2]; exact w2
  have n1 := w1.n
  have n2 := w2.n
  have e1 := w1.b
  have x2 : Ext h.n h h2 := (w1.ext (Nat.le_refl _)).trans (w2.ext (by omega))
  have hb1 : h2.t.get b1 = some (.cells [sv] 24 false) := by rw [w2.old b1 (by omega)]; exact w1.at_
  rw [fa_api_Book_0, pu_load1 l_sl_api_Sheet hb1 rfl]
  have hs2 := hs.ext (x2.mono hM)
  obtain ⟨cs2, hrd2⟩ := hs2.rd
  refine Ans.mono (Q := fun x h' => x = .int .i64 (findZ bk nm) ∧ Ext h2.n h2 h') ?_ (fun x h' q => ⟨q.1, x2.trans (q.2.mono (by omega))⟩)
  apply a_slices_IndexFunc_api_Sheet_api_Sheet
  unfold t_slices_IndexFunc_api_Sheet_api_Sheet_0
  rw [pu_len hrd2 s_sl_api_Sheet]
  exact indexF_loop _ M h2 sv bk nm h1.n (by omega) (by omega) w2.at_ hs2 hb _ 0 rfl (by omega) h2 (Ext.refl _ _) fun z h' e x => ⟨by rw [e]; rfl, x⟩
/-- is there such a cell? -/
def hasC (bk : Bok) (s : Spt) : Bool := match findR bk s.s with
  | none => false
  | some t => insideB t s.r s.c
theorem has_ok (M : Nat) (h : Hp) (v : V) (bk : Bok) (s : Spt) (hv : BokAt M h v bk) (hM : M ≤ h.n) (hb : bk.length < 1000000) : Ans EE 48 [v, spV s] h fun x h' => x = .tup [.int .i64 (findZ bk s.s), .bool (hasC bk s)] ∧ Ext h.n h h' := by
  have hv0 := hv
  obtain ⟨sv, rfl, hs⟩ := hv
  obtain ⟨cs, hrd⟩ := hs.rd
  have hcell : allCells [sv] = true := by have := hrd.c1; simp [allCells, this.2]
  apply a_book_Has
  unfold t_book_Has_0
  refine pu_boxX (cs := [sv]) hcell fun h1 b1 w1 => ?_
  refine pu_boxX (cs := spC s) rfl fun h2 b2 w2 => ?_
  have n1 := w1.n
  have n2 := w2.n
  have e1 := w1.b
  have e2 := w2.b
  have hx2 : Ext h.n h h2 := (w1.ext (Nat.le_refl h.n)).trans (w2.ext (by omega))
  have hb1 : h2.t.get b1 = some (.cells [sv] 24 false) := by rw [w2.old b1 (by omega)]; exact w1.at_
  rw [pu_loadS l_api_Book hb1 (l := [sv]) rfl, fa_api_Spot_0, pu_load1 l_string w2.at_ rfl]
  refine (pfind_ok M h2 _ bk s.s (hv0.ext (hx2.mono hM)) (by omega) hb).mono ?_
  rintro x h3 ⟨rfl, hx3⟩
  have hx : Ext h.n h h3 := hx2.trans (hx3.mono (by omega))
  have hs3 := hs.ext (hx.mono hM)
  have hb13 : h3.t.get b1 = some (.cells [sv] 24 false) := by rw [hx3.old b1 (by omega)]; exact hb1
  have hb23 : h3.t.get b2 = some (.cells (spC s) 26 false) := by rw [hx3.old b2 (by omega)]; exact w2.at_
  have z0 : ∀ n : Nat, decide ((n : Int) < 0) = false := fun n => decide_eq_false (by omega)
  have g0 : ∀ n : Nat, decide ((0 : Int) ≤ (n : Int)) = true := fun n => decide_eq_true (by omega)
  unfold findZ hasC
  cases hf : findN bk s.s 0 with
  | none =>
    rw [findN_none hf]
    simp only
    rw [pu_lss, decide_eq_true (by decide : (-1 : Int) < 0)]
    simp only [pu_gval_tf, pu_pick_t, pu_cond_t]
    exact ⟨by first | trivial | rfl, hx⟩
  | some j =>
    obtain ⟨_, t, ht, hnm, hfr⟩ := findN_some hf
    rw [Nat.sub_zero] at ht
    rw [hfr]
    simp only
    obtain ⟨b4, o4, rv, g1, g2, g3, vs, f, ro, g4, g5⟩ := sht_get hs3 s_sl_api_Sheet l_api_Sheet ht
    obtain ⟨us, hu⟩ := g3.rd
    rw [pu_lss, z0]
    simp only [pu_gval_y, pu_pick_f, fa_api_Spot_1]
    rw [pu_load1 l_int hb23 rfl, pu_lss, z0]
    simp only [pu_gval_y, pu_pick_f, fa_api_Spot_1, fa_api_Book_0]
    rw [pu_load1 l_int hb23 rfl, pu_load1 l_sl_api_Sheet hb13 rfl, g1, fa_api_Sheet_2, pu_load1 l_sl_sl_string g4 (g5 2 _ rfl), pu_len hu s_sl_sl_string, geqN, pu_cond_d]
    unfold insideB
    refine ⟨fun h9 => ?_, fun h9 => ?_⟩
    · rw [List.getElem?_eq_none (by omega)]
      exact ⟨by first | trivial | rfl, hx⟩
    · obtain ⟨b7, o7, w7, m1, m2, m3⟩ := rows_get g3 s_sl_sl_string l_sl_string (List.getElem?_eq_getElem (by omega : s.r < t.rows.length))
      rw [fa_api_Spot_2, pu_load1 l_int hb23 rfl, pu_geq, g0]
      simp only [pu_gval_y, pu_gchk_y, pu_pick_t, fa_api_Spot_2]
      rw [pu_load1 l_int hb23 rfl, pu_load1 l_sl_api_Sheet hb13 rfl, g1, fa_api_Sheet_2, pu_load1 l_sl_sl_string g4 (g5 2 _ rfl), pu_load1 l_int hb23 rfl, m1, m2, pu_len m3.1 s_sl_string, pu_lssN]
      rw [pu_len m3.1 s_sl_string, same_int, m2, same_rd m3.1, pu_load1 l_int hb23 rfl, same_int, pu_load1 l_sl_sl_string g4 (g5 2 _ rfl), same_rd hu, pu_load1 l_sl_api_Sheet hb13 rfl, same_rd (hs3.rd.choose_spec), pu_load1 l_int hb23 rfl, same_int]
      rw [List.getElem?_eq_getElem (by omega : s.r < t.rows.length)]
      exact ⟨by first | trivial | rfl, hx⟩
theorem pget_ok (M : Nat) (h : Hp) (v : V) (bk : Bok) (s : Spt) (hv : BokAt M h v bk) (hM : M ≤ h.n) (hb : bk.length < 1000000) : Ans EE 30 [v, spV s] h fun x h' => x = .str (getC bk s) ∧ Ext h.n h h' := by
  have hv0 := hv
  obtain ⟨sv, rfl, hs⟩ := hv
  obtain ⟨cs, hrd⟩ := hs.rd
  have hcell : allCells [sv] = true := by have := hrd.c1; simp [allCells, this.2]
  apply a_book_Get
  unfold t_book_Get_0
  refine pu_boxX (cs := [sv]) hcell fun h1 b1 w1 => ?_
  refine pu_boxX (cs := spC s) rfl fun h2 b2 w2 => ?_
  have n1 := w1.n
  have n2 := w2.n
  have e1 := w1.b
  have e2 := w2.b
  have hx2 : Ext h.n h h2 := (w1.ext (Nat.le_refl h.n)).trans (w2.ext (by omega))
  have hb1 : h2.t.get b1 = some (.cells [sv] 24 false) := by rw [w2.old b1 (by omega)]; exact w1.at_
  rw [pu_loadS l_api_Book hb1 (l := [sv]) rfl, pu_loadS l_api_Spot w2.at_ (l := spC s) rfl]
  refine (has_ok M h2 _ bk s (hv0.ext (hx2.mono hM)) (by omega) hb).mono ?_
  rintro x h3 ⟨rfl, hx3⟩
  have hx : Ext h.n h h3 := hx2.trans (hx3.mono (by omega))
  have hs3 := hs.ext (hx.mono hM)
  have hb13 : h3.t.get b1 = some (.cells [sv] 24 false) := by rw [hx3.old b1 (by omega)]; exact hb1
  have hb23 : h3.t.get b2 = some (.cells (spC s) 26 false) := by rw [hx3.old b2 (by omega)]; exact w2.at_
  rw [pu_extr0, pu_extr1, pu_not]
  unfold findZ hasC getC
  cases hf : findN bk s.s 0 with
  | none =>
    rw [findN_none hf]
    simp only [Bool.not_false, pu_cond_t]
    exact ⟨by first | trivial | rfl, hx⟩
  | some j =>
    obtain ⟨_, t, ht, hnm, hfr⟩ := findN_some hf
    rw [Nat.sub_zero] at ht
    rw [hfr]
    simp only
    unfold insideB
    cases hrow : t.rows[s.r]? with
    | none =>
      simp only [Bool.not_false, pu_cond_t]
      exact ⟨by first | trivial | rfl, hx⟩
    | some row =>
      simp only [pu_cond_n]
      refine ⟨fun h9 => ?_, fun h9 => ?_⟩
      · rw [List.getElem?_eq_none (by omega)]
        exact ⟨by first | trivial | rfl, hx⟩
      · obtain ⟨b4, o4, rv, g1, g2, g3, vs, f, ro, g4, g5⟩ := sht_get hs3 s_sl_api_Sheet l_api_Sheet ht
        obtain ⟨b7, o7, w7, m1, m2, m3⟩ := rows_get g3 s_sl_sl_string l_sl_string hrow
        obtain ⟨b8, o8, m4, m5⟩ := row_get m3 s_sl_string l_string (List.getElem?_eq_getElem h9)
        rw [fa_api_Book_0, pu_load1 l_sl_api_Sheet hb13 rfl, g1, fa_api_Sheet_2, pu_load1 l_sl_sl_string g4 (g5 2 _ rfl), fa_api_Spot_1, pu_load1 l_int hb23 rfl, m1, m2, fa_api_Spot_2, pu_load1 l_int hb23 rfl, m4, m5, List.getElem?_eq_getElem h9]
        exact ⟨by first | trivial | rfl, hx⟩
end
end Go.Proofs.YtlllhhjlfmhmlaaGreatDoor.VM
namespace Go.Proofs.YtlllhhjlfmhmlaaGreatDoor.VM
open Go
set_option linter.unusedVariables false
set_option linter.unusedSectionVars false
set_option linter.unusedSimpArgs false
set_option maxRecDepth 20000
noncomputable section
attribute [local instance] syZ
def NameOKs (nm : List Nat) : Prop := ∀ h : Hp, Ans EE 65 [.str nm] h fun v h' => v = .bool true ∧ h' = h
theorem nameRun (c : Fin 9) (h : Hp) : callOf EE (exec EE 60) 65 [.str [65 + c.val]] h = some (.bool true, h) := by
  have key : ∀ k, k < 9 → callOf EE (exec EE 60) 65 [.str [65 + k]] h = some (.bool true, h) := by
    intro k hk
    rcases (by omega : k = 0 ∨ k = 1 ∨ k = 2 ∨ k = 3 ∨ k = 4 ∨ k = 5 ∨ k = 6 ∨ k = 7 ∨ k = 8) with rfl | rfl | rfl | rfl | rfl | rfl | rfl | rfl | rfl <;> kernel_rfl
  exact key c.val c.isLt
theorem name1 {c : Nat} (h1 : 65 ≤ c) (h2 : c ≤ 73) : NameOKs [c] := fun h => by
  have := nameRun ⟨c - 65, by omega⟩ h
  rw [show 65 + (⟨c - 65, by omega⟩ : Fin 9).val = c by simp; omega] at this
  exact ⟨_, _, ⟨60, this⟩, rfl, rfl⟩
/-- a book that may be -/
structure Mays (bk : Bok) : Prop where
  good : Good bk
  len : bk.length ≤ 5
  cols : ∀ s ∈ bk, s.cols ≤ 12
  rows : ∀ s ∈ bk, s.rows.length ≤ 24
  row : ∀ s ∈ bk, ∀ r ∈ s.rows, r.length = s.cols
  name : ∀ s ∈ bk, NameOKs s.name
section
variable (Q : V → Hp → Prop) (M : Nat) (h0 : Hp) (s : Sht) (rv : V) (b : Nat) (hM : M ≤ h0.n) (hb : b < h0.n) (hbox : h0.t.get b = some (.cells (shtC s rv) 48 false)) (hr : RowsAt M h0 rv s.rows) (hrl : s.rows.length ≤ 24) (hcl : s.cols ≤ 12) (hrow : ∀ r ∈ s.rows, r.length = s.cols) (htx : ∀ r ∈ s.rows, ∀ t ∈ r, TextIs t)
include hM hb hbox hr hrl hcl hrow htx
theorem mayS_loop2 (r : Nat) (row : List (List Nat)) (wv : V) (hrw : s.rows[r]? = some row) (hrd : RowAt M h0 wv row)
    (hn : ∀ h : Hp, Ext h0.n h0 h → L_book_maySheet_1 Q (.ptr b 0) rv (.int .i64 s.rows.length) (.int .i64 (r + 1 : Nat)) h) :
    ∀ (k c : Nat), row.length - c = k → c ≤ row.length → ∀ h : Hp, Ext h0.n h0 h → L_book_maySheet_2 Q (.ptr b 0) rv (.int .i64 s.rows.length) (.int .i64 r) wv (.int .i64 row.length) (.int .i64 c) h := by
  have hrr := (List.getElem?_eq_some_iff.1 hrw).1
  have hrl2 := hrow row (List.mem_of_getElem? hrw)
  intro k
  induction k with
  | zero =>
    intro c hk hc h x
    apply r_book_maySheet_2
    unfold t_book_maySheet_2
    rw [pu_lssN, pu_cond_d]
    refine ⟨fun h1 => absurd h1 (by omega), fun _ => ?_⟩
    rw [pu_inc _ _ _ _ (by omega)]
    exact hn h x
  | succ k ih =>
    intro c hk hc h x
    apply r_book_maySheet_2
    unfold t_book_maySheet_2
    rw [pu_lssN, pu_cond_d]
    refine ⟨fun h1 => ?_, fun h1 => absurd (by omega) h1⟩
    obtain ⟨b1, o1, g1, g2⟩ := row_get (hrd.ext (x.mono hM)) s_sl_string l_string (List.getElem?_eq_getElem h1)
    rw [g1, g2]
    refine (may_ok (htx row (List.mem_of_getElem? hrw) _ (List.getElem_mem _)) h).mono ?_
    rintro y h2 ⟨rfl, hx2⟩
    rw [pu_not]
    simp only [Bool.not_true, pu_cond_f]
    rw [pu_inc _ _ _ _ (by omega)]
    exact ih (c + 1) (by omega) (by omega) h2 (x.trans (hx2.mono x.n))
theorem mayS_loop1 (hq : ∀ h : Hp, Ext h0.n h0 h → Q (.bool true) h) :
    ∀ (k r : Nat), s.rows.length - r = k → r ≤ s.rows.length → ∀ h : Hp, Ext h0.n h0 h → L_book_maySheet_1 Q (.ptr b 0) rv (.int .i64 s.rows.length) (.int .i64 r) h := by
  intro k
  induction k with
  | zero =>
    intro r hk hc h x
    apply r_book_maySheet_1
    unfold t_book_maySheet_1
    rw [pu_lssN, pu_cond_d]
    exact ⟨fun h1 => absurd h1 (by omega), fun _ => hq h x⟩
  | succ k ih =>
    intro r hk hc h x
    apply r_book_maySheet_1
    unfold t_book_maySheet_1
    rw [pu_lssN, pu_cond_d]
    refine ⟨fun h1 => ?_, fun h1 => absurd (by omega) h1⟩
    have hbx : h.t.get b = some (.cells (shtC s rv) 48 false) := by rw [x.old b hb]; exact hbox
    obtain ⟨b1, o1, w, g1, g2, g3⟩ := rows_get (hr.ext (x.mono hM)) s_sl_sl_string l_sl_string (List.getElem?_eq_getElem h1)
    obtain ⟨b2, o2, w2, k1, k2, k3⟩ := rows_get hr s_sl_sl_string l_sl_string (List.getElem?_eq_getElem h1)
    have hl := hrow _ (List.getElem_mem h1)
    have hww : RowAt M h0 w s.rows[r] := by
      obtain ⟨vs, q1, q2, q3⟩ := hr
      obtain ⟨u, q4, q5⟩ := q3 r _ (List.getElem?_eq_getElem h1)
      obtain ⟨b3, o3, p1, p2, _⟩ := rd_get1 (q1.ext (x.mono hM) q2) s_sl_sl_string l_sl_string q4
      have e1 := (g1 .i64 (fun a => a = .ptr b1 o1)).2 rfl
      rw [p1] at e1
      have e2 := (g2 (fun a => a = w)).2 rfl
      have e3 : V.ptr b3 o3 = V.ptr b1 o1 := e1
      rw [← e3, p2] at e2
      rw [← e2]
      exact q5
    rw [g1, g2, pu_len g3.1 s_sl_string, fa_api_Sheet_1, pu_load1 l_int hbx rfl, pu_neq, pu_cond_n]
    refine ⟨fun e => absurd (by omega) e, fun _ => ?_⟩
    rw [pu_len g3.1 s_sl_string]
    exact mayS_loop2 Q M h0 s rv b hM hb hbox hr hrl hcl hrow htx r s.rows[r] w (List.getElem?_eq_getElem h1) hww (fun h' x' => ih (r + 1) (by omega) (by omega) h' x') _ 0 rfl (by omega) h x
end
theorem gtrN (a b : Nat) (t : Nat) (cx cy : Bool) (q : V → Prop) : (Pu EE).bin .gtr t cx cy (.int .i64 a) (.int .i64 b) q ↔ q (.bool (decide (b < a))) := by
  rw [pu_gtr]
  have : decide ((b : Int) < (a : Int)) = decide (b < a) := by rw [decide_eq_decide]; omega
  rw [this]
theorem maySheet_ok (M : Nat) (h : Hp) (s : Sht) (rv : V) (hr : RowsAt M h rv s.rows) (hM : M ≤ h.n) (hrl : s.rows.length ≤ 24) (hcl : s.cols ≤ 12) (hrow : ∀ r ∈ s.rows, r.length = s.cols) (htx : ∀ r ∈ s.rows, ∀ t ∈ r, TextIs t) (hnm : NameOKs s.name) :
    Ans EE 43 [.agg (shtC s rv)] h fun x h' => x = .bool true ∧ Ext h.n h h' := by
  apply a_book_maySheet
  unfold t_book_maySheet_0
  obtain ⟨us, hu⟩ := hr.rd
  have hcl' : allCells (shtC s rv) = true := by
    show (bif rv.isCell then allCells [] else false) = true
    rw [hu.c1.2]; rfl
  refine pu_boxX (cs := shtC s rv) hcl' fun h1 b w => ?_
  have n1 := w.n
  have e1 := w.b
  have hx := w.ext (Nat.le_refl h.n)
  have hr1 := hr.ext (hx.mono hM)
  obtain ⟨us1, hu1⟩ := hr1.rd
  rw [fa_api_Sheet_0, pu_load1 l_string w.at_ rfl]
  refine (hnm h1).mono ?_
  rintro y h2 ⟨rfl, rfl⟩
  rw [pu_not]
  simp only [Bool.not_true, pu_gval_y, pu_pick_f, fa_api_Sheet_1]
  rw [pu_load1 l_int w.at_ rfl, pu_lss, decide_eq_false (by omega : ¬ ((s.cols : Int) < 0))]
  simp only [pu_gval_y, pu_pick_f, fa_api_Sheet_1]
  rw [pu_load1 l_int w.at_ rfl, show (12 : Int) = ((12 : Nat) : Int) from rfl, gtrN, decide_eq_false (by omega : ¬ (12 < s.cols))]
  simp only [pu_gval_y, pu_pick_f, fa_api_Sheet_2]
  rw [pu_load1 l_sl_sl_string w.at_ rfl, pu_len hu1 s_sl_sl_string, show (24 : Int) = ((24 : Nat) : Int) from rfl, gtrN, decide_eq_false (by omega : ¬ (24 < s.rows.length))]
  simp only [pu_cond_f]
  rw [pu_load1 l_sl_sl_string w.at_ rfl, pu_len hu1 s_sl_sl_string]
  exact mayS_loop1 _ M h2 s rv b (by omega) (by omega) w.at_ hr1 hrl hcl hrow htx (fun h' x' => ⟨rfl, hx.trans (x'.mono (by omega))⟩) _ 0 rfl (by omega) h2 (Ext.refl _ _)
theorem pmay_ok (M : Nat) (h : Hp) (v : V) (bk : Bok) (hv : BokAt M h v bk) (hM : M ≤ h.n) (g : Mays bk) : Ans EE 23 [v] h fun x h' => x = .bool true ∧ Ext h.n h h' := by
  obtain ⟨sv, rfl, hs⟩ := hv
  obtain ⟨cs, hrd⟩ := hs.rd
  have hcell : allCells [sv] = true := by have := hrd.c1; simp [allCells, this.2]
  apply a_book_May
  unfold t_book_May_0
  refine pu_boxX (cs := [sv]) hcell fun h1 b w => ?_
  have n1 := w.n
  have e1 := w.b
  have hx := w.ext (Nat.le_refl h.n)
  have hs1 := hs.ext (hx.mono hM)
  obtain ⟨cs1, hrd1⟩ := hs1.rd
  have hlen := g.len
  rw [fa_api_Book_0, pu_load1 l_sl_api_Sheet w.at_ rfl, pu_len hrd1 s_sl_api_Sheet, show (5 : Int) = ((5 : Nat) : Int) from rfl, gtrN, decide_eq_false (by omega : ¬ (5 < List.length bk)), pu_cond_f, fa_api_Book_0, pu_load1 l_sl_api_Sheet w.at_ rfl, pu_len hrd1 s_sl_api_Sheet]
  have loop : ∀ (k i : Nat), bk.length - i = k → i ≤ bk.length → ∀ h2 : Hp, Ext h1.n h1 h2 → L_book_May_1 (fun x h' => x = .bool true ∧ Ext h.n h h') (.ptr b 0) sv (.int .i64 bk.length) (.int .i64 i) h2 := by
    intro k
    induction k with
    | zero =>
      intro i hk hi h2 x
      apply r_book_May_1
      unfold t_book_May_1
      rw [pu_lssN, pu_cond_d]
      exact ⟨fun q => absurd q (by omega), fun _ => ⟨rfl, hx.trans (x.mono (by omega))⟩⟩
    | succ k ih =>
      intro i hk hi h2 x
      apply r_book_May_1
      unfold t_book_May_1
      rw [pu_lssN, pu_cond_d]
      refine ⟨fun q => ?_, fun q => absurd (by omega) q⟩
      have n2 := x.n
      have hx2 : Ext h.n h h2 := hx.trans (x.mono (by omega))
      obtain ⟨b4, o4, rv, g1, g2, g3, _⟩ := sht_get (hs.ext (hx2.mono hM)) s_sl_api_Sheet l_api_Sheet (List.getElem?_eq_getElem q)
      obtain ⟨us, hu⟩ := g3.rd
      have hcl' : allCells (shtC bk[i] rv) = true := by
        show (bif rv.isCell then allCells [] else false) = true
        rw [hu.c1.2]; rfl
      rw [g1, g2]
      refine pu_allocX l_api_Sheet fun h3 b3 w3 => ?_
      refine pu_storeX l_api_Sheet w3.at_ (x := .agg (shtC bk[i] rv)) rfl hcl' (r := shtC bk[i] rv) rfl fun h4 w4 => ?_
      have n3 := w3.n
      have e3 := w3.b
      have n4 := w4.n
      have x4 : Ext h1.n h1 h4 := x.trans ((w3.ext x.n).trans (w4.ext (by omega)))
      have hb4 : h4.t.get b = some (.cells [sv] 24 false) := by rw [x4.old b (by omega)]; exact w.at_
      have hxx : Ext h.n h h4 := hx.trans (x4.mono (by omega))
      have hs4 := hs.ext (hxx.mono hM)
      have call : ∀ P : Prop, P = ((Pu EE).load h4 48 (.ptr b3 0) fun x40 => (Pu EE).call 43 [x40] h4 fun x45 h46 => (Pu EE).un .not x45 fun x49 => (Pu EE).cond x49 (fun _ => (fun x h' => x = V.bool true ∧ Ext h.n h h') (.bool false) h46) (fun _ => (Pu EE).bin .add 3 false true (.int .i64 i) (.int .i64 1) fun x51 => L_book_May_1 (fun x h' => x = .bool true ∧ Ext h.n h h') (.ptr b 0) sv (.int .i64 bk.length) x51 h46)) → P := by
        rintro P rfl
        rw [pu_loadS l_api_Sheet w4.at_ (l := shtC bk[i] rv) rfl]
        have hm : bk[i] ∈ bk := List.getElem_mem _
        have g34 : RowsAt M h4 rv bk[i].rows := g3.ext (((w3.ext (Nat.le_refl _)).trans (w4.ext (by omega))).mono (by omega))
        refine (maySheet_ok M h4 bk[i] rv g34 (by omega) (g.rows _ hm) (g.cols _ hm) (g.row _ hm) (g.good.text _ hm) (g.name _ hm)).mono ?_
        rintro y h5 ⟨rfl, hx5⟩
        rw [pu_not]
        simp only [Bool.not_true, pu_cond_f]
        rw [pu_inc _ _ _ _ (by omega)]
        exact ih (i + 1) (by omega) (by omega) h5 (x4.trans (hx5.mono (by omega)))
      rw [show (0 : Int) = ((0 : Nat) : Int) from rfl, gtrN]
      by_cases hi0 : 0 < i
      · rw [decide_eq_true hi0]
        simp only [pu_gval_y, fa_api_Book_0, pu_pick_t]
        obtain ⟨b6, o6, rv6, k1, k2, k3, vs6, f6, ro6, k4, k5⟩ := sht_get hs4 s_sl_api_Sheet l_api_Sheet (List.getElem?_eq_getElem (by omega : i - 1 < bk.length))
        have hsub : ∀ q : V → Prop, (Pu EE).bin .sub 3 false true (.int .i64 i) (.int .i64 1) q ↔ q (.int .i64 ((i - 1 : Nat) : Int)) := fun q => by
          rw [pu_sub, show (i : Int) - 1 = ((i - 1 : Nat) : Int) by omega, w64 _ (by omega)]
        rw [pu_load1 l_sl_api_Sheet hb4 rfl, hsub, k1, fa_api_Sheet_0, pu_load1 l_string k4 (k5 0 _ rfl)]
        try simp only [fa_api_Sheet_0]
        rw [pu_load1 l_string w4.at_ rfl, pu_sgeq]
        have hlt : slt bk[i - 1].name bk[i].name = true := by
          have := List.pairwise_iff_getElem.1 g.good.ris (i - 1) i (by omega) (by omega) (by omega)
          exact this
        rw [hlt]
        simp only [Bool.not_true, pu_gval_y, pu_geff_y, pu_pick_f]
        exact call _ rfl
      · rw [decide_eq_false hi0]
        simp only [pu_gval_ft, pu_pick_f, pu_gval_y, pu_geff_y]
        exact call _ rfl
  exact loop _ 0 rfl (by omega) h1 (Ext.refl _ _)
end
end Go.Proofs.YtlllhhjlfmhmlaaGreatDoor.VM
namespace Go.Proofs.YtlllhhjlfmhmlaaGreatDoor.VM
open Go
set_option linter.unusedVariables false
set_option maxRecDepth 100000
noncomputable section
noncomputable def c_deps_formulas : Code := match Tryz.f24.body with | some c => c | none => .skip
theorem b_deps_formulas : Tryz.f24.body = some c_deps_formulas := by kernel_rfl
theorem e_deps_formulas : EE.fn.get 24 = some Tryz.f24 := by kernel_rfl
noncomputable def L_deps_formulas_1 (Q : V → Hp → Prop) (v3 v11 v12 v13 : V) (h : Hp) : Prop := ∀ s : List V, s.length = (Tryz.f24).ntmps → nth s 3 = v3 ∧ nth s 11 = v11 ∧ nth s 12 = v12 ∧ nth s 13 = v13 → Lab EE Tryz.f24 c_deps_formulas Q [false, true, false, true, true] s h []
noncomputable def L_deps_formulas_2 (Q : V → Hp → Prop) (v3 v5 v11 v12 v13 v18 v19 v20 : V) (h : Hp) : Prop := ∀ s : List V, s.length = (Tryz.f24).ntmps → nth s 3 = v3 ∧ nth s 5 = v5 ∧ nth s 11 = v11 ∧ nth s 12 = v12 ∧ nth s 13 = v13 ∧ nth s 18 = v18 ∧ nth s 19 = v19 ∧ nth s 20 = v20 → Lab EE Tryz.f24 c_deps_formulas Q [false, true, true, false, false, true, true, false, false, true, false, true, true] s h []
noncomputable def L_deps_formulas_3 (Q : V → Hp → Prop) (v3 v5 v6 v11 v12 v13 v18 v19 v20 v25 v26 v27 : V) (h : Hp) : Prop := ∀ s : List V, s.length = (Tryz.f24).ntmps → nth s 3 = v3 ∧ nth s 5 = v5 ∧ nth s 6 = v6 ∧ nth s 11 = v11 ∧ nth s 12 = v12 ∧ nth s 13 = v13 ∧ nth s 18 = v18 ∧ nth s 19 = v19 ∧ nth s 20 = v20 ∧ nth s 25 = v25 ∧ nth s 26 = v26 ∧ nth s 27 = v27 → Lab EE Tryz.f24 c_deps_formulas Q [false, true, true, false, false, true, true, false, false, true, true, false, false, true, true, false, false, true, false, true, true] s h []
noncomputable def X_deps_formulas (l1 : V → V → V → V → Hp → Prop) (l2 : V → V → V → V → V → V → V → V → Hp → Prop) (l3 : V → V → V → V → V → V → V → V → V → V → V → V → Hp → Prop) : Lb := fun π s h d => match d with
  | [] => bif eqB [false, true, false, true, true] π then l1 (nth s 3) (nth s 11) (nth s 12) (nth s 13) h else bif eqB [false, true, true, false, false, true, true, false, false, true, false, true, true] π then l2 (nth s 3) (nth s 5) (nth s 11) (nth s 12) (nth s 13) (nth s 18) (nth s 19) (nth s 20) h else bif eqB [false, true, true, false, false, true, true, false, false, true, true, false, false, true, true, false, false, true, false, true, true] π then l3 (nth s 3) (nth s 5) (nth s 6) (nth s 11) (nth s 12) (nth s 13) (nth s 18) (nth s 19) (nth s 20) (nth s 25) (nth s 26) (nth s 27) h else False
  | _ => False
theorem o_deps_formulas (Q : V → Hp → Prop) : ∀ π s h d, X_deps_formulas (L_deps_formulas_1 Q) (L_deps_formulas_2 Q) (L_deps_formulas_3 Q) π s h d → s.length = (Tryz.f24).ntmps → Lab EE Tryz.f24 c_deps_formulas Q π s h d := by
  intro π s h d hx hl
  cases d with
  | cons _ _ => exact hx.elim
  | nil =>
    simp only [X_deps_formulas] at hx
    cases hk : eqB [false, true, false, true, true] π with
    | true => rw [hk, cond_true] at hx; rw [← eqB_eq hk]; exact hx s hl ⟨rfl, rfl, rfl, rfl⟩
    | false =>
    rw [hk, cond_false] at hx
    cases hk : eqB [false, true, true, false, false, true, true, false, false, true, false, true, true] π with
    | true => rw [hk, cond_true] at hx; rw [← eqB_eq hk]; exact hx s hl ⟨rfl, rfl, rfl, rfl, rfl, rfl, rfl, rfl⟩
    | false =>
    rw [hk, cond_false] at hx
    cases hk : eqB [false, true, true, false, false, true, true, false, false, true, true, false, false, true, true, false, false, true, false, true, true] π with
    | true => rw [hk, cond_true] at hx; rw [← eqB_eq hk]; exact hx s hl ⟨rfl, rfl, rfl, rfl, rfl, rfl, rfl, rfl, rfl, rfl, rfl, rfl⟩
    | false =>
    rw [hk, cond_false] at hx
    exact hx.elim
noncomputable def t_deps_formulas_0 (p : Pr) (l1 : V → V → V → V → Hp → Prop) (l2 : V → V → V → V → V → V → V → V → Hp → Prop) (l3 : V → V → V → V → V → V → V → V → V → V → V → V → Hp → Prop) (Q : V → Hp → Prop) (v0 : V) (h : Hp) : Prop :=
  p.box h 24 v0 fun x1 h2 b3 =>
  p.faddr 24 x1 0 fun x4 =>
  p.load h2 22 x4 fun x5 =>
  p.lbui h2 #[22] .len [x5] fun x6 =>
  l1 .nils x5 x6 (.int .i64 0) h2
theorem q_deps_formulas_0 (p : Pr) (l1 : V → V → V → V → Hp → Prop) (l2 : V → V → V → V → V → V → V → V → Hp → Prop) (l3 : V → V → V → V → V → V → V → V → V → V → V → V → Hp → Prop) (Q : V → Hp → Prop) (v0 : V) (h : Hp) : t_deps_formulas_0 p l1 l2 l3 Q v0 h = KAt p EE (cutOf [[false, true, false, true, true], [false, true, true, false, false, true, true, false, false, true, false, true, true], [false, true, true, false, false, true, true, false, false, true, true, false, false, true, true, false, false, true, false, true, true]]) (X_deps_formulas l1 l2 l3) c_deps_formulas [] [] (finK p Tryz.f24 Q) ([v0] ++ List.replicate 50 u0) h [] := by kernel_rfl
theorem a_deps_formulas {Q : V → Hp → Prop} {v0 : V} {h : Hp} (H : t_deps_formulas_0 (Pu EE) (L_deps_formulas_1 Q) (L_deps_formulas_2 Q) (L_deps_formulas_3 Q) Q v0 h) : Ans EE 24 [v0] h Q :=
  ans_of (by kernel_rfl) e_deps_formulas b_deps_formulas (by kernel_rfl) (lab_ofX (o_deps_formulas Q) [] (cast (q_deps_formulas_0 (Pu EE) (L_deps_formulas_1 Q) (L_deps_formulas_2 Q) (L_deps_formulas_3 Q) Q v0 h) H))
noncomputable def t_deps_formulas_1 (p : Pr) (l1 : V → V → V → V → Hp → Prop) (l2 : V → V → V → V → V → V → V → V → Hp → Prop) (l3 : V → V → V → V → V → V → V → V → V → V → V → V → Hp → Prop) (Q : V → Hp → Prop) (v3 v11 v12 v13 : V) (h : Hp) : Prop :=
  p.bin .lss 3 false false v13 v12 fun x1 =>
  p.cond x1
  (fun _ =>
   p.iaddr 22 v11 v13 fun x2 =>
   p.load h 48 x2 fun x3 =>
   p.alloc h 48 fun x4 h5 b6 =>
   p.store h5 48 x4 x3 fun h7 =>
   p.faddr 48 x4 2 fun x8 =>
   p.load h7 46 x8 fun x9 =>
   p.lbui h7 #[46] .len [x9] fun x10 =>
   l2 v3 x4 v11 v12 v13 x9 x10 (.int .i64 0) h7)
  (fun _ =>
   Q v3 h)
theorem q_deps_formulas_1 (p : Pr) (l1 : V → V → V → V → Hp → Prop) (l2 : V → V → V → V → V → V → V → V → Hp → Prop) (l3 : V → V → V → V → V → V → V → V → V → V → V → V → Hp → Prop) (Q : V → Hp → Prop) (s : List V) (h : Hp) : t_deps_formulas_1 p l1 l2 l3 Q (nth s 3) (nth s 11) (nth s 12) (nth s 13) h = KAt p EE (cutOf [[false, true, false, true, true], [false, true, true, false, false, true, true, false, false, true, false, true, true], [false, true, true, false, false, true, true, false, false, true, true, false, false, true, true, false, false, true, false, true, true]]) (X_deps_formulas l1 l2 l3) c_deps_formulas [] [true, true, false, true, false] (finK p Tryz.f24 Q) (nths s 51 0) h [] := by kernel_rfl
theorem r_deps_formulas_1 {Q : V → Hp → Prop} {v3 v11 v12 v13 : V} {h : Hp} (H : t_deps_formulas_1 (Pu EE) (L_deps_formulas_1 Q) (L_deps_formulas_2 Q) (L_deps_formulas_3 Q) Q v3 v11 v12 v13 h) : L_deps_formulas_1 Q v3 v11 v12 v13 h := by
  intro s hl ⟨e3, e11, e12, e13⟩
  subst e3 e11 e12 e13
  have hl : s.length = 51 := hl
  rw [nth_all hl]
  exact lab_ofX (o_deps_formulas Q) [true, true, false, true, false] (cast (q_deps_formulas_1 (Pu EE) (L_deps_formulas_1 Q) (L_deps_formulas_2 Q) (L_deps_formulas_3 Q) Q s h) H)
noncomputable def t_deps_formulas_2 (p : Pr) (l1 : V → V → V → V → Hp → Prop) (l2 : V → V → V → V → V → V → V → V → Hp → Prop) (l3 : V → V → V → V → V → V → V → V → V → V → V → V → Hp → Prop) (Q : V → Hp → Prop) (v3 v5 v11 v12 v13 v18 v19 v20 : V) (h : Hp) : Prop :=
  p.bin .lss 3 false false v20 v19 fun x1 =>
  p.cond x1
  (fun _ =>
   p.iaddr 46 v18 v20 fun x2 =>
   p.load h 49 x2 fun x3 =>
   p.lbui h #[49] .len [x3] fun x4 =>
   l3 v3 v5 v20 v11 v12 v13 v18 v19 v20 x3 x4 (.int .i64 0) h)
  (fun _ =>
   p.bin .add 3 false true v13 (.int .i64 1) fun x5 =>
   l1 v3 v11 v12 x5 h)
theorem q_deps_formulas_2 (p : Pr) (l1 : V → V → V → V → Hp → Prop) (l2 : V → V → V → V → V → V → V → V → Hp → Prop) (l3 : V → V → V → V → V → V → V → V → V → V → V → V → Hp → Prop) (Q : V → Hp → Prop) (s : List V) (h : Hp) : t_deps_formulas_2 p l1 l2 l3 Q (nth s 3) (nth s 5) (nth s 11) (nth s 12) (nth s 13) (nth s 18) (nth s 19) (nth s 20) h = KAt p EE (cutOf [[false, true, false, true, true], [false, true, true, false, false, true, true, false, false, true, false, true, true], [false, true, true, false, false, true, true, false, false, true, true, false, false, true, true, false, false, true, false, true, true]]) (X_deps_formulas l1 l2 l3) c_deps_formulas [] [true, true, false, true, false, false, true, true, false, false, true, true, false] (finK p Tryz.f24 Q) (nths s 51 0) h [] := by kernel_rfl
theorem r_deps_formulas_2 {Q : V → Hp → Prop} {v3 v5 v11 v12 v13 v18 v19 v20 : V} {h : Hp} (H : t_deps_formulas_2 (Pu EE) (L_deps_formulas_1 Q) (L_deps_formulas_2 Q) (L_deps_formulas_3 Q) Q v3 v5 v11 v12 v13 v18 v19 v20 h) : L_deps_formulas_2 Q v3 v5 v11 v12 v13 v18 v19 v20 h := by
  intro s hl ⟨e3, e5, e11, e12, e13, e18, e19, e20⟩
  subst e3 e5 e11 e12 e13 e18 e19 e20
  have hl : s.length = 51 := hl
  rw [nth_all hl]
  exact lab_ofX (o_deps_formulas Q) [true, true, false, true, false, false, true, true, false, false, true, true, false] (cast (q_deps_formulas_2 (Pu EE) (L_deps_formulas_1 Q) (L_deps_formulas_2 Q) (L_deps_formulas_3 Q) Q s h) H)
noncomputable def t_deps_formulas_3 (p : Pr) (l1 : V → V → V → V → Hp → Prop) (l2 : V → V → V → V → V → V → V → V → Hp → Prop) (l3 : V → V → V → V → V → V → V → V → V → V → V → V → Hp → Prop) (Q : V → Hp → Prop) (v3 v5 v6 v11 v12 v13 v18 v19 v20 v25 v26 v27 : V) (h : Hp) : Prop :=
  p.bin .lss 3 false false v27 v26 fun x1 =>
  p.cond x1
  (fun _ =>
   p.iaddr 49 v25 v27 fun x2 =>
   p.load h 9 x2 fun x3 =>
   p.bin .neq 9 false true x3 (.str []) fun x4 =>
   p.gval x4 true (fun k5 =>
    k5 x3) fun x6 =>
   p.gval x4 true (fun k7 =>
    p.index 9 x6 (.int .i64 0) fun x8 =>
    k7 x8) fun x9 =>
   p.gval x4 true (fun k10 =>
    p.bin .eql 5 false true x9 (.int .u8 61) fun x11 =>
    k10 x11) fun x12 =>
   p.pick x4 (some x12) (some (.bool false)) fun x13 =>
   p.cond x13
   (fun _ =>
    p.faddr 48 v5 0 fun x14 =>
    p.load h 9 x14 fun x15 =>
    p.build 26 [(0, x15), (1, v6), (2, v27)] fun x16 =>
    p.bsl h 29 1 [(0, x16)] fun x17 h18 b19 =>
    p.ebui h18 #[29, 29] .append [v3, x17] fun x20 h21 =>
    p.bin .add 3 false true v27 (.int .i64 1) fun x22 =>
    l3 x20 v5 v6 v11 v12 v13 v18 v19 v20 v25 v26 x22 h21)
   (fun _ =>
    p.bin .add 3 false true v27 (.int .i64 1) fun x23 =>
    l3 v3 v5 v6 v11 v12 v13 v18 v19 v20 v25 v26 x23 h))
  (fun _ =>
   p.bin .add 3 false true v20 (.int .i64 1) fun x24 =>
   l2 v3 v5 v11 v12 v13 v18 v19 x24 h)
theorem q_deps_formulas_3 (p : Pr) (l1 : V → V → V → V → Hp → Prop) (l2 : V → V → V → V → V → V → V → V → Hp → Prop) (l3 : V → V → V → V → V → V → V → V → V → V → V → V → Hp → Prop) (Q : V → Hp → Prop) (s : List V) (h : Hp) : t_deps_formulas_3 p l1 l2 l3 Q (nth s 3) (nth s 5) (nth s 6) (nth s 11) (nth s 12) (nth s 13) (nth s 18) (nth s 19) (nth s 20) (nth s 25) (nth s 26) (nth s 27) h = KAt p EE (cutOf [[false, true, false, true, true], [false, true, true, false, false, true, true, false, false, true, false, true, true], [false, true, true, false, false, true, true, false, false, true, true, false, false, true, true, false, false, true, false, true, true]]) (X_deps_formulas l1 l2 l3) c_deps_formulas [] [true, true, false, true, false, false, true, true, false, false, true, true, false, false, true, true, false, false, true, true, false] (finK p Tryz.f24 Q) (nths s 51 0) h [] := by kernel_rfl
theorem r_deps_formulas_3 {Q : V → Hp → Prop} {v3 v5 v6 v11 v12 v13 v18 v19 v20 v25 v26 v27 : V} {h : Hp} (H : t_deps_formulas_3 (Pu EE) (L_deps_formulas_1 Q) (L_deps_formulas_2 Q) (L_deps_formulas_3 Q) Q v3 v5 v6 v11 v12 v13 v18 v19 v20 v25 v26 v27 h) : L_deps_formulas_3 Q v3 v5 v6 v11 v12 v13 v18 v19 v20 v25 v26 v27 h := by
  intro s hl ⟨e3, e5, e6, e11, e12, e13, e18, e19, e20, e25, e26, e27⟩
  subst e3 e5 e6 e11 e12 e13 e18 e19 e20 e25 e26 e27
  have hl : s.length = 51 := hl
  rw [nth_all hl]
  exact lab_ofX (o_deps_formulas Q) [true, true, false, true, false, false, true, true, false, false, true, true, false, false, true, true, false, false, true, true, false] (cast (q_deps_formulas_3 (Pu EE) (L_deps_formulas_1 Q) (L_deps_formulas_2 Q) (L_deps_formulas_3 Q) Q s h) H)
noncomputable def c_deps_Needs : Code := match Tryz.f12.body with | some c => c | none => .skip
theorem b_deps_Needs : Tryz.f12.body = some c_deps_Needs := by kernel_rfl
theorem e_deps_Needs : EE.fn.get 12 = some Tryz.f12 := by kernel_rfl
noncomputable def L_deps_Needs_1 (Q : V → Hp → Prop) (v2 v3 v7 v24 v25 v26 : V) (h : Hp) : Prop := ∀ s : List V, s.length = (Tryz.f12).ntmps → nth s 2 = v2 ∧ nth s 3 = v3 ∧ nth s 7 = v7 ∧ nth s 24 = v24 ∧ nth s 25 = v25 ∧ nth s 26 = v26 → Lab EE Tryz.f12 c_deps_Needs Q [false, true, false, true, true, true, true] s h []
noncomputable def L_deps_Needs_2 (Q : V → Hp → Prop) (v2 v3 v7 v9 v10 v12 v13 v24 v25 v26 : V) (h : Hp) : Prop := ∀ s : List V, s.length = (Tryz.f12).ntmps → nth s 2 = v2 ∧ nth s 3 = v3 ∧ nth s 7 = v7 ∧ nth s 9 = v9 ∧ nth s 10 = v10 ∧ nth s 12 = v12 ∧ nth s 13 = v13 ∧ nth s 24 = v24 ∧ nth s 25 = v25 ∧ nth s 26 = v26 → Lab EE Tryz.f12 c_deps_Needs Q [false, true, true, true, true, true, true, true, true, false, false, true, true, false, false, true, false, true, true, true, true] s h []
noncomputable def L_deps_Needs_3 (Q : V → Hp → Prop) (v2 v3 v7 v9 v10 v12 v13 v14 v24 v25 v26 : V) (h : Hp) : Prop := ∀ s : List V, s.length = (Tryz.f12).ntmps → nth s 2 = v2 ∧ nth s 3 = v3 ∧ nth s 7 = v7 ∧ nth s 9 = v9 ∧ nth s 10 = v10 ∧ nth s 12 = v12 ∧ nth s 13 = v13 ∧ nth s 14 = v14 ∧ nth s 24 = v24 ∧ nth s 25 = v25 ∧ nth s 26 = v26 → Lab EE Tryz.f12 c_deps_Needs Q [false, true, false, false, true, false, false, true, true, true, true, true, true, true, true, false, false, true, true, false, false, true, false, true, true, true, true] s h []
noncomputable def L_deps_Needs_4 (Q : V → Hp → Prop) (v2 v3 v7 v9 v24 v25 v26 : V) (h : Hp) : Prop := ∀ s : List V, s.length = (Tryz.f12).ntmps → nth s 2 = v2 ∧ nth s 3 = v3 ∧ nth s 7 = v7 ∧ nth s 9 = v9 ∧ nth s 24 = v24 ∧ nth s 25 = v25 ∧ nth s 26 = v26 → Lab EE Tryz.f12 c_deps_Needs Q [true, true, false, false, true, true, false, false, true, false, true, true, true, true] s h []
noncomputable def L_deps_Needs_5 (Q : V → Hp → Prop) (v2 v3 v7 v9 v10 v24 v25 v26 : V) (h : Hp) : Prop := ∀ s : List V, s.length = (Tryz.f12).ntmps → nth s 2 = v2 ∧ nth s 3 = v3 ∧ nth s 7 = v7 ∧ nth s 9 = v9 ∧ nth s 10 = v10 ∧ nth s 24 = v24 ∧ nth s 25 = v25 ∧ nth s 26 = v26 → Lab EE Tryz.f12 c_deps_Needs Q [true, true, true, true, false, false, true, true, false, false, true, false, true, true, true, true] s h []
noncomputable def X_deps_Needs (l1 : V → V → V → V → V → V → Hp → Prop) (l2 : V → V → V → V → V → V → V → V → V → V → Hp → Prop) (l3 : V → V → V → V → V → V → V → V → V → V → V → Hp → Prop) (l4 : V → V → V → V → V → V → V → Hp → Prop) (l5 : V → V → V → V → V → V → V → V → Hp → Prop) : Lb := fun π s h d => match d with
  | [] => bif eqB [false, true, false, true, true, true, true] π then l1 (nth s 2) (nth s 3) (nth s 7) (nth s 24) (nth s 25) (nth s 26) h else bif eqB [false, true, true, true, true, true, true, true, true, false, false, true, true, false, false, true, false, true, true, true, true] π then l2 (nth s 2) (nth s 3) (nth s 7) (nth s 9) (nth s 10) (nth s 12) (nth s 13) (nth s 24) (nth s 25) (nth s 26) h else bif eqB [false, true, false, false, true, false, false, true, true, true, true, true, true, true, true, false, false, true, true, false, false, true, false, true, true, true, true] π then l3 (nth s 2) (nth s 3) (nth s 7) (nth s 9) (nth s 10) (nth s 12) (nth s 13) (nth s 14) (nth s 24) (nth s 25) (nth s 26) h else bif eqB [true, true, false, false, true, true, false, false, true, false, true, true, true, true] π then l4 (nth s 2) (nth s 3) (nth s 7) (nth s 9) (nth s 24) (nth s 25) (nth s 26) h else bif eqB [true, true, true, true, false, false, true, true, false, false, true, false, true, true, true, true] π then l5 (nth s 2) (nth s 3) (nth s 7) (nth s 9) (nth s 10) (nth s 24) (nth s 25) (nth s 26) h else False
  | _ => False
theorem o_deps_Needs (Q : V → Hp → Prop) : ∀ π s h d, X_deps_Needs (L_deps_Needs_1 Q) (L_deps_Needs_2 Q) (L_deps_Needs_3 Q) (L_deps_Needs_4 Q) (L_deps_Needs_5 Q) π s h d → s.length = (Tryz.f12).ntmps → Lab EE Tryz.f12 c_deps_Needs Q π s h d := by
  intro π s h d hx hl
  cases d with
  | cons _ _ => exact hx.elim
  | nil =>
    simp only [X_deps_Needs] at hx
    cases hk : eqB [false, true, false, true, true, true, true] π with
    | true => rw [hk, cond_true] at hx; rw [← eqB_eq hk]; exact hx s hl ⟨rfl, rfl, rfl, rfl, rfl, rfl⟩
    | false =>
    rw [hk, cond_false] at hx
    cases hk : eqB [false, true, true, true, true, true, true, true, true, false, false, true, true, false, false, true, false, true, true, true, true] π with
    | true => rw [hk, cond_true] at hx; rw [← eqB_eq hk]; exact hx s hl ⟨rfl, rfl, rfl, rfl, rfl, rfl, rfl, rfl, rfl, rfl⟩
    | false =>
    rw [hk, cond_false] at hx
    cases hk : eqB [false, true, false, false, true, false, false, true, true, true, true, true, true, true, true, false, false, true, true, false, false, true, false, true, true, true, true] π with
    | true => rw [hk, cond_true] at hx; rw [← eqB_eq hk]; exact hx s hl ⟨rfl, rfl, rfl, rfl, rfl, rfl, rfl, rfl, rfl, rfl, rfl⟩
    | false =>
    rw [hk, cond_false] at hx
    cases hk : eqB [true, true, false, false, true, true, false, false, true, false, true, true, true, true] π with
    | true => rw [hk, cond_true] at hx; rw [← eqB_eq hk]; exact hx s hl ⟨rfl, rfl, rfl, rfl, rfl, rfl, rfl⟩
    | false =>
    rw [hk, cond_false] at hx
    cases hk : eqB [true, true, true, true, false, false, true, true, false, false, true, false, true, true, true, true] π with
    | true => rw [hk, cond_true] at hx; rw [← eqB_eq hk]; exact hx s hl ⟨rfl, rfl, rfl, rfl, rfl, rfl, rfl, rfl⟩
    | false =>
    rw [hk, cond_false] at hx
    exact hx.elim
noncomputable def t_deps_Needs_0 (p : Pr) (l1 : V → V → V → V → V → V → Hp → Prop) (l2 : V → V → V → V → V → V → V → V → V → V → Hp → Prop) (l3 : V → V → V → V → V → V → V → V → V → V → V → Hp → Prop) (l4 : V → V → V → V → V → V → V → Hp → Prop) (l5 : V → V → V → V → V → V → V → V → Hp → Prop) (Q : V → Hp → Prop) (v0 v1 : V) (h : Hp) : Prop :=
  p.box h 24 v0 fun x1 h2 b3 =>
  p.box h2 26 v1 fun x4 h5 b6 =>
  p.load h5 24 x1 fun x7 =>
  p.load h5 26 x4 fun x8 =>
  p.call 30 [x7, x8] h5 fun x9 h10 =>
  p.call 29 [x9] h10 fun x11 h12 =>
  p.extr x11 0 fun x13 =>
  p.extr x11 1 fun x14 =>
  p.un .not x14 fun x15 =>
  p.cond x15
  (fun _ =>
   Q .nils h12)
  (fun _ =>
   p.lbui h12 #[39] .len [x13] fun x16 =>
   l1 x1 x4 .nils x13 x16 (.int .i64 0) h12)
theorem q_deps_Needs_0 (p : Pr) (l1 : V → V → V → V → V → V → Hp → Prop) (l2 : V → V → V → V → V → V → V → V → V → V → Hp → Prop) (l3 : V → V → V → V → V → V → V → V → V → V → V → Hp → Prop) (l4 : V → V → V → V → V → V → V → Hp → Prop) (l5 : V → V → V → V → V → V → V → V → Hp → Prop) (Q : V → Hp → Prop) (v0 v1 : V) (h : Hp) : t_deps_Needs_0 p l1 l2 l3 l4 l5 Q v0 v1 h = KAt p EE (cutOf [[false, true, false, true, true, true, true], [false, true, true, true, true, true, true, true, true, false, false, true, true, false, false, true, false, true, true, true, true], [false, true, false, false, true, false, false, true, true, true, true, true, true, true, true, false, false, true, true, false, false, true, false, true, true, true, true], [true, true, false, false, true, true, false, false, true, false, true, true, true, true], [true, true, true, true, false, false, true, true, false, false, true, false, true, true, true, true]]) (X_deps_Needs l1 l2 l3 l4 l5) c_deps_Needs [] [] (finK p Tryz.f12 Q) ([v0, v1] ++ List.replicate 96 u0) h [] := by kernel_rfl
theorem a_deps_Needs {Q : V → Hp → Prop} {v0 v1 : V} {h : Hp} (H : t_deps_Needs_0 (Pu EE) (L_deps_Needs_1 Q) (L_deps_Needs_2 Q) (L_deps_Needs_3 Q) (L_deps_Needs_4 Q) (L_deps_Needs_5 Q) Q v0 v1 h) : Ans EE 12 [v0, v1] h Q :=
  ans_of (by kernel_rfl) e_deps_Needs b_deps_Needs (by kernel_rfl) (lab_ofX (o_deps_Needs Q) [] (cast (q_deps_Needs_0 (Pu EE) (L_deps_Needs_1 Q) (L_deps_Needs_2 Q) (L_deps_Needs_3 Q) (L_deps_Needs_4 Q) (L_deps_Needs_5 Q) Q v0 v1 h) H))
noncomputable def t_deps_Needs_1 (p : Pr) (l1 : V → V → V → V → V → V → Hp → Prop) (l2 : V → V → V → V → V → V → V → V → V → V → Hp → Prop) (l3 : V → V → V → V → V → V → V → V → V → V → V → Hp → Prop) (l4 : V → V → V → V → V → V → V → Hp → Prop) (l5 : V → V → V → V → V → V → V → V → Hp → Prop) (Q : V → Hp → Prop) (v2 v3 v7 v24 v25 v26 : V) (h : Hp) : Prop :=
  p.bin .lss 3 false false v26 v25 fun x1 =>
  p.cond x1
  (fun _ =>
   p.iaddr 39 v24 v26 fun x2 =>
   p.load h 66 x2 fun x3 =>
   p.alloc h 66 fun x4 h5 b6 =>
   p.store h5 66 x4 x3 fun h7 =>
   p.faddr 66 x4 0 fun x8 =>
   p.load h7 3 x8 fun x9 =>
   p.bin .eql 3 false true x9 (.int .i64 5) fun x10 =>
   p.cond x10
   (fun _ =>
    p.faddr 66 x4 3 fun x11 =>
    p.load h7 63 x11 fun x12 =>
    p.faddr 66 x4 4 fun x13 =>
    p.store h7 63 x13 x12 fun h14 =>
    l4 v2 v3 v7 x4 v24 v25 v26 h14)
   (fun _ =>
    p.faddr 66 x4 0 fun x15 =>
    p.load h7 3 x15 fun x16 =>
    p.bin .neq 3 false true x16 (.int .i64 6) fun x17 =>
    p.cond x17
    (fun _ =>
     p.bin .add 3 false true v26 (.int .i64 1) fun x18 =>
     l1 v2 v3 v7 v24 v25 x18 h7)
    (fun _ =>
     l4 v2 v3 v7 x4 v24 v25 v26 h7)))
  (fun _ =>
   p.call 32 [v7] h fun x19 h20 =>
   Q x19 h20)
theorem q_deps_Needs_1 (p : Pr) (l1 : V → V → V → V → V → V → Hp → Prop) (l2 : V → V → V → V → V → V → V → V → V → V → Hp → Prop) (l3 : V → V → V → V → V → V → V → V → V → V → V → Hp → Prop) (l4 : V → V → V → V → V → V → V → Hp → Prop) (l5 : V → V → V → V → V → V → V → V → Hp → Prop) (Q : V → Hp → Prop) (s : List V) (h : Hp) : t_deps_Needs_1 p l1 l2 l3 l4 l5 Q (nth s 2) (nth s 3) (nth s 7) (nth s 24) (nth s 25) (nth s 26) h = KAt p EE (cutOf [[false, true, false, true, true, true, true], [false, true, true, true, true, true, true, true, true, false, false, true, true, false, false, true, false, true, true, true, true], [false, true, false, false, true, false, false, true, true, true, true, true, true, true, true, false, false, true, true, false, false, true, false, true, true, true, true], [true, true, false, false, true, true, false, false, true, false, true, true, true, true], [true, true, true, true, false, false, true, true, false, false, true, false, true, true, true, true]]) (X_deps_Needs l1 l2 l3 l4 l5) c_deps_Needs [] [true, true, true, true, false, true, false] (finK p Tryz.f12 Q) (nths s 98 0) h [] := by kernel_rfl
theorem r_deps_Needs_1 {Q : V → Hp → Prop} {v2 v3 v7 v24 v25 v26 : V} {h : Hp} (H : t_deps_Needs_1 (Pu EE) (L_deps_Needs_1 Q) (L_deps_Needs_2 Q) (L_deps_Needs_3 Q) (L_deps_Needs_4 Q) (L_deps_Needs_5 Q) Q v2 v3 v7 v24 v25 v26 h) : L_deps_Needs_1 Q v2 v3 v7 v24 v25 v26 h := by
  intro s hl ⟨e2, e3, e7, e24, e25, e26⟩
  subst e2 e3 e7 e24 e25 e26
  have hl : s.length = 98 := hl
  rw [nth_all hl]
  exact lab_ofX (o_deps_Needs Q) [true, true, true, true, false, true, false] (cast (q_deps_Needs_1 (Pu EE) (L_deps_Needs_1 Q) (L_deps_Needs_2 Q) (L_deps_Needs_3 Q) (L_deps_Needs_4 Q) (L_deps_Needs_5 Q) Q s h) H)
noncomputable def t_deps_Needs_2 (p : Pr) (l1 : V → V → V → V → V → V → Hp → Prop) (l2 : V → V → V → V → V → V → V → V → V → V → Hp → Prop) (l3 : V → V → V → V → V → V → V → V → V → V → V → Hp → Prop) (l4 : V → V → V → V → V → V → V → Hp → Prop) (l5 : V → V → V → V → V → V → V → V → Hp → Prop) (Q : V → Hp → Prop) (v2 v3 v7 v9 v10 v12 v13 v24 v25 v26 : V) (h : Hp) : Prop :=
  p.faddr 66 v9 4 fun x1 =>
  p.faddr 63 x1 2 fun x2 =>
  p.load h 3 x2 fun x3 =>
  p.lbui h #[46] .len [v12] fun x4 =>
  p.bin .sub 3 false true x4 (.int .i64 1) fun x5 =>
  p.lbui h #[3, 3] .min [x3, x5] fun x6 =>
  p.bin .leq 3 false false v13 x6 fun x7 =>
  p.cond x7
  (fun _ =>
   p.faddr 66 v9 3 fun x8 =>
   p.faddr 63 x8 1 fun x9 =>
   p.load h 3 x9 fun x10 =>
   l3 v2 v3 v7 v9 v10 v12 v13 x10 v24 v25 v26 h)
  (fun _ =>
   p.bin .add 3 false true v26 (.int .i64 1) fun x11 =>
   l1 v2 v3 v7 v24 v25 x11 h)
theorem q_deps_Needs_2 (p : Pr) (l1 : V → V → V → V → V → V → Hp → Prop) (l2 : V → V → V → V → V → V → V → V → V → V → Hp → Prop) (l3 : V → V → V → V → V → V → V → V → V → V → V → Hp → Prop) (l4 : V → V → V → V → V → V → V → Hp → Prop) (l5 : V → V → V → V → V → V → V → V → Hp → Prop) (Q : V → Hp → Prop) (s : List V) (h : Hp) : t_deps_Needs_2 p l1 l2 l3 l4 l5 Q (nth s 2) (nth s 3) (nth s 7) (nth s 9) (nth s 10) (nth s 12) (nth s 13) (nth s 24) (nth s 25) (nth s 26) h = KAt p EE (cutOf [[false, true, false, true, true, true, true], [false, true, true, true, true, true, true, true, true, false, false, true, true, false, false, true, false, true, true, true, true], [false, true, false, false, true, false, false, true, true, true, true, true, true, true, true, false, false, true, true, false, false, true, false, true, true, true, true], [true, true, false, false, true, true, false, false, true, false, true, true, true, true], [true, true, true, true, false, false, true, true, false, false, true, false, true, true, true, true]]) (X_deps_Needs l1 l2 l3 l4 l5) c_deps_Needs [] [true, true, true, true, false, true, false, false, true, true, false, false, true, true, true, true, true, true, true, true, false] (finK p Tryz.f12 Q) (nths s 98 0) h [] := by kernel_rfl
theorem r_deps_Needs_2 {Q : V → Hp → Prop} {v2 v3 v7 v9 v10 v12 v13 v24 v25 v26 : V} {h : Hp} (H : t_deps_Needs_2 (Pu EE) (L_deps_Needs_1 Q) (L_deps_Needs_2 Q) (L_deps_Needs_3 Q) (L_deps_Needs_4 Q) (L_deps_Needs_5 Q) Q v2 v3 v7 v9 v10 v12 v13 v24 v25 v26 h) : L_deps_Needs_2 Q v2 v3 v7 v9 v10 v12 v13 v24 v25 v26 h := by
  intro s hl ⟨e2, e3, e7, e9, e10, e12, e13, e24, e25, e26⟩
  subst e2 e3 e7 e9 e10 e12 e13 e24 e25 e26
  have hl : s.length = 98 := hl
  rw [nth_all hl]
  exact lab_ofX (o_deps_Needs Q) [true, true, true, true, false, true, false, false, true, true, false, false, true, true, true, true, true, true, true, true, false] (cast (q_deps_Needs_2 (Pu EE) (L_deps_Needs_1 Q) (L_deps_Needs_2 Q) (L_deps_Needs_3 Q) (L_deps_Needs_4 Q) (L_deps_Needs_5 Q) Q s h) H)
noncomputable def t_deps_Needs_3 (p : Pr) (l1 : V → V → V → V → V → V → Hp → Prop) (l2 : V → V → V → V → V → V → V → V → V → V → Hp → Prop) (l3 : V → V → V → V → V → V → V → V → V → V → V → Hp → Prop) (l4 : V → V → V → V → V → V → V → Hp → Prop) (l5 : V → V → V → V → V → V → V → V → Hp → Prop) (Q : V → Hp → Prop) (v2 v3 v7 v9 v10 v12 v13 v14 v24 v25 v26 : V) (h : Hp) : Prop :=
  p.faddr 66 v9 4 fun x1 =>
  p.faddr 63 x1 1 fun x2 =>
  p.load h 3 x2 fun x3 =>
  p.iaddr 46 v12 v13 fun x4 =>
  p.load h 49 x4 fun x5 =>
  p.lbui h #[49] .len [x5] fun x6 =>
  p.bin .sub 3 false true x6 (.int .i64 1) fun x7 =>
  p.lbui h #[3, 3] .min [x3, x7] fun x8 =>
  p.bin .leq 3 false false v14 x8 fun x9 =>
  p.cond x9
  (fun _ =>
   p.build 26 [(0, v10), (1, v13), (2, v14)] fun x10 =>
   p.bsl h 29 1 [(0, x10)] fun x11 h12 b13 =>
   p.ebui h12 #[29, 29] .append [v7, x11] fun x14 h15 =>
   p.bin .add 3 false true v14 (.int .i64 1) fun x16 =>
   l3 v2 v3 x14 v9 v10 v12 v13 x16 v24 v25 v26 h15)
  (fun _ =>
   p.bin .add 3 false true v13 (.int .i64 1) fun x17 =>
   l2 v2 v3 v7 v9 v10 v12 x17 v24 v25 v26 h)
theorem q_deps_Needs_3 (p : Pr) (l1 : V → V → V → V → V → V → Hp → Prop) (l2 : V → V → V → V → V → V → V → V → V → V → Hp → Prop) (l3 : V → V → V → V → V → V → V → V → V → V → V → Hp → Prop) (l4 : V → V → V → V → V → V → V → Hp → Prop) (l5 : V → V → V → V → V → V → V → V → Hp → Prop) (Q : V → Hp → Prop) (s : List V) (h : Hp) : t_deps_Needs_3 p l1 l2 l3 l4 l5 Q (nth s 2) (nth s 3) (nth s 7) (nth s 9) (nth s 10) (nth s 12) (nth s 13) (nth s 14) (nth s 24) (nth s 25) (nth s 26) h = KAt p EE (cutOf [[false, true, false, true, true, true, true], [false, true, true, true, true, true, true, true, true, false, false, true, true, false, false, true, false, true, true, true, true], [false, true, false, false, true, false, false, true, true, true, true, true, true, true, true, false, false, true, true, false, false, true, false, true, true, true, true], [true, true, false, false, true, true, false, false, true, false, true, true, true, true], [true, true, true, true, false, false, true, true, false, false, true, false, true, true, true, true]]) (X_deps_Needs l1 l2 l3 l4 l5) c_deps_Needs [] [true, true, true, true, false, true, false, false, true, true, false, false, true, true, true, true, true, true, true, true, false, false, true, false, false, true, false] (finK p Tryz.f12 Q) (nths s 98 0) h [] := by kernel_rfl
theorem r_deps_Needs_3 {Q : V → Hp → Prop} {v2 v3 v7 v9 v10 v12 v13 v14 v24 v25 v26 : V} {h : Hp} (H : t_deps_Needs_3 (Pu EE) (L_deps_Needs_1 Q) (L_deps_Needs_2 Q) (L_deps_Needs_3 Q) (L_deps_Needs_4 Q) (L_deps_Needs_5 Q) Q v2 v3 v7 v9 v10 v12 v13 v14 v24 v25 v26 h) : L_deps_Needs_3 Q v2 v3 v7 v9 v10 v12 v13 v14 v24 v25 v26 h := by
  intro s hl ⟨e2, e3, e7, e9, e10, e12, e13, e14, e24, e25, e26⟩
  subst e2 e3 e7 e9 e10 e12 e13 e14 e24 e25 e26
  have hl : s.length = 98 := hl
  rw [nth_all hl]
  exact lab_ofX (o_deps_Needs Q) [true, true, true, true, false, true, false, false, true, true, false, false, true, true, true, true, true, true, true, true, false, false, true, false, false, true, false] (cast (q_deps_Needs_3 (Pu EE) (L_deps_Needs_1 Q) (L_deps_Needs_2 Q) (L_deps_Needs_3 Q) (L_deps_Needs_4 Q) (L_deps_Needs_5 Q) Q s h) H)
noncomputable def t_deps_Needs_4 (p : Pr) (l1 : V → V → V → V → V → V → Hp → Prop) (l2 : V → V → V → V → V → V → V → V → V → V → Hp → Prop) (l3 : V → V → V → V → V → V → V → V → V → V → V → Hp → Prop) (l4 : V → V → V → V → V → V → V → Hp → Prop) (l5 : V → V → V → V → V → V → V → V → Hp → Prop) (Q : V → Hp → Prop) (v2 v3 v7 v9 v24 v25 v26 : V) (h : Hp) : Prop :=
  p.faddr 66 v9 3 fun x1 =>
  p.faddr 63 x1 0 fun x2 =>
  p.load h 9 x2 fun x3 =>
  p.bin .eql 9 false true x3 (.str []) fun x4 =>
  p.cond x4
  (fun _ =>
   p.faddr 26 v3 0 fun x5 =>
   p.load h 9 x5 fun x6 =>
   l5 v2 v3 v7 v9 x6 v24 v25 v26 h)
  (fun _ =>
   l5 v2 v3 v7 v9 x3 v24 v25 v26 h)
theorem q_deps_Needs_4 (p : Pr) (l1 : V → V → V → V → V → V → Hp → Prop) (l2 : V → V → V → V → V → V → V → V → V → V → Hp → Prop) (l3 : V → V → V → V → V → V → V → V → V → V → V → Hp → Prop) (l4 : V → V → V → V → V → V → V → Hp → Prop) (l5 : V → V → V → V → V → V → V → V → Hp → Prop) (Q : V → Hp → Prop) (s : List V) (h : Hp) : t_deps_Needs_4 p l1 l2 l3 l4 l5 Q (nth s 2) (nth s 3) (nth s 7) (nth s 9) (nth s 24) (nth s 25) (nth s 26) h = KAt p EE (cutOf [[false, true, false, true, true, true, true], [false, true, true, true, true, true, true, true, true, false, false, true, true, false, false, true, false, true, true, true, true], [false, true, false, false, true, false, false, true, true, true, true, true, true, true, true, false, false, true, true, false, false, true, false, true, true, true, true], [true, true, false, false, true, true, false, false, true, false, true, true, true, true], [true, true, true, true, false, false, true, true, false, false, true, false, true, true, true, true]]) (X_deps_Needs l1 l2 l3 l4 l5) c_deps_Needs [] [true, true, true, true, false, true, false, false, true, true, false, false, true, true] (finK p Tryz.f12 Q) (nths s 98 0) h [] := by kernel_rfl
theorem r_deps_Needs_4 {Q : V → Hp → Prop} {v2 v3 v7 v9 v24 v25 v26 : V} {h : Hp} (H : t_deps_Needs_4 (Pu EE) (L_deps_Needs_1 Q) (L_deps_Needs_2 Q) (L_deps_Needs_3 Q) (L_deps_Needs_4 Q) (L_deps_Needs_5 Q) Q v2 v3 v7 v9 v24 v25 v26 h) : L_deps_Needs_4 Q v2 v3 v7 v9 v24 v25 v26 h := by
  intro s hl ⟨e2, e3, e7, e9, e24, e25, e26⟩
  subst e2 e3 e7 e9 e24 e25 e26
  have hl : s.length = 98 := hl
  rw [nth_all hl]
  exact lab_ofX (o_deps_Needs Q) [true, true, true, true, false, true, false, false, true, true, false, false, true, true] (cast (q_deps_Needs_4 (Pu EE) (L_deps_Needs_1 Q) (L_deps_Needs_2 Q) (L_deps_Needs_3 Q) (L_deps_Needs_4 Q) (L_deps_Needs_5 Q) Q s h) H)
noncomputable def t_deps_Needs_5 (p : Pr) (l1 : V → V → V → V → V → V → Hp → Prop) (l2 : V → V → V → V → V → V → V → V → V → V → Hp → Prop) (l3 : V → V → V → V → V → V → V → V → V → V → V → Hp → Prop) (l4 : V → V → V → V → V → V → V → Hp → Prop) (l5 : V → V → V → V → V → V → V → V → Hp → Prop) (Q : V → Hp → Prop) (v2 v3 v7 v9 v10 v24 v25 v26 : V) (h : Hp) : Prop :=
  p.load h 24 v2 fun x1 =>
  p.call 31 [x1, v10] h fun x2 h3 =>
  p.bin .lss 3 false true x2 (.int .i64 0) fun x4 =>
  p.cond x4
  (fun _ =>
   p.bin .add 3 false true v26 (.int .i64 1) fun x5 =>
   l1 v2 v3 v7 v24 v25 x5 h3)
  (fun _ =>
   p.faddr 24 v2 0 fun x6 =>
   p.load h3 22 x6 fun x7 =>
   p.iaddr 22 x7 x2 fun x8 =>
   p.faddr 48 x8 2 fun x9 =>
   p.load h3 46 x9 fun x10 =>
   p.faddr 66 v9 3 fun x11 =>
   p.faddr 63 x11 2 fun x12 =>
   p.load h3 3 x12 fun x13 =>
   l2 v2 v3 v7 v9 v10 x10 x13 v24 v25 v26 h3)
theorem q_deps_Needs_5 (p : Pr) (l1 : V → V → V → V → V → V → Hp → Prop) (l2 : V → V → V → V → V → V → V → V → V → V → Hp → Prop) (l3 : V → V → V → V → V → V → V → V → V → V → V → Hp → Prop) (l4 : V → V → V → V → V → V → V → Hp → Prop) (l5 : V → V → V → V → V → V → V → V → Hp → Prop) (Q : V → Hp → Prop) (s : List V) (h : Hp) : t_deps_Needs_5 p l1 l2 l3 l4 l5 Q (nth s 2) (nth s 3) (nth s 7) (nth s 9) (nth s 10) (nth s 24) (nth s 25) (nth s 26) h = KAt p EE (cutOf [[false, true, false, true, true, true, true], [false, true, true, true, true, true, true, true, true, false, false, true, true, false, false, true, false, true, true, true, true], [false, true, false, false, true, false, false, true, true, true, true, true, true, true, true, false, false, true, true, false, false, true, false, true, true, true, true], [true, true, false, false, true, true, false, false, true, false, true, true, true, true], [true, true, true, true, false, false, true, true, false, false, true, false, true, true, true, true]]) (X_deps_Needs l1 l2 l3 l4 l5) c_deps_Needs [] [true, true, true, true, false, true, false, false, true, true, false, false, true, true, true, true] (finK p Tryz.f12 Q) (nths s 98 0) h [] := by kernel_rfl
theorem r_deps_Needs_5 {Q : V → Hp → Prop} {v2 v3 v7 v9 v10 v24 v25 v26 : V} {h : Hp} (H : t_deps_Needs_5 (Pu EE) (L_deps_Needs_1 Q) (L_deps_Needs_2 Q) (L_deps_Needs_3 Q) (L_deps_Needs_4 Q) (L_deps_Needs_5 Q) Q v2 v3 v7 v9 v10 v24 v25 v26 h) : L_deps_Needs_5 Q v2 v3 v7 v9 v10 v24 v25 v26 h := by
  intro s hl ⟨e2, e3, e7, e9, e10, e24, e25, e26⟩
  subst e2 e3 e7 e9 e10 e24 e25 e26
  have hl : s.length = 98 := hl
  rw [nth_all hl]
  exact lab_ofX (o_deps_Needs Q) [true, true, true, true, false, true, false, false, true, true, false, false, true, true, true, true] (cast (q_deps_Needs_5 (Pu EE) (L_deps_Needs_1 Q) (L_deps_Needs_2 Q) (L_deps_Needs_3 Q) (L_deps_Needs_4 Q) (L_deps_Needs_5 Q) Q s h) H)
noncomputable def c_deps_rising : Code := match Tryz.f32.body with | some c => c | none => .skip
theorem b_deps_rising : Tryz.f32.body = some c_deps_rising := by kernel_rfl
theorem e_deps_rising : EE.fn.get 32 = some Tryz.f32 := by kernel_rfl
noncomputable def t_deps_rising_0 (p : Pr) (Q : V → Hp → Prop) (v0 : V) (h : Hp) : Prop :=
  p.call 51 [v0, (.fn (.func 19) [] [])] h fun x1 h2 =>
  p.call 53 [v0] h2 fun x3 h4 =>
  p.call 52 [x3] h4 fun x5 h6 =>
  Q x5 h6
theorem q_deps_rising_0 (p : Pr) (Q : V → Hp → Prop) (v0 : V) (h : Hp) : t_deps_rising_0 p Q v0 h = KAt p EE (cutOf []) (fun _ _ _ _ => False) c_deps_rising [] [] (finK p Tryz.f32 Q) ([v0] ++ List.replicate 7 u0) h [] := by kernel_rfl
theorem a_deps_rising {Q : V → Hp → Prop} {v0 : V} {h : Hp} (H : t_deps_rising_0 (Pu EE) Q v0 h) : Ans EE 32 [v0] h Q :=
  ans_of (by kernel_rfl) e_deps_rising b_deps_rising (by kernel_rfl) (lab_ofX (fun _ _ _ _ h => h.elim) [] (cast (q_deps_rising_0 (Pu EE) Q v0 h) H))
noncomputable def c_deps_Cmp : Code := match Tryz.f19.body with | some c => c | none => .skip
theorem b_deps_Cmp : Tryz.f19.body = some c_deps_Cmp := by kernel_rfl
theorem e_deps_Cmp : EE.fn.get 19 = some Tryz.f19 := by kernel_rfl
noncomputable def t_deps_Cmp_0 (p : Pr) (Q : V → Hp → Prop) (v0 v1 : V) (h : Hp) : Prop :=
  p.box h 26 v0 fun x1 h2 b3 =>
  p.box h2 26 v1 fun x4 h5 b6 =>
  p.faddr 26 x1 0 fun x7 =>
  p.load h5 9 x7 fun x8 =>
  p.faddr 26 x4 0 fun x9 =>
  p.load h5 9 x9 fun x10 =>
  p.faddr 26 x1 1 fun x11 =>
  p.load h5 3 x11 fun x12 =>
  p.faddr 26 x4 1 fun x13 =>
  p.load h5 3 x13 fun x14 =>
  p.faddr 26 x1 2 fun x15 =>
  p.load h5 3 x15 fun x16 =>
  p.faddr 26 x4 2 fun x17 =>
  p.load h5 3 x17 fun x18 =>
  p.call 40 [x8, x10] h5 fun x19 h20 =>
  p.load h20 3 x17 fun x21 =>
  p.same x21 x18 (
  p.load h20 3 x15 fun x22 =>
  p.same x22 x16 (
  p.load h20 3 x13 fun x23 =>
  p.same x23 x14 (
  p.load h20 3 x11 fun x24 =>
  p.same x24 x12 (
  p.call 41 [x12, x14] h20 fun x25 h26 =>
  p.load h26 3 x17 fun x27 =>
  p.same x27 x18 (
  p.load h26 3 x15 fun x28 =>
  p.same x28 x16 (
  p.call 41 [x16, x18] h26 fun x29 h30 =>
  p.bsl h30 64 3 [(0, x19), (1, x25), (2, x29)] fun x31 h32 b33 =>
  p.call 39 [x31] h32 fun x34 h35 =>
  Q x34 h35))))))
theorem q_deps_Cmp_0 (p : Pr) (Q : V → Hp → Prop) (v0 v1 : V) (h : Hp) : t_deps_Cmp_0 p Q v0 v1 h = KAt p EE (cutOf []) (fun _ _ _ _ => False) c_deps_Cmp [] [] (finK p Tryz.f19 Q) ([v0, v1] ++ List.replicate 20 u0) h [] := by kernel_rfl
theorem a_deps_Cmp {Q : V → Hp → Prop} {v0 v1 : V} {h : Hp} (H : t_deps_Cmp_0 (Pu EE) Q v0 v1 h) : Ans EE 19 [v0, v1] h Q :=
  ans_of (by kernel_rfl) e_deps_Cmp b_deps_Cmp (by kernel_rfl) (lab_ofX (fun _ _ _ _ h => h.elim) [] (cast (q_deps_Cmp_0 (Pu EE) Q v0 v1 h) H))
noncomputable def c_cmp_Or_int : Code := match Tryz.f39.body with | some c => c | none => .skip
theorem b_cmp_Or_int : Tryz.f39.body = some c_cmp_Or_int := by kernel_rfl
theorem e_cmp_Or_int : EE.fn.get 39 = some Tryz.f39 := by kernel_rfl
noncomputable def L_cmp_Or_int_1 (Q : V → Hp → Prop) (v3 v6 v7 v8 : V) (h : Hp) : Prop := ∀ s : List V, s.length = (Tryz.f39).ntmps → nth s 3 = v3 ∧ nth s 6 = v6 ∧ nth s 7 = v7 ∧ nth s 8 = v8 → Lab EE Tryz.f39 c_cmp_Or_int Q [false, true, false, true, true] s h []
noncomputable def X_cmp_Or_int (l1 : V → V → V → V → Hp → Prop) : Lb := fun π s h d => match d with
  | [] => bif eqB [false, true, false, true, true] π then l1 (nth s 3) (nth s 6) (nth s 7) (nth s 8) h else False
  | _ => False
theorem o_cmp_Or_int (Q : V → Hp → Prop) : ∀ π s h d, X_cmp_Or_int (L_cmp_Or_int_1 Q) π s h d → s.length = (Tryz.f39).ntmps → Lab EE Tryz.f39 c_cmp_Or_int Q π s h d := by
  intro π s h d hx hl
  cases d with
  | cons _ _ => exact hx.elim
  | nil =>
    simp only [X_cmp_Or_int] at hx
    cases hk : eqB [false, true, false, true, true] π with
    | true => rw [hk, cond_true] at hx; rw [← eqB_eq hk]; exact hx s hl ⟨rfl, rfl, rfl, rfl⟩
    | false =>
    rw [hk, cond_false] at hx
    exact hx.elim
noncomputable def t_cmp_Or_int_0 (p : Pr) (l1 : V → V → V → V → Hp → Prop) (Q : V → Hp → Prop) (v0 : V) (h : Hp) : Prop :=
  p.lbui h #[64] .len [v0] fun x1 =>
  l1 (.int .i64 0) v0 x1 (.int .i64 0) h
theorem q_cmp_Or_int_0 (p : Pr) (l1 : V → V → V → V → Hp → Prop) (Q : V → Hp → Prop) (v0 : V) (h : Hp) : t_cmp_Or_int_0 p l1 Q v0 h = KAt p EE (cutOf [[false, true, false, true, true]]) (X_cmp_Or_int l1) c_cmp_Or_int [] [] (finK p Tryz.f39 Q) ([v0] ++ List.replicate 17 u0) h [] := by kernel_rfl
theorem a_cmp_Or_int {Q : V → Hp → Prop} {v0 : V} {h : Hp} (H : t_cmp_Or_int_0 (Pu EE) (L_cmp_Or_int_1 Q) Q v0 h) : Ans EE 39 [v0] h Q :=
  ans_of (by kernel_rfl) e_cmp_Or_int b_cmp_Or_int (by kernel_rfl) (lab_ofX (o_cmp_Or_int Q) [] (cast (q_cmp_Or_int_0 (Pu EE) (L_cmp_Or_int_1 Q) Q v0 h) H))
noncomputable def t_cmp_Or_int_1 (p : Pr) (l1 : V → V → V → V → Hp → Prop) (Q : V → Hp → Prop) (v3 v6 v7 v8 : V) (h : Hp) : Prop :=
  p.bin .lss 3 false false v8 v7 fun x1 =>
  p.cond x1
  (fun _ =>
   p.iaddr 64 v6 v8 fun x2 =>
   p.load h 3 x2 fun x3 =>
   p.bin .neq 3 false false x3 v3 fun x4 =>
   p.cond x4
   (fun _ =>
    Q x3 h)
   (fun _ =>
    p.bin .add 3 false true v8 (.int .i64 1) fun x5 =>
    l1 v3 v6 v7 x5 h))
  (fun _ =>
   Q v3 h)
theorem q_cmp_Or_int_1 (p : Pr) (l1 : V → V → V → V → Hp → Prop) (Q : V → Hp → Prop) (s : List V) (h : Hp) : t_cmp_Or_int_1 p l1 Q (nth s 3) (nth s 6) (nth s 7) (nth s 8) h = KAt p EE (cutOf [[false, true, false, true, true]]) (X_cmp_Or_int l1) c_cmp_Or_int [] [true, true, false, true, false] (finK p Tryz.f39 Q) (nths s 18 0) h [] := by kernel_rfl
theorem r_cmp_Or_int_1 {Q : V → Hp → Prop} {v3 v6 v7 v8 : V} {h : Hp} (H : t_cmp_Or_int_1 (Pu EE) (L_cmp_Or_int_1 Q) Q v3 v6 v7 v8 h) : L_cmp_Or_int_1 Q v3 v6 v7 v8 h := by
  intro s hl ⟨e3, e6, e7, e8⟩
  subst e3 e6 e7 e8
  have hl : s.length = 18 := hl
  rw [nth_all hl]
  exact lab_ofX (o_cmp_Or_int Q) [true, true, false, true, false] (cast (q_cmp_Or_int_1 (Pu EE) (L_cmp_Or_int_1 Q) Q s h) H)
noncomputable def c_cmp_Compare_string : Code := match Tryz.f40.body with | some c => c | none => .skip
theorem b_cmp_Compare_string : Tryz.f40.body = some c_cmp_Compare_string := by kernel_rfl
theorem e_cmp_Compare_string : EE.fn.get 40 = some Tryz.f40 := by kernel_rfl
noncomputable def t_cmp_Compare_string_0 (p : Pr) (Q : V → Hp → Prop) (v0 v1 : V) (h : Hp) : Prop :=
  p.call 61 [v0] h fun x1 h2 =>
  p.call 61 [v1] h2 fun x3 h4 =>
  p.cond x1
  (fun _ =>
   p.cond x3
   (fun _ =>
    Q (.int .i64 0) h4)
   (fun _ =>
    Q (.int .i64 (-1)) h4))
  (fun _ =>
   p.cond x3
   (fun _ =>
    Q (.int .i64 1) h4)
   (fun _ =>
    p.bin .lss 9 false false v0 v1 fun x5 =>
    p.cond x5
    (fun _ =>
     Q (.int .i64 (-1)) h4)
    (fun _ =>
     p.bin .gtr 9 false false v0 v1 fun x6 =>
     p.cond x6
     (fun _ =>
      Q (.int .i64 1) h4)
     (fun _ =>
      Q (.int .i64 0) h4))))
theorem q_cmp_Compare_string_0 (p : Pr) (Q : V → Hp → Prop) (v0 v1 : V) (h : Hp) : t_cmp_Compare_string_0 p Q v0 v1 h = KAt p EE (cutOf []) (fun _ _ _ _ => False) c_cmp_Compare_string [] [] (finK p Tryz.f40 Q) ([v0, v1] ++ List.replicate 18 u0) h [] := by kernel_rfl
theorem a_cmp_Compare_string {Q : V → Hp → Prop} {v0 v1 : V} {h : Hp} (H : t_cmp_Compare_string_0 (Pu EE) Q v0 v1 h) : Ans EE 40 [v0, v1] h Q :=
  ans_of (by kernel_rfl) e_cmp_Compare_string b_cmp_Compare_string (by kernel_rfl) (lab_ofX (fun _ _ _ _ h => h.elim) [] (cast (q_cmp_Compare_string_0 (Pu EE) Q v0 v1 h) H))
noncomputable def c_cmp_Compare_int : Code := match Tryz.f41.body with | some c => c | none => .skip
theorem b_cmp_Compare_int : Tryz.f41.body = some c_cmp_Compare_int := by kernel_rfl
theorem e_cmp_Compare_int : EE.fn.get 41 = some Tryz.f41 := by kernel_rfl
noncomputable def t_cmp_Compare_int_0 (p : Pr) (Q : V → Hp → Prop) (v0 v1 : V) (h : Hp) : Prop :=
  p.call 62 [v0] h fun x1 h2 =>
  p.call 62 [v1] h2 fun x3 h4 =>
  p.cond x1
  (fun _ =>
   p.cond x3
   (fun _ =>
    Q (.int .i64 0) h4)
   (fun _ =>
    Q (.int .i64 (-1)) h4))
  (fun _ =>
   p.cond x3
   (fun _ =>
    Q (.int .i64 1) h4)
   (fun _ =>
    p.bin .lss 3 false false v0 v1 fun x5 =>
    p.cond x5
    (fun _ =>
     Q (.int .i64 (-1)) h4)
    (fun _ =>
     p.bin .gtr 3 false false v0 v1 fun x6 =>
     p.cond x6
     (fun _ =>
      Q (.int .i64 1) h4)
     (fun _ =>
      Q (.int .i64 0) h4))))
theorem q_cmp_Compare_int_0 (p : Pr) (Q : V → Hp → Prop) (v0 v1 : V) (h : Hp) : t_cmp_Compare_int_0 p Q v0 v1 h = KAt p EE (cutOf []) (fun _ _ _ _ => False) c_cmp_Compare_int [] [] (finK p Tryz.f41 Q) ([v0, v1] ++ List.replicate 18 u0) h [] := by kernel_rfl
theorem a_cmp_Compare_int {Q : V → Hp → Prop} {v0 v1 : V} {h : Hp} (H : t_cmp_Compare_int_0 (Pu EE) Q v0 v1 h) : Ans EE 41 [v0, v1] h Q :=
  ans_of (by kernel_rfl) e_cmp_Compare_int b_cmp_Compare_int (by kernel_rfl) (lab_ofX (fun _ _ _ _ h => h.elim) [] (cast (q_cmp_Compare_int_0 (Pu EE) Q v0 v1 h) H))
noncomputable def c_cmp_isNaN_string : Code := match Tryz.f61.body with | some c => c | none => .skip
theorem b_cmp_isNaN_string : Tryz.f61.body = some c_cmp_isNaN_string := by kernel_rfl
theorem e_cmp_isNaN_string : EE.fn.get 61 = some Tryz.f61 := by kernel_rfl
noncomputable def t_cmp_isNaN_string_0 (p : Pr) (Q : V → Hp → Prop) (v0 : V) (h : Hp) : Prop :=
  p.bin .neq 9 false false v0 v0 fun x1 =>
  Q x1 h
theorem q_cmp_isNaN_string_0 (p : Pr) (Q : V → Hp → Prop) (v0 : V) (h : Hp) : t_cmp_isNaN_string_0 p Q v0 h = KAt p EE (cutOf []) (fun _ _ _ _ => False) c_cmp_isNaN_string [] [] (finK p Tryz.f61 Q) ([v0] ++ List.replicate 5 u0) h [] := by kernel_rfl
theorem a_cmp_isNaN_string {Q : V → Hp → Prop} {v0 : V} {h : Hp} (H : t_cmp_isNaN_string_0 (Pu EE) Q v0 h) : Ans EE 61 [v0] h Q :=
  ans_of (by kernel_rfl) e_cmp_isNaN_string b_cmp_isNaN_string (by kernel_rfl) (lab_ofX (fun _ _ _ _ h => h.elim) [] (cast (q_cmp_isNaN_string_0 (Pu EE) Q v0 h) H))
noncomputable def c_cmp_isNaN_int : Code := match Tryz.f62.body with | some c => c | none => .skip
theorem b_cmp_isNaN_int : Tryz.f62.body = some c_cmp_isNaN_int := by kernel_rfl
theorem e_cmp_isNaN_int : EE.fn.get 62 = some Tryz.f62 := by kernel_rfl
noncomputable def t_cmp_isNaN_int_0 (p : Pr) (Q : V → Hp → Prop) (v0 : V) (h : Hp) : Prop :=
  p.bin .neq 3 false false v0 v0 fun x1 =>
  Q x1 h
theorem q_cmp_isNaN_int_0 (p : Pr) (Q : V → Hp → Prop) (v0 : V) (h : Hp) : t_cmp_isNaN_int_0 p Q v0 h = KAt p EE (cutOf []) (fun _ _ _ _ => False) c_cmp_isNaN_int [] [] (finK p Tryz.f62 Q) ([v0] ++ List.replicate 5 u0) h [] := by kernel_rfl
theorem a_cmp_isNaN_int {Q : V → Hp → Prop} {v0 : V} {h : Hp} (H : t_cmp_isNaN_int_0 (Pu EE) Q v0 h) : Ans EE 62 [v0] h Q :=
  ans_of (by kernel_rfl) e_cmp_isNaN_int b_cmp_isNaN_int (by kernel_rfl) (lab_ofX (fun _ _ _ _ h => h.elim) [] (cast (q_cmp_isNaN_int_0 (Pu EE) Q v0 h) H))
end
end Go.Proofs.YtlllhhjlfmhmlaaGreatDoor.VM
namespace Go.Proofs.YtlllhhjlfmhmlaaGreatDoor.VM
open Go
set_option linter.unusedVariables false
set_option linter.unusedSectionVars false
set_option linter.unusedSimpArgs false
set_option maxRecDepth 20000
noncomputable section
attribute [local instance] syZ
theorem pu_sgtr (t : Nat) (cx cy : Bool) (a b : List Nat) (q : V → Prop) : (Pu EE).bin .gtr t cx cy (.str a) (.str b) q ↔ q (.bool (slt b a)) := by
  show (∃ v, vbin .gtr (.str a) (.str b) = some v ∧ q v) ↔ _
  simp only [vbin, ex_some]
def scmpZ (a b : List Nat) : Int := if slt a b then -1 else if slt b a then 1 else 0
def icmpZ (a b : Nat) : Int := if a < b then -1 else if b < a then 1 else 0
theorem nanS (a : List Nat) (h : Hp) : Ans EE 61 [.str a] h fun x h' => x = .bool false ∧ h' = h := by
  apply a_cmp_isNaN_string
  unfold t_cmp_isNaN_string_0
  rw [pu_sneq]
  exact ⟨by simp, rfl⟩
theorem nanI (a : Nat) (h : Hp) : Ans EE 62 [.int .i64 a] h fun x h' => x = .bool false ∧ h' = h := by
  apply a_cmp_isNaN_int
  unfold t_cmp_isNaN_int_0
  rw [pu_neq]
  exact ⟨by simp, rfl⟩
theorem cmpS_ok (a b : List Nat) (h : Hp) : Ans EE 40 [.str a, .str b] h fun x h' => x = .int .i64 (scmpZ a b) ∧ h' = h := by
  apply a_cmp_Compare_string
  unfold t_cmp_Compare_string_0
  refine (nanS a h).mono ?_
  rintro x h1 ⟨rfl, rfl⟩
  refine (nanS b h1).mono ?_
  rintro x h2 ⟨rfl, rfl⟩
  rw [pu_cond_f, pu_cond_f, pu_slss, pu_cond]
  unfold scmpZ
  refine ⟨fun e => ⟨by rw [e]; rfl, rfl⟩, fun e => ?_⟩
  rw [pu_sgtr, pu_cond]
  rw [e]
  exact ⟨fun e2 => ⟨by rw [e2]; rfl, rfl⟩, fun e2 => ⟨by rw [e2]; rfl, rfl⟩⟩
theorem cmpI_ok (a b : Nat) (h : Hp) : Ans EE 41 [.int .i64 a, .int .i64 b] h fun x h' => x = .int .i64 (icmpZ a b) ∧ h' = h := by
  apply a_cmp_Compare_int
  unfold t_cmp_Compare_int_0
  refine (nanI a h).mono ?_
  rintro x h1 ⟨rfl, rfl⟩
  refine (nanI b h1).mono ?_
  rintro x h2 ⟨rfl, rfl⟩
  rw [pu_cond_f, pu_cond_f, pu_lssN, pu_cond_d]
  unfold icmpZ
  refine ⟨fun e => ⟨by rw [if_pos e], rfl⟩, fun e => ?_⟩
  rw [gtrN, pu_cond_d, if_neg e]
  exact ⟨fun e2 => ⟨by rw [if_pos e2], rfl⟩, fun e2 => ⟨by rw [if_neg e2], rfl⟩⟩
def orZ : List Int → Int
  | [] => 0
  | a :: l => if a = 0 then orZ l else a
theorem or_ok (h : Hp) (v : V) (l : List Int) (hv : Rd h 1 v l.length (l.map fun z => V.int .i64 z)) (hl : l.length < 1000000) : Ans EE 39 [v] h fun x h' => x = .int .i64 (orZ l) ∧ h' = h := by
  apply a_cmp_Or_int
  unfold t_cmp_Or_int_0
  rw [pu_len hv s_sl_int]
  have loop : ∀ (k i : Nat), l.length - i = k → i ≤ l.length → orZ (l.drop i) = orZ l → L_cmp_Or_int_1 (fun x h' => x = .int .i64 (orZ l) ∧ h' = h) (.int .i64 0) v (.int .i64 l.length) (.int .i64 i) h := by
    intro k
    induction k with
    | zero =>
      intro i hk hi he
      apply r_cmp_Or_int_1
      unfold t_cmp_Or_int_1
      rw [pu_lssN, pu_cond_d]
      refine ⟨fun q => absurd q (by omega), fun _ => ⟨?_, rfl⟩⟩
      rw [List.drop_eq_nil_of_le (by omega)] at he
      rw [← he]; rfl
    | succ k ih =>
      intro i hk hi he
      apply r_cmp_Or_int_1
      unfold t_cmp_Or_int_1
      rw [pu_lssN, pu_cond_d]
      refine ⟨fun q => ?_, fun q => absurd (by omega) q⟩
      obtain ⟨b1, o1, g1, g2, _⟩ := rd_get1 hv s_sl_int l_int (i := i) (x := .int .i64 l[i]) (by rw [List.getElem?_map, List.getElem?_eq_getElem q]; rfl)
      rw [g1, g2, pu_neq, pu_cond_n]
      rw [drop_cons q, orZ] at he
      refine ⟨fun e => ⟨?_, rfl⟩, fun e => ?_⟩
      · rw [if_neg e] at he; rw [he]
      · rw [if_pos e] at he
        rw [pu_inc _ _ _ _ (by omega)]
        exact ih (i + 1) (by omega) (by omega) he
  exact loop _ 0 rfl (by omega) rfl
def spCmpZ (a b : Spt) : Int := if spLt a b then -1 else if spLt b a then 1 else 0
theorem or_cmp (a b : Spt) : orZ [scmpZ a.s b.s, icmpZ a.r b.r, icmpZ a.c b.c] = spCmpZ a b := by
  unfold spCmpZ
  simp only [orZ]
  rcases slt_tri a.s b.s with h | h | h
  · have h1 : scmpZ a.s b.s = -1 := by unfold scmpZ; rw [h]; rfl
    have h2 : spLt a b = true := (spLt_iff a b).2 (.inl h)
    rw [h1, h2]; rfl
  · have h1 : scmpZ a.s b.s = 0 := by unfold scmpZ; rw [h, slt_irr]; rfl
    have hab : spLt a b = true ↔ a.r < b.r ∨ a.r = b.r ∧ a.c < b.c := by rw [spLt_iff, h, slt_irr]; simp
    have hba : spLt b a = true ↔ b.r < a.r ∨ b.r = a.r ∧ b.c < a.c := by rw [spLt_iff, h, slt_irr]; simp
    have lt_ : ∀ x y : Nat, x < y → icmpZ x y = -1 := fun x y q => by unfold icmpZ; rw [if_pos q]
    have gt_ : ∀ x y : Nat, y < x → icmpZ x y = 1 := fun x y q => by unfold icmpZ; rw [if_neg (by omega), if_pos q]
    have eq_ : ∀ x y : Nat, x = y → icmpZ x y = 0 := fun x y q => by unfold icmpZ; rw [if_neg (by omega), if_neg (by omega)]
    have no1 : ¬ (a.r < b.r ∨ a.r = b.r ∧ a.c < b.c) → spLt a b = false := fun q => by cases e : spLt a b with | false => rfl | true => exact absurd (hab.1 e) q
    have no2 : ¬ (b.r < a.r ∨ b.r = a.r ∧ b.c < a.c) → spLt b a = false := fun q => by cases e : spLt b a with | false => rfl | true => exact absurd (hba.1 e) q
    rcases Nat.lt_trichotomy a.r b.r with k | k | k
    · simp [h1, lt_ _ _ k, hab.2 (.inl k)]
    · rcases Nat.lt_trichotomy a.c b.c with q | q | q
      · simp [h1, eq_ _ _ k, lt_ _ _ q, hab.2 (.inr ⟨k, q⟩)]
      · simp [h1, eq_ _ _ k, eq_ _ _ q, no1 (by omega), no2 (by omega)]
      · simp [h1, eq_ _ _ k, gt_ _ _ q, no1 (by omega), hba.2 (.inr ⟨k.symm, q⟩)]
    · simp [h1, gt_ _ _ k, no1 (by omega), hba.2 (.inl k)]
  · have h1 : scmpZ a.s b.s = 1 := by unfold scmpZ; rw [h, slt_asym h]; rfl
    have h2 : spLt b a = true := (spLt_iff b a).2 (.inl h)
    rw [h1, h2, spLt_asym h2]; rfl
theorem cmp_ok (a b : Spt) (h : Hp) : Ans EE 19 [spV a, spV b] h fun x h' => x = .int .i64 (spCmpZ a b) ∧ Ext h.n h h' := by
  apply a_deps_Cmp
  unfold t_deps_Cmp_0
  refine pu_boxX (cs := spC a) rfl fun h1 b1 w1 => ?_
  refine pu_boxX (cs := spC b) rfl fun h2 b2 w2 => ?_
  have n1 := w1.n
  have n2 := w2.n
  have e1 := w1.b
  have e2 := w2.b
  have x2 : Ext h.n h h2 := (w1.ext (Nat.le_refl _)).trans (w2.ext (by omega))
  have hb1 : h2.t.get b1 = some (.cells (spC a) 26 false) := by rw [w2.old b1 (by omega)]; exact w1.at_
  have hb2 := w2.at_
  simp only [fa_api_Spot_0, fa_api_Spot_1, fa_api_Spot_2]
  rw [pu_load1 l_string hb1 rfl, pu_load1 l_string hb2 rfl, pu_load1 l_int hb1 rfl, pu_load1 l_int hb2 rfl, pu_load1 l_int hb1 rfl, pu_load1 l_int hb2 rfl]
  refine (cmpS_ok a.s b.s h2).mono ?_
  rintro x h3 ⟨rfl, rfl⟩
  rw [pu_load1 l_int hb2 rfl, same_int, pu_load1 l_int hb1 rfl, same_int, pu_load1 l_int hb2 rfl, same_int, pu_load1 l_int hb1 rfl, same_int]
  refine (cmpI_ok a.r b.r h3).mono ?_
  rintro x h4 ⟨rfl, rfl⟩
  rw [pu_load1 l_int hb2 rfl, same_int, pu_load1 l_int hb1 rfl, same_int]
  refine (cmpI_ok a.c b.c h4).mono ?_
  rintro x h5 ⟨rfl, rfl⟩
  refine pu_bslX s_sl_int l_int _ (by simp [c1_int]) rfl (by omega) fun h6 b6 w6 => ?_
  have hrd : Rd h6 1 (.sl b6 0 3 3) 3 ([scmpZ a.s b.s, icmpZ a.r b.r, icmpZ a.c b.c].map fun z => V.int .i64 z) :=
    ⟨rfl, .inr ⟨b6, 0, _, rdCells_of w6.at_, rfl, .inl ⟨3, rfl⟩⟩⟩
  refine (or_ok h6 _ [scmpZ a.s b.s, icmpZ a.r b.r, icmpZ a.c b.c] hrd (by simp)).mono ?_
  rintro x h7 ⟨rfl, rfl⟩
  exact ⟨by rw [or_cmp], x2.trans (w6.ext (by omega))⟩
end
end Go.Proofs.YtlllhhjlfmhmlaaGreatDoor.VM
namespace Go.Proofs.YtlllhhjlfmhmlaaGreatDoor.VM
open Go
set_option linter.unusedVariables false
set_option linter.unusedSectionVars false
set_option linter.unusedSimpArgs false
set_option maxRecDepth 20000
noncomputable section
attribute [local instance] syZ
theorem ti_string : ∃ i, EE.ty.get 9 = some i ∧ i.k = .str := st_string
theorem eqlB (a b : Nat) (t : Nat) (cx cy : Bool) (q : V → Prop) : (Pu EE).bin .eql t cx cy (.int .u8 a) (.int .u8 b) q ↔ q (.bool (Nat.beq a b)) := by
  rw [pu_eql]
  have : decide ((a : Int) = (b : Int)) = Nat.beq a b := by
    rw [Bool.eq_iff_iff, decide_eq_true_iff, Nat.beq_eq]; omega
  rw [this]
/-- a row's cells from a place on, those that begin a formula -/
def fCols (nm : List Nat) (r : Nat) (row : List (List Nat)) (c n : Nat) : List Spt := (colsL nm r c n).filter fun s => is61 ((row[s.c]?).getD [])
structure FS (N : Nat) (h0 h : Hp) (v : V) (acc : List Spt) : Prop where
  own : OwnS N h v acc
  n : N ≤ h.n
  ext : Ext N h0 h
/-- a sheet's box, besides the list that grows -/
structure SB (h : Hp) (v : V) (b4 : Nat) (s : Sht) (rv : V) : Prop where
  at_ : h.t.get b4 = some (.cells (shtC s rv) 48 false)
  lt : b4 < h.n
  ne : blkOf v ≠ some b4
section
variable (Q : V → Hp → Prop) (M N : Nat) (h0 : Hp) (sv : V) (bk : Bok) (hN0 : N = h0.n) (hM : M ≤ N) (hs : ShsAt M h0 sv bk) (hfit : (allSpots bk).length ≤ 100000) (hbl : bk.length < 1000000) (hrl : ∀ s ∈ bk, s.rows.length < 1000000 ∧ ∀ row ∈ s.rows, row.length < 1000000)
include hN0 hM hs hfit hbl hrl
theorem form_loop3 (i r b4 : Nat) (s : Sht) (row : List (List Nat)) (rv wv : V) (tot : List Spt) (ht : tot.length ≤ 100000) (hi : bk[i]? = some s) (hrow : s.rows[r]? = some row) (hw : RowAt M h0 wv row)
    (rest : List Spt) (hnext : ∀ (h : Hp) (v : V) (acc : List Spt), FS N h0 h v acc → SB h v b4 s rv → acc ++ rest = tot → L_deps_formulas_2 Q v (.ptr b4 0) sv (.int .i64 bk.length) (.int .i64 i) rv (.int .i64 s.rows.length) (.int .i64 (r + 1 : Nat)) h) :
    ∀ (k c : Nat), row.length - c = k → ∀ (h : Hp) (v : V) (acc : List Spt), FS N h0 h v acc → SB h v b4 s rv → acc ++ (fCols s.name r row c row.length ++ rest) = tot → c ≤ row.length →
      L_deps_formulas_3 Q v (.ptr b4 0) (.int .i64 r) sv (.int .i64 bk.length) (.int .i64 i) rv (.int .i64 s.rows.length) (.int .i64 r) wv (.int .i64 row.length) (.int .i64 c) h := by
  have hrl1 := hrl s (List.mem_of_getElem? hi)
  have hrr := (List.getElem?_eq_some_iff.1 hrow).1
  have hrowl := hrl1.2 row (List.mem_of_getElem? hrow)
  obtain ⟨ti, ti1, ti2⟩ := ti_string
  intro k
  induction k with
  | zero =>
    intro c hk h v acc S B he hc
    apply r_deps_formulas_3
    unfold t_deps_formulas_3
    rw [pu_lssN, pu_cond_d]
    refine ⟨fun h1 => absurd h1 (by omega), fun _ => ?_⟩
    rw [pu_inc _ _ _ _ (by omega)]
    unfold fCols at he
    rw [colsL_end (by omega), List.filter_nil, List.nil_append] at he
    exact hnext h v acc S B he
  | succ k ih =>
    intro c hk h v acc S B he hc
    apply r_deps_formulas_3
    unfold t_deps_formulas_3
    rw [pu_lssN, pu_cond_d]
    refine ⟨fun h1 => ?_, fun h1 => absurd (by omega) h1⟩
    obtain ⟨b1, o1, g1, g2⟩ := row_get (hw.ext (S.ext.mono hM)) s_sl_string l_string (List.getElem?_eq_getElem h1)
    rw [g1, g2, pu_sneq]
    have hstep : fCols s.name r row c row.length = (if is61 row[c] = true then [⟨s.name, r, c⟩] else []) ++ fCols s.name r row (c + 1) row.length := by
      unfold fCols
      rw [colsL_step h1, List.filter_cons]
      simp only [List.getElem?_eq_getElem h1, Option.getD_some]
      split <;> rfl
    rw [hstep] at he
    have hskip : is61 row[c] = false → L_deps_formulas_3 Q v (.ptr b4 0) (.int .i64 r) sv (.int .i64 bk.length) (.int .i64 i) rv (.int .i64 s.rows.length) (.int .i64 r) wv (.int .i64 row.length) (.int .i64 (c + 1 : Nat)) h := fun e => by
      rw [e] at he
      exact ih (c + 1) (by omega) h v acc S B (by simpa using he) (by omega)
    cases htx : row[c] with
    | nil =>
      rw [htx] at hskip
      simp only [decide_true, Bool.not_true, pu_gval_ft, pu_pick_f, pu_cond_f]
      rw [pu_inc _ _ _ _ (by omega)]
      exact hskip rfl
    | cons x xs =>
      rw [htx] at hskip he
      have e1 : (!decide ((x :: xs) = ([] : List Nat))) = true := by simp
      rw [e1]
      simp only [pu_gval_y, pu_pick_t]
      rw [show (0 : Int) = ((0 : Nat) : Int) from rfl, pu_sidx _ ti ti1 ti2 (x :: xs) .i64 0 (by simp), show (61 : Int) = ((61 : Nat) : Int) from rfl, eqlB]
      simp only [List.getElem_cons_zero]
      rw [pu_cond]
      refine ⟨fun e => ?_, fun e => ?_⟩
      · rw [fa_api_Sheet_0, pu_load1 l_string B.at_ rfl, mk_spot]
        have e6 : is61 (x :: xs) = true := e
        rw [e6, if_pos rfl] at he
        have hal : acc.length + 1 ≤ 1048576 := by
          have := congrArg List.length he
          simp only [List.length_append, List.length_cons] at this
          omega
        refine append_spot S.own _ hal S.n _ fun v' h' o' x' f' b' => ?_
        rw [pu_inc _ _ _ _ (by omega)]
        refine ih (c + 1) (by omega) h' v' (acc ++ [⟨s.name, r, c⟩]) ⟨o', Nat.le_trans S.n x'.n, S.ext.trans x'⟩ ⟨by rw [f' b4 B.lt B.ne]; exact B.at_, Nat.lt_of_lt_of_le B.lt x'.n, fun q => ?_⟩ ?_ (by omega)
        · rcases b' b4 q with q | q
          · exact B.ne q
          · have := B.lt; omega
        · rw [← he]; simp
      · rw [pu_inc _ _ _ _ (by omega)]
        exact hskip e
/-- rows' cells that begin a formula -/
def fRows (nm : List Nat) : Nat → List (List (List Nat)) → List Spt
  | _, [] => []
  | r, row :: rows => fCols nm r row 0 row.length ++ fRows nm (r + 1) rows
theorem form_loop2 (i b4 : Nat) (s : Sht) (rv : V) (tot : List Spt) (ht : tot.length ≤ 100000) (hi : bk[i]? = some s) (hrv : RowsAt M h0 rv s.rows) (rest : List Spt)
    (hnext : ∀ (h : Hp) (v : V) (acc : List Spt), FS N h0 h v acc → acc ++ rest = tot → L_deps_formulas_1 Q v sv (.int .i64 bk.length) (.int .i64 (i + 1 : Nat)) h) :
    ∀ (k r : Nat), s.rows.length - r = k → ∀ (h : Hp) (v : V) (acc : List Spt), FS N h0 h v acc → SB h v b4 s rv → acc ++ (fRows s.name r (s.rows.drop r) ++ rest) = tot → r ≤ s.rows.length →
      L_deps_formulas_2 Q v (.ptr b4 0) sv (.int .i64 bk.length) (.int .i64 i) rv (.int .i64 s.rows.length) (.int .i64 r) h := by
  have hrl1 := hrl s (List.mem_of_getElem? hi)
  have hil := (List.getElem?_eq_some_iff.1 hi).1
  intro k
  induction k with
  | zero =>
    intro r hk h v acc S B he hr
    apply r_deps_formulas_2
    unfold t_deps_formulas_2
    rw [pu_lssN, pu_cond_d]
    refine ⟨fun h1 => absurd h1 (by omega), fun _ => ?_⟩
    rw [pu_inc _ _ _ _ (by omega)]
    rw [List.drop_eq_nil_of_le (by omega : s.rows.length ≤ r)] at he
    exact hnext h v acc S he
  | succ k ih =>
    intro r hk h v acc S B he hr
    apply r_deps_formulas_2
    unfold t_deps_formulas_2
    rw [pu_lssN, pu_cond_d]
    refine ⟨fun h1 => ?_, fun h1 => absurd (by omega) h1⟩
    obtain ⟨us, q1, q2, q3⟩ := hrv
    obtain ⟨w, q4, q5⟩ := q3 r _ (List.getElem?_eq_getElem h1)
    obtain ⟨b3, o3, p1, p2, _⟩ := rd_get1 (q1.ext (S.ext.mono hM) q2) s_sl_sl_string l_sl_string q4
    have hw := q5.ext (S.ext.mono hM)
    rw [p1, p2, pu_len hw.1 s_sl_string]
    rw [drop_cons h1, fRows, List.append_assoc] at he
    exact form_loop3 Q M N h0 sv bk hN0 hM hs hfit hbl hrl i r b4 s s.rows[r] rv w tot ht hi (List.getElem?_eq_getElem h1) q5 _ (fun h' v' acc' S' B' he' => ih (r + 1) (by omega) h' v' acc' S' B' he' (by omega)) _ 0 rfl h v acc S B he (by omega)
def fAll : Bok → List Spt
  | [] => []
  | s :: b => fRows s.name 0 s.rows ++ fAll b
theorem form_loop1 (tot : List Spt) (ht : tot.length ≤ 100000) (hq : ∀ (h : Hp) (v : V), FS N h0 h v tot → Q v h) :
    ∀ (k i : Nat), bk.length - i = k → ∀ (h : Hp) (v : V) (acc : List Spt), FS N h0 h v acc → acc ++ fAll (bk.drop i) = tot → i ≤ bk.length → L_deps_formulas_1 Q v sv (.int .i64 bk.length) (.int .i64 i) h := by
  intro k
  induction k with
  | zero =>
    intro i hk h v acc S he hi
    apply r_deps_formulas_1
    unfold t_deps_formulas_1
    rw [pu_lssN, pu_cond_d]
    refine ⟨fun h1 => absurd h1 (by omega), fun _ => ?_⟩
    rw [List.drop_eq_nil_of_le (by omega : bk.length ≤ i)] at he
    have e : acc = tot := by simpa [fAll] using he
    subst e
    exact hq h v S
  | succ k ih =>
    intro i hk h v acc S he hi
    apply r_deps_formulas_1
    unfold t_deps_formulas_1
    rw [pu_lssN, pu_cond_d]
    refine ⟨fun h1 => ?_, fun h1 => absurd (by omega) h1⟩
    have hsn := S.n
    obtain ⟨cs, q1, q2, q3⟩ := hs
    obtain ⟨rv, q4, q5⟩ := q3 i _ (List.getElem?_eq_getElem h1)
    obtain ⟨b1, o1, g1, g2, _⟩ := rd_getS (q1.ext (S.ext.mono hM) q2) s_sl_api_Sheet l_api_Sheet (by omega) h1 q4
    obtain ⟨us, hu⟩ := q5.rd
    have hcl' : allCells (shtC bk[i] rv) = true := by
      show (bif rv.isCell then allCells [] else false) = true
      rw [hu.c1.2]; rfl
    rw [g1, g2]
    refine pu_allocX l_api_Sheet fun h3 b3 w3 => ?_
    refine pu_storeX l_api_Sheet w3.at_ (x := .agg (shtC bk[i] rv)) rfl hcl' (r := shtC bk[i] rv) rfl fun h4 w4 => ?_
    have n3 := w3.n
    have e3 := w3.b
    have n4 := w4.n
    have x4 : Ext h.n h h4 := (w3.ext (Nat.le_refl _)).trans (w4.ext (by omega))
    have S4 : FS N h0 h4 v acc := ⟨S.own.keep x4.n fun c hc => x4.old c (S.own.in_ c hc), by omega, S.ext.trans (x4.mono hsn)⟩
    have hr4 := q5.ext (S4.ext.mono hM)
    obtain ⟨us4, hu4⟩ := hr4.rd
    rw [fa_api_Sheet_2, pu_load1 l_sl_sl_string w4.at_ rfl, pu_len hu4 s_sl_sl_string]
    rw [drop_cons h1, fAll] at he
    exact form_loop2 Q M N h0 sv bk hN0 hM ⟨cs, q1, q2, q3⟩ hfit hbl hrl i b3 bk[i] rv tot ht (List.getElem?_eq_getElem h1) q5 _ (fun h' v' acc' S' he' => ih (i + 1) (by omega) h' v' acc' S' he' (by omega)) _ 0 rfl h4 v acc S4
      ⟨w4.at_, by omega, fun q => by have := S.own.in_ b3 q; omega⟩ he (by omega)
end
theorem fCols_eq {nm : List Nat} {r : Nat} {row : List (List Nat)} : fCols nm r row 0 row.length = (rowSpots nm r row).filter fun s => is61 ((row[s.c]?).getD []) := by rw [rowSpots_cols]; rfl
theorem fRows_eq (f : Spt → Bool) (nm : List Nat) (all : List (List (List Nat))) (hf : ∀ (r : Nat) (row : List (List Nat)) (c : Nat) (t : List Nat), all[r]? = some row → row[c]? = some t → f ⟨nm, r, c⟩ = is61 t) :
    ∀ (rows : List (List (List Nat))) (r : Nat), all.drop r = rows → fRows nm r rows = (rowsSpots nm r rows).filter f
  | [], r, _ => rfl
  | row :: rows, r, h => by
    have hlt : r < all.length := by
      have := congrArg List.length h
      simp at this; omega
    have hrow : all[r]? = some row := by
      have : (all.drop r)[0]? = some row := by rw [h]; rfl
      simpa using this
    rw [fRows, rowsSpots, List.filter_append, fRows_eq f nm all hf rows (r + 1) (by rw [← List.tail_drop, h]; rfl), fCols_eq]
    congr 1
    apply List.filter_congr
    intro s hs
    obtain ⟨h1, h2, h3⟩ := rowSpots_mem.1 hs
    obtain ⟨a, b, c⟩ := s
    simp only at h1 h2 h3
    subst h1; subst h2
    rw [hf b row c row[c] hrow (List.getElem?_eq_getElem h3), List.getElem?_eq_getElem h3]
    rfl
theorem fAll_eq (f : Spt → Bool) : ∀ (bk : Bok), (∀ s ∈ bk, ∀ (r : Nat) (row : List (List Nat)) (c : Nat) (t : List Nat), s.rows[r]? = some row → row[c]? = some t → f ⟨s.name, r, c⟩ = is61 t) → fAll bk = (allSpots bk).filter f
  | [], _ => rfl
  | s :: bk, h => by
    rw [fAll, allSpots, List.filter_append, fAll_eq f bk (fun t ht => h t (by simp [ht])), fRows_eq f s.name s.rows (h s (by simp)) s.rows 0 rfl]
theorem getC_at {bk : Bok} (hr : Rises bk) {s : Sht} (hs : s ∈ bk) {r : Nat} {row : List (List Nat)} {c : Nat} {t : List Nat} (h1 : s.rows[r]? = some row) (h2 : row[c]? = some t) : getC bk ⟨s.name, r, c⟩ = t := by
  unfold getC
  simp only [findR_some hr hs, h1, h2, Option.getD_some]
theorem fAll_cells {bk : Bok} (g : Good bk) : fAll bk = fCells bk := by
  refine fAll_eq (hasF bk) bk fun s hs r row c t h1 h2 => ?_
  unfold hasF
  rw [getC_at g.ris hs h1 h2]
  have ht := g.text s hs row (List.mem_of_getElem? h1) t (List.mem_of_getElem? h2)
  rw [← ht.some_, ht.eq61]
theorem formulas_ok (M : Nat) (h : Hp) (v : V) (bk : Bok) (hv : BokAt M h v bk) (hM : M ≤ h.n) (g : Good bk) : Ans EE 24 [v] h fun x h' => OwnS h.n h' x (fCells bk) ∧ Ext h.n h h' := by
  obtain ⟨sv, rfl, hs⟩ := hv
  obtain ⟨cs, hrd⟩ := hs.rd
  have hcell : allCells [sv] = true := by have := hrd.c1; simp [allCells, this.2]
  apply a_deps_formulas
  unfold t_deps_formulas_0
  refine pu_boxX (cs := [sv]) hcell fun h1 b w => ?_
  have n1 := w.n
  have e1 := w.b
  have hx := w.ext (Nat.le_refl h.n)
  have hs1 := hs.ext (hx.mono hM)
  obtain ⟨cs1, hrd1⟩ := hs1.rd
  rw [fa_api_Book_0, pu_load1 l_sl_api_Sheet w.at_ rfl, pu_len hrd1 s_sl_api_Sheet]
  exact form_loop1 _ M h1.n h1 sv bk rfl (by omega) hs1 g.fit.spots g.fit.len g.fit.rows (fCells bk) (fCells_len g) (fun h2 v2 S => ⟨S.own.mono (by omega), hx.trans (S.ext.mono (by omega))⟩) _ 0 rfl h1 .nils [] ⟨OwnS.nil _ _, Nat.le_refl _, Ext.refl _ _⟩ (by simp [fAll_cells g]) (by omega)
end
end Go.Proofs.YtlllhhjlfmhmlaaGreatDoor.VM
