/- What labels of functions ask for. Written by pe.py. · chequerlaw10.Book: what books by numbers are in memory, by labels. · chequerlaw10.Book, by labels: rows, sheets. · chequerlaw10.Book, by labels: what it answers. · What labels of functions ask for. Written by pe.py. · deps.queue: a slice of cells with slack behind, by labels. · deps.queue: Push and Pop, by labels. -/
import Derived.Test.YtlllhhjlfmhmlaaGreatDoorMg10
namespace Go.Proofs.YtlllhhjlfmhmlaaGreatDoor.VM
open Go
set_option linter.unusedVariables false
set_option maxRecDepth 100000
noncomputable section
noncomputable def c_deps_Order : Code := match Tryz.f9.body with | some c => c | none => .skip
theorem b_deps_Order : Tryz.f9.body = some c_deps_Order := by kernel_rfl
theorem e_deps_Order : EE.fn.get 9 = some Tryz.f9 := by kernel_rfl
noncomputable def L_deps_Order_1 (Q : V → Hp → Prop) (v1 v2 v3 v4 v5 v30 v31 v32 : V) (h : Hp) : Prop := ∀ s : List V, s.length = (Tryz.f9).ntmps → nth s 1 = v1 ∧ nth s 2 = v2 ∧ nth s 3 = v3 ∧ nth s 4 = v4 ∧ nth s 5 = v5 ∧ nth s 30 = v30 ∧ nth s 31 = v31 ∧ nth s 32 = v32 → Lab EE Tryz.f9 c_deps_Order Q [false, true, false, true, true, true, true] s h []
noncomputable def L_deps_Order_2 (Q : V → Hp → Prop) (v1 v2 v3 v4 v5 v8 v40 v41 v42 : V) (h : Hp) : Prop := ∀ s : List V, s.length = (Tryz.f9).ntmps → nth s 1 = v1 ∧ nth s 2 = v2 ∧ nth s 3 = v3 ∧ nth s 4 = v4 ∧ nth s 5 = v5 ∧ nth s 8 = v8 ∧ nth s 40 = v40 ∧ nth s 41 = v41 ∧ nth s 42 = v42 → Lab EE Tryz.f9 c_deps_Order Q [false, true, false, true, true, true, true, true, true] s h []
noncomputable def L_deps_Order_3 (Q : V → Hp → Prop) (v1 v2 v3 v4 v5 v8 v10 v40 v41 v42 v48 v49 v50 : V) (h : Hp) : Prop := ∀ s : List V, s.length = (Tryz.f9).ntmps → nth s 1 = v1 ∧ nth s 2 = v2 ∧ nth s 3 = v3 ∧ nth s 4 = v4 ∧ nth s 5 = v5 ∧ nth s 8 = v8 ∧ nth s 10 = v10 ∧ nth s 40 = v40 ∧ nth s 41 = v41 ∧ nth s 42 = v42 ∧ nth s 48 = v48 ∧ nth s 49 = v49 ∧ nth s 50 = v50 → Lab EE Tryz.f9 c_deps_Order Q [false, true, true, false, false, true, true, false, false, true, false, true, true, true, true, true, true] s h []
noncomputable def L_deps_Order_4 (Q : V → Hp → Prop) (v2 v3 v4 v5 v8 v15 v79 v80 v81 : V) (h : Hp) : Prop := ∀ s : List V, s.length = (Tryz.f9).ntmps → nth s 2 = v2 ∧ nth s 3 = v3 ∧ nth s 4 = v4 ∧ nth s 5 = v5 ∧ nth s 8 = v8 ∧ nth s 15 = v15 ∧ nth s 79 = v79 ∧ nth s 80 = v80 ∧ nth s 81 = v81 → Lab EE Tryz.f9 c_deps_Order Q [false, true, false, true, true, true, true, true, true, true, true] s h []
noncomputable def L_deps_Order_5 (Q : V → Hp → Prop) (v2 v3 v4 v5 v8 v15 : V) (h : Hp) : Prop := ∀ s : List V, s.length = (Tryz.f9).ntmps → nth s 2 = v2 ∧ nth s 3 = v3 ∧ nth s 4 = v4 ∧ nth s 5 = v5 ∧ nth s 8 = v8 ∧ nth s 15 = v15 → Lab EE Tryz.f9 c_deps_Order Q [false, false, true, true, true, true, true, true, true, true, true] s h []
noncomputable def L_deps_Order_6 (Q : V → Hp → Prop) (v2 v3 v4 v5 v8 v15 v111 v112 v113 : V) (h : Hp) : Prop := ∀ s : List V, s.length = (Tryz.f9).ntmps → nth s 2 = v2 ∧ nth s 3 = v3 ∧ nth s 4 = v4 ∧ nth s 5 = v5 ∧ nth s 8 = v8 ∧ nth s 15 = v15 ∧ nth s 111 = v111 ∧ nth s 112 = v112 ∧ nth s 113 = v113 → Lab EE Tryz.f9 c_deps_Order Q [false, true, true, true, false, true, false, false, false, true, true, true, true, true, true, true, true, true] s h []
noncomputable def L_deps_Order_7 (Q : V → Hp → Prop) (v2 v3 v5 v133 v134 v135 : V) (h : Hp) : Prop := ∀ s : List V, s.length = (Tryz.f9).ntmps → nth s 2 = v2 ∧ nth s 3 = v3 ∧ nth s 5 = v5 ∧ nth s 133 = v133 ∧ nth s 134 = v134 ∧ nth s 135 = v135 → Lab EE Tryz.f9 c_deps_Order Q [false, true, false, true, true, true, true, true, true, true, true, true, true] s h []
noncomputable def X_deps_Order (l1 : V → V → V → V → V → V → V → V → Hp → Prop) (l2 : V → V → V → V → V → V → V → V → V → Hp → Prop) (l3 : V → V → V → V → V → V → V → V → V → V → V → V → V → Hp → Prop) (l4 : V → V → V → V → V → V → V → V → V → Hp → Prop) (l5 : V → V → V → V → V → V → Hp → Prop) (l6 : V → V → V → V → V → V → V → V → V → Hp → Prop) (l7 : V → V → V → V → V → V → Hp → Prop) : Lb := fun π s h d => match d with
  | [] => bif eqB [false, true, false, true, true, true, true] π then l1 (nth s 1) (nth s 2) (nth s 3) (nth s 4) (nth s 5) (nth s 30) (nth s 31) (nth s 32) h else bif eqB [false, true, false, true, true, true, true, true, true] π then l2 (nth s 1) (nth s 2) (nth s 3) (nth s 4) (nth s 5) (nth s 8) (nth s 40) (nth s 41) (nth s 42) h else bif eqB [false, true, true, false, false, true, true, false, false, true, false, true, true, true, true, true, true] π then l3 (nth s 1) (nth s 2) (nth s 3) (nth s 4) (nth s 5) (nth s 8) (nth s 10) (nth s 40) (nth s 41) (nth s 42) (nth s 48) (nth s 49) (nth s 50) h else bif eqB [false, true, false, true, true, true, true, true, true, true, true] π then l4 (nth s 2) (nth s 3) (nth s 4) (nth s 5) (nth s 8) (nth s 15) (nth s 79) (nth s 80) (nth s 81) h else bif eqB [false, false, true, true, true, true, true, true, true, true, true] π then l5 (nth s 2) (nth s 3) (nth s 4) (nth s 5) (nth s 8) (nth s 15) h else bif eqB [false, true, true, true, false, true, false, false, false, true, true, true, true, true, true, true, true, true] π then l6 (nth s 2) (nth s 3) (nth s 4) (nth s 5) (nth s 8) (nth s 15) (nth s 111) (nth s 112) (nth s 113) h else bif eqB [false, true, false, true, true, true, true, true, true, true, true, true, true] π then l7 (nth s 2) (nth s 3) (nth s 5) (nth s 133) (nth s 134) (nth s 135) h else False
  | _ => False
theorem o_deps_Order (Q : V → Hp → Prop) : ∀ π s h d, X_deps_Order (L_deps_Order_1 Q) (L_deps_Order_2 Q) (L_deps_Order_3 Q) (L_deps_Order_4 Q) (L_deps_Order_5 Q) (L_deps_Order_6 Q) (L_deps_Order_7 Q) π s h d → s.length = (Tryz.f9).ntmps → Lab EE Tryz.f9 c_deps_Order Q π s h d := by
  intro π s h d hx hl
  cases d with
  | cons _ _ => exact hx.elim
  | nil =>
    simp only [X_deps_Order] at hx
    cases hk : eqB [false, true, false, true, true, true, true] π with
    | true => rw [hk, cond_true] at hx; rw [← eqB_eq hk]; exact hx s hl ⟨rfl, rfl, rfl, rfl, rfl, rfl, rfl, rfl⟩
    | false =>
    rw [hk, cond_false] at hx
    cases hk : eqB [false, true, false, true, true, true, true, true, true] π with
    | true => rw [hk, cond_true] at hx; rw [← eqB_eq hk]; exact hx s hl ⟨rfl, rfl, rfl, rfl, rfl, rfl, rfl, rfl, rfl⟩
    | false =>
    rw [hk, cond_false] at hx
    cases hk : eqB [false, true, true, false, false, true, true, false, false, true, false, true, true, true, true, true, true] π with
    | true => rw [hk, cond_true] at hx; rw [← eqB_eq hk]; exact hx s hl ⟨rfl, rfl, rfl, rfl, rfl, rfl, rfl, rfl, rfl, rfl, rfl, rfl, rfl⟩
    | false =>
    rw [hk, cond_false] at hx
    cases hk : eqB [false, true, false, true, true, true, true, true, true, true, true] π with
    | true => rw [hk, cond_true] at hx; rw [← eqB_eq hk]; exact hx s hl ⟨rfl, rfl, rfl, rfl, rfl, rfl, rfl, rfl, rfl⟩
    | false =>
    rw [hk, cond_false] at hx
    cases hk : eqB [false, false, true, true, true, true, true, true, true, true, true] π with
    | true => rw [hk, cond_true] at hx; rw [← eqB_eq hk]; exact hx s hl ⟨rfl, rfl, rfl, rfl, rfl, rfl⟩
    | false =>
    rw [hk, cond_false] at hx
    cases hk : eqB [false, true, true, true, false, true, false, false, false, true, true, true, true, true, true, true, true, true] π with
    | true => rw [hk, cond_true] at hx; rw [← eqB_eq hk]; exact hx s hl ⟨rfl, rfl, rfl, rfl, rfl, rfl, rfl, rfl, rfl⟩
    | false =>
    rw [hk, cond_false] at hx
    cases hk : eqB [false, true, false, true, true, true, true, true, true, true, true, true, true] π with
    | true => rw [hk, cond_true] at hx; rw [← eqB_eq hk]; exact hx s hl ⟨rfl, rfl, rfl, rfl, rfl, rfl⟩
    | false =>
    rw [hk, cond_false] at hx
    exact hx.elim
noncomputable def t_deps_Order_0 (p : Pr) (l1 : V → V → V → V → V → V → V → V → Hp → Prop) (l2 : V → V → V → V → V → V → V → V → V → Hp → Prop) (l3 : V → V → V → V → V → V → V → V → V → V → V → V → V → Hp → Prop) (l4 : V → V → V → V → V → V → V → V → V → Hp → Prop) (l5 : V → V → V → V → V → V → Hp → Prop) (l6 : V → V → V → V → V → V → V → V → V → Hp → Prop) (l7 : V → V → V → V → V → V → Hp → Prop) (Q : V → Hp → Prop) (v0 : V) (h : Hp) : Prop :=
  p.box h 24 v0 fun x1 h2 b3 =>
  p.load h2 24 x1 fun x4 =>
  p.call 23 [x4] h2 fun x5 h6 =>
  p.un .not x5 fun x7 =>
  p.cond x7
  (fun _ =>
   Q (.tup [.nils, .nils]) h6)
  (fun _ =>
   p.load h6 24 x1 fun x8 =>
   p.call 24 [x8] h6 fun x9 h10 =>
   p.mkmap h10 true fun x11 h12 b13 =>
   p.lbui h12 #[29] .len [x9] fun x14 =>
   l1 x1 .nils .nils x9 x11 x9 x14 (.int .i64 0) h12)
theorem q_deps_Order_0 (p : Pr) (l1 : V → V → V → V → V → V → V → V → Hp → Prop) (l2 : V → V → V → V → V → V → V → V → V → Hp → Prop) (l3 : V → V → V → V → V → V → V → V → V → V → V → V → V → Hp → Prop) (l4 : V → V → V → V → V → V → V → V → V → Hp → Prop) (l5 : V → V → V → V → V → V → Hp → Prop) (l6 : V → V → V → V → V → V → V → V → V → Hp → Prop) (l7 : V → V → V → V → V → V → Hp → Prop) (Q : V → Hp → Prop) (v0 : V) (h : Hp) : t_deps_Order_0 p l1 l2 l3 l4 l5 l6 l7 Q v0 h = KAt p EE (cutOf [[false, true, false, true, true, true, true], [false, true, false, true, true, true, true, true, true], [false, true, true, false, false, true, true, false, false, true, false, true, true, true, true, true, true], [false, true, false, true, true, true, true, true, true, true, true], [false, false, true, true, true, true, true, true, true, true, true], [false, true, true, true, false, true, false, false, false, true, true, true, true, true, true, true, true, true], [false, true, false, true, true, true, true, true, true, true, true, true, true]]) (X_deps_Order l1 l2 l3 l4 l5 l6 l7) c_deps_Order [] [] (finK p Tryz.f9 Q) ([v0] ++ List.replicate 149 u0) h [] := by kernel_rfl
theorem a_deps_Order {Q : V → Hp → Prop} {v0 : V} {h : Hp} (H : t_deps_Order_0 (Pu EE) (L_deps_Order_1 Q) (L_deps_Order_2 Q) (L_deps_Order_3 Q) (L_deps_Order_4 Q) (L_deps_Order_5 Q) (L_deps_Order_6 Q) (L_deps_Order_7 Q) Q v0 h) : Ans EE 9 [v0] h Q :=
  ans_of (by kernel_rfl) e_deps_Order b_deps_Order (by kernel_rfl) (lab_ofX (o_deps_Order Q) [] (cast (q_deps_Order_0 (Pu EE) (L_deps_Order_1 Q) (L_deps_Order_2 Q) (L_deps_Order_3 Q) (L_deps_Order_4 Q) (L_deps_Order_5 Q) (L_deps_Order_6 Q) (L_deps_Order_7 Q) Q v0 h) H))
noncomputable def t_deps_Order_1 (p : Pr) (l1 : V → V → V → V → V → V → V → V → Hp → Prop) (l2 : V → V → V → V → V → V → V → V → V → Hp → Prop) (l3 : V → V → V → V → V → V → V → V → V → V → V → V → V → Hp → Prop) (l4 : V → V → V → V → V → V → V → V → V → Hp → Prop) (l5 : V → V → V → V → V → V → Hp → Prop) (l6 : V → V → V → V → V → V → V → V → V → Hp → Prop) (l7 : V → V → V → V → V → V → Hp → Prop) (Q : V → Hp → Prop) (v1 v2 v3 v4 v5 v30 v31 v32 : V) (h : Hp) : Prop :=
  p.bin .lss 3 false false v32 v31 fun x1 =>
  p.cond x1
  (fun _ =>
   p.iaddr 29 v30 v32 fun x2 =>
   p.load h 26 x2 fun x3 =>
   p.alloc h 26 fun x4 h5 b6 =>
   p.store h5 26 x4 x3 fun h7 =>
   p.load h7 26 x4 fun x8 =>
   p.mapu h7 52 v5 x8 (.int .i64 0) fun h9 =>
   p.bin .add 3 false true v32 (.int .i64 1) fun x10 =>
   l1 v1 v2 v3 v4 v5 v30 v31 x10 h9)
  (fun _ =>
   p.mkmap h true fun x11 h12 b13 =>
   p.lbui h12 #[29] .len [v4] fun x14 =>
   l2 v1 v2 v3 v4 v5 x11 v4 x14 (.int .i64 0) h12)
theorem q_deps_Order_1 (p : Pr) (l1 : V → V → V → V → V → V → V → V → Hp → Prop) (l2 : V → V → V → V → V → V → V → V → V → Hp → Prop) (l3 : V → V → V → V → V → V → V → V → V → V → V → V → V → Hp → Prop) (l4 : V → V → V → V → V → V → V → V → V → Hp → Prop) (l5 : V → V → V → V → V → V → Hp → Prop) (l6 : V → V → V → V → V → V → V → V → V → Hp → Prop) (l7 : V → V → V → V → V → V → Hp → Prop) (Q : V → Hp → Prop) (s : List V) (h : Hp) : t_deps_Order_1 p l1 l2 l3 l4 l5 l6 l7 Q (nth s 1) (nth s 2) (nth s 3) (nth s 4) (nth s 5) (nth s 30) (nth s 31) (nth s 32) h = KAt p EE (cutOf [[false, true, false, true, true, true, true], [false, true, false, true, true, true, true, true, true], [false, true, true, false, false, true, true, false, false, true, false, true, true, true, true, true, true], [false, true, false, true, true, true, true, true, true, true, true], [false, false, true, true, true, true, true, true, true, true, true], [false, true, true, true, false, true, false, false, false, true, true, true, true, true, true, true, true, true], [false, true, false, true, true, true, true, true, true, true, true, true, true]]) (X_deps_Order l1 l2 l3 l4 l5 l6 l7) c_deps_Order [] [true, true, true, true, false, true, false] (finK p Tryz.f9 Q) (nths s 150 0) h [] := by kernel_rfl
theorem r_deps_Order_1 {Q : V → Hp → Prop} {v1 v2 v3 v4 v5 v30 v31 v32 : V} {h : Hp} (H : t_deps_Order_1 (Pu EE) (L_deps_Order_1 Q) (L_deps_Order_2 Q) (L_deps_Order_3 Q) (L_deps_Order_4 Q) (L_deps_Order_5 Q) (L_deps_Order_6 Q) (L_deps_Order_7 Q) Q v1 v2 v3 v4 v5 v30 v31 v32 h) : L_deps_Order_1 Q v1 v2 v3 v4 v5 v30 v31 v32 h := by
  intro s hl ⟨e1, e2, e3, e4, e5, e30, e31, e32⟩
  subst e1 e2 e3 e4 e5 e30 e31 e32
  have hl : s.length = 150 := hl
  rw [nth_all hl]
  exact lab_ofX (o_deps_Order Q) [true, true, true, true, false, true, false] (cast (q_deps_Order_1 (Pu EE) (L_deps_Order_1 Q) (L_deps_Order_2 Q) (L_deps_Order_3 Q) (L_deps_Order_4 Q) (L_deps_Order_5 Q) (L_deps_Order_6 Q) (L_deps_Order_7 Q) Q s h) H)
noncomputable def t_deps_Order_2 (p : Pr) (l1 : V → V → V → V → V → V → V → V → Hp → Prop) (l2 : V → V → V → V → V → V → V → V → V → Hp → Prop) (l3 : V → V → V → V → V → V → V → V → V → V → V → V → V → Hp → Prop) (l4 : V → V → V → V → V → V → V → V → V → Hp → Prop) (l5 : V → V → V → V → V → V → Hp → Prop) (l6 : V → V → V → V → V → V → V → V → V → Hp → Prop) (l7 : V → V → V → V → V → V → Hp → Prop) (Q : V → Hp → Prop) (v1 v2 v3 v4 v5 v8 v40 v41 v42 : V) (h : Hp) : Prop :=
  p.bin .lss 3 false false v42 v41 fun x1 =>
  p.cond x1
  (fun _ =>
   p.iaddr 29 v40 v42 fun x2 =>
   p.load h 26 x2 fun x3 =>
   p.alloc h 26 fun x4 h5 b6 =>
   p.store h5 26 x4 x3 fun h7 =>
   p.load h7 24 v1 fun x8 =>
   p.load h7 26 x4 fun x9 =>
   p.call 12 [x8, x9] h7 fun x10 h11 =>
   p.lbui h11 #[29] .len [x10] fun x12 =>
   l3 v1 v2 v3 v4 v5 v8 x4 v40 v41 v42 x10 x12 (.int .i64 0) h11)
  (fun _ =>
   p.bsl h 56 0 [] fun x13 h14 b15 =>
   p.box h14 56 x13 fun x16 h17 b18 =>
   p.lbui h17 #[29] .len [v4] fun x19 =>
   l4 v2 v3 v4 v5 v8 x16 v4 x19 (.int .i64 0) h17)
theorem q_deps_Order_2 (p : Pr) (l1 : V → V → V → V → V → V → V → V → Hp → Prop) (l2 : V → V → V → V → V → V → V → V → V → Hp → Prop) (l3 : V → V → V → V → V → V → V → V → V → V → V → V → V → Hp → Prop) (l4 : V → V → V → V → V → V → V → V → V → Hp → Prop) (l5 : V → V → V → V → V → V → Hp → Prop) (l6 : V → V → V → V → V → V → V → V → V → Hp → Prop) (l7 : V → V → V → V → V → V → Hp → Prop) (Q : V → Hp → Prop) (s : List V) (h : Hp) : t_deps_Order_2 p l1 l2 l3 l4 l5 l6 l7 Q (nth s 1) (nth s 2) (nth s 3) (nth s 4) (nth s 5) (nth s 8) (nth s 40) (nth s 41) (nth s 42) h = KAt p EE (cutOf [[false, true, false, true, true, true, true], [false, true, false, true, true, true, true, true, true], [false, true, true, false, false, true, true, false, false, true, false, true, true, true, true, true, true], [false, true, false, true, true, true, true, true, true, true, true], [false, false, true, true, true, true, true, true, true, true, true], [false, true, true, true, false, true, false, false, false, true, true, true, true, true, true, true, true, true], [false, true, false, true, true, true, true, true, true, true, true, true, true]]) (X_deps_Order l1 l2 l3 l4 l5 l6 l7) c_deps_Order [] [true, true, true, true, true, true, false, true, false] (finK p Tryz.f9 Q) (nths s 150 0) h [] := by kernel_rfl
theorem r_deps_Order_2 {Q : V → Hp → Prop} {v1 v2 v3 v4 v5 v8 v40 v41 v42 : V} {h : Hp} (H : t_deps_Order_2 (Pu EE) (L_deps_Order_1 Q) (L_deps_Order_2 Q) (L_deps_Order_3 Q) (L_deps_Order_4 Q) (L_deps_Order_5 Q) (L_deps_Order_6 Q) (L_deps_Order_7 Q) Q v1 v2 v3 v4 v5 v8 v40 v41 v42 h) : L_deps_Order_2 Q v1 v2 v3 v4 v5 v8 v40 v41 v42 h := by
  intro s hl ⟨e1, e2, e3, e4, e5, e8, e40, e41, e42⟩
  subst e1 e2 e3 e4 e5 e8 e40 e41 e42
  have hl : s.length = 150 := hl
  rw [nth_all hl]
  exact lab_ofX (o_deps_Order Q) [true, true, true, true, true, true, false, true, false] (cast (q_deps_Order_2 (Pu EE) (L_deps_Order_1 Q) (L_deps_Order_2 Q) (L_deps_Order_3 Q) (L_deps_Order_4 Q) (L_deps_Order_5 Q) (L_deps_Order_6 Q) (L_deps_Order_7 Q) Q s h) H)
noncomputable def t_deps_Order_3 (p : Pr) (l1 : V → V → V → V → V → V → V → V → Hp → Prop) (l2 : V → V → V → V → V → V → V → V → V → Hp → Prop) (l3 : V → V → V → V → V → V → V → V → V → V → V → V → V → Hp → Prop) (l4 : V → V → V → V → V → V → V → V → V → Hp → Prop) (l5 : V → V → V → V → V → V → Hp → Prop) (l6 : V → V → V → V → V → V → V → V → V → Hp → Prop) (l7 : V → V → V → V → V → V → Hp → Prop) (Q : V → Hp → Prop) (v1 v2 v3 v4 v5 v8 v10 v40 v41 v42 v48 v49 v50 : V) (h : Hp) : Prop :=
  p.bin .lss 3 false false v50 v49 fun x1 =>
  p.cond x1
  (fun _ =>
   p.iaddr 29 v48 v50 fun x2 =>
   p.load h 26 x2 fun x3 =>
   p.alloc h 26 fun x4 h5 b6 =>
   p.store h5 26 x4 x3 fun h7 =>
   p.load h7 26 x4 fun x8 =>
   p.look h7 52 v5 x8 true fun x9 =>
   p.extr x9 0 fun x10 =>
   p.extr x9 1 fun x11 =>
   p.cond x11
   (fun _ =>
    p.load h7 26 v10 fun x12 =>
    p.look h7 52 v5 x12 false fun x13 =>
    p.bin .add 3 false true x13 (.int .i64 1) fun x14 =>
    p.mape h7 52 v5 x12 fun x15 h16 =>
    p.look h16 52 v5 x12 false fun x17 =>
    p.same x17 x13 (
    p.extr x15 1 fun x18 =>
    p.ests h16 v5 x18 x14 fun h19 =>
    p.load h19 26 x4 fun x20 =>
    p.load h19 26 v10 fun x21 =>
    p.bsl h19 29 1 [(0, x21)] fun x22 h23 b24 =>
    p.mape h23 53 v8 x20 fun x25 h26 =>
    p.extr x25 0 fun x27 =>
    p.ebui h26 #[29, 29] .append [x27, x22] fun x28 h29 =>
    p.extr x25 1 fun x30 =>
    p.ests h29 v8 x30 x28 fun h31 =>
    p.bin .add 3 false true v50 (.int .i64 1) fun x32 =>
    l3 v1 v2 v3 v4 v5 v8 v10 v40 v41 v42 v48 v49 x32 h31))
   (fun _ =>
    p.bin .add 3 false true v50 (.int .i64 1) fun x33 =>
    l3 v1 v2 v3 v4 v5 v8 v10 v40 v41 v42 v48 v49 x33 h7))
  (fun _ =>
   p.bin .add 3 false true v42 (.int .i64 1) fun x34 =>
   l2 v1 v2 v3 v4 v5 v8 v40 v41 x34 h)
theorem q_deps_Order_3 (p : Pr) (l1 : V → V → V → V → V → V → V → V → Hp → Prop) (l2 : V → V → V → V → V → V → V → V → V → Hp → Prop) (l3 : V → V → V → V → V → V → V → V → V → V → V → V → V → Hp → Prop) (l4 : V → V → V → V → V → V → V → V → V → Hp → Prop) (l5 : V → V → V → V → V → V → Hp → Prop) (l6 : V → V → V → V → V → V → V → V → V → Hp → Prop) (l7 : V → V → V → V → V → V → Hp → Prop) (Q : V → Hp → Prop) (s : List V) (h : Hp) : t_deps_Order_3 p l1 l2 l3 l4 l5 l6 l7 Q (nth s 1) (nth s 2) (nth s 3) (nth s 4) (nth s 5) (nth s 8) (nth s 10) (nth s 40) (nth s 41) (nth s 42) (nth s 48) (nth s 49) (nth s 50) h = KAt p EE (cutOf [[false, true, false, true, true, true, true], [false, true, false, true, true, true, true, true, true], [false, true, true, false, false, true, true, false, false, true, false, true, true, true, true, true, true], [false, true, false, true, true, true, true, true, true, true, true], [false, false, true, true, true, true, true, true, true, true, true], [false, true, true, true, false, true, false, false, false, true, true, true, true, true, true, true, true, true], [false, true, false, true, true, true, true, true, true, true, true, true, true]]) (X_deps_Order l1 l2 l3 l4 l5 l6 l7) c_deps_Order [] [true, true, true, true, true, true, false, true, false, false, true, true, false, false, true, true, false] (finK p Tryz.f9 Q) (nths s 150 0) h [] := by kernel_rfl
theorem r_deps_Order_3 {Q : V → Hp → Prop} {v1 v2 v3 v4 v5 v8 v10 v40 v41 v42 v48 v49 v50 : V} {h : Hp} (H : t_deps_Order_3 (Pu EE) (L_deps_Order_1 Q) (L_deps_Order_2 Q) (L_deps_Order_3 Q) (L_deps_Order_4 Q) (L_deps_Order_5 Q) (L_deps_Order_6 Q) (L_deps_Order_7 Q) Q v1 v2 v3 v4 v5 v8 v10 v40 v41 v42 v48 v49 v50 h) : L_deps_Order_3 Q v1 v2 v3 v4 v5 v8 v10 v40 v41 v42 v48 v49 v50 h := by
  intro s hl ⟨e1, e2, e3, e4, e5, e8, e10, e40, e41, e42, e48, e49, e50⟩
  subst e1 e2 e3 e4 e5 e8 e10 e40 e41 e42 e48 e49 e50
  have hl : s.length = 150 := hl
  rw [nth_all hl]
  exact lab_ofX (o_deps_Order Q) [true, true, true, true, true, true, false, true, false, false, true, true, false, false, true, true, false] (cast (q_deps_Order_3 (Pu EE) (L_deps_Order_1 Q) (L_deps_Order_2 Q) (L_deps_Order_3 Q) (L_deps_Order_4 Q) (L_deps_Order_5 Q) (L_deps_Order_6 Q) (L_deps_Order_7 Q) Q s h) H)
noncomputable def t_deps_Order_4 (p : Pr) (l1 : V → V → V → V → V → V → V → V → Hp → Prop) (l2 : V → V → V → V → V → V → V → V → V → Hp → Prop) (l3 : V → V → V → V → V → V → V → V → V → V → V → V → V → Hp → Prop) (l4 : V → V → V → V → V → V → V → V → V → Hp → Prop) (l5 : V → V → V → V → V → V → Hp → Prop) (l6 : V → V → V → V → V → V → V → V → V → Hp → Prop) (l7 : V → V → V → V → V → V → Hp → Prop) (Q : V → Hp → Prop) (v2 v3 v4 v5 v8 v15 v79 v80 v81 : V) (h : Hp) : Prop :=
  p.bin .lss 3 false false v81 v80 fun x1 =>
  p.cond x1
  (fun _ =>
   p.iaddr 29 v79 v81 fun x2 =>
   p.load h 26 x2 fun x3 =>
   p.alloc h 26 fun x4 h5 b6 =>
   p.store h5 26 x4 x3 fun h7 =>
   p.load h7 26 x4 fun x8 =>
   p.look h7 52 v5 x8 false fun x9 =>
   p.bin .eql 3 false true x9 (.int .i64 0) fun x10 =>
   p.cond x10
   (fun _ =>
    p.iface 55 v15 fun x11 =>
    p.load h7 26 x4 fun x12 =>
    p.iface 26 x12 fun x13 =>
    p.call 25 [x11, x13] h7 fun x14 h15 =>
    p.bin .add 3 false true v81 (.int .i64 1) fun x16 =>
    l4 v2 v3 v4 v5 v8 v15 v79 v80 x16 h15)
   (fun _ =>
    p.bin .add 3 false true v81 (.int .i64 1) fun x17 =>
    l4 v2 v3 v4 v5 v8 v15 v79 v80 x17 h7))
  (fun _ =>
   l5 v2 v3 v4 v5 v8 v15 h)
theorem q_deps_Order_4 (p : Pr) (l1 : V → V → V → V → V → V → V → V → Hp → Prop) (l2 : V → V → V → V → V → V → V → V → V → Hp → Prop) (l3 : V → V → V → V → V → V → V → V → V → V → V → V → V → Hp → Prop) (l4 : V → V → V → V → V → V → V → V → V → Hp → Prop) (l5 : V → V → V → V → V → V → Hp → Prop) (l6 : V → V → V → V → V → V → V → V → V → Hp → Prop) (l7 : V → V → V → V → V → V → Hp → Prop) (Q : V → Hp → Prop) (s : List V) (h : Hp) : t_deps_Order_4 p l1 l2 l3 l4 l5 l6 l7 Q (nth s 2) (nth s 3) (nth s 4) (nth s 5) (nth s 8) (nth s 15) (nth s 79) (nth s 80) (nth s 81) h = KAt p EE (cutOf [[false, true, false, true, true, true, true], [false, true, false, true, true, true, true, true, true], [false, true, true, false, false, true, true, false, false, true, false, true, true, true, true, true, true], [false, true, false, true, true, true, true, true, true, true, true], [false, false, true, true, true, true, true, true, true, true, true], [false, true, true, true, false, true, false, false, false, true, true, true, true, true, true, true, true, true], [false, true, false, true, true, true, true, true, true, true, true, true, true]]) (X_deps_Order l1 l2 l3 l4 l5 l6 l7) c_deps_Order [] [true, true, true, true, true, true, true, true, false, true, false] (finK p Tryz.f9 Q) (nths s 150 0) h [] := by kernel_rfl
theorem r_deps_Order_4 {Q : V → Hp → Prop} {v2 v3 v4 v5 v8 v15 v79 v80 v81 : V} {h : Hp} (H : t_deps_Order_4 (Pu EE) (L_deps_Order_1 Q) (L_deps_Order_2 Q) (L_deps_Order_3 Q) (L_deps_Order_4 Q) (L_deps_Order_5 Q) (L_deps_Order_6 Q) (L_deps_Order_7 Q) Q v2 v3 v4 v5 v8 v15 v79 v80 v81 h) : L_deps_Order_4 Q v2 v3 v4 v5 v8 v15 v79 v80 v81 h := by
  intro s hl ⟨e2, e3, e4, e5, e8, e15, e79, e80, e81⟩
  subst e2 e3 e4 e5 e8 e15 e79 e80 e81
  have hl : s.length = 150 := hl
  rw [nth_all hl]
  exact lab_ofX (o_deps_Order Q) [true, true, true, true, true, true, true, true, false, true, false] (cast (q_deps_Order_4 (Pu EE) (L_deps_Order_1 Q) (L_deps_Order_2 Q) (L_deps_Order_3 Q) (L_deps_Order_4 Q) (L_deps_Order_5 Q) (L_deps_Order_6 Q) (L_deps_Order_7 Q) Q s h) H)
noncomputable def t_deps_Order_5 (p : Pr) (l1 : V → V → V → V → V → V → V → V → Hp → Prop) (l2 : V → V → V → V → V → V → V → V → V → Hp → Prop) (l3 : V → V → V → V → V → V → V → V → V → V → V → V → V → Hp → Prop) (l4 : V → V → V → V → V → V → V → V → V → Hp → Prop) (l5 : V → V → V → V → V → V → Hp → Prop) (l6 : V → V → V → V → V → V → V → V → V → Hp → Prop) (l7 : V → V → V → V → V → V → Hp → Prop) (Q : V → Hp → Prop) (v2 v3 v4 v5 v8 v15 : V) (h : Hp) : Prop :=
  p.call 26 [v15] h fun x1 h2 =>
  p.bin .gtr 3 false true x1 (.int .i64 0) fun x3 =>
  p.cond x3
  (fun _ =>
   p.iface 55 v15 fun x4 =>
   p.call 27 [x4] h2 fun x5 h6 =>
   p.assert x5 26 true fun x7 =>
   p.extr x7 0 fun x8 =>
   p.extr x7 1 fun x9 =>
   p.alloc h6 26 fun x10 h11 b12 =>
   p.store h11 26 x10 x8 fun h13 =>
   p.load h13 26 x10 fun x14 =>
   p.bsl h13 29 1 [(0, x14)] fun x15 h16 b17 =>
   p.ebui h16 #[29, 29] .append [v2, x15] fun x18 h19 =>
   p.load h19 26 x10 fun x20 =>
   p.look h19 53 v8 x20 false fun x21 =>
   p.lbui h19 #[29] .len [x21] fun x22 =>
   l6 x18 v3 v4 v5 v8 v15 x21 x22 (.int .i64 0) h19)
  (fun _ =>
   p.lbui h2 #[29] .len [v4] fun x23 =>
   l7 v2 v3 v5 v4 x23 (.int .i64 0) h2)
theorem q_deps_Order_5 (p : Pr) (l1 : V → V → V → V → V → V → V → V → Hp → Prop) (l2 : V → V → V → V → V → V → V → V → V → Hp → Prop) (l3 : V → V → V → V → V → V → V → V → V → V → V → V → V → Hp → Prop) (l4 : V → V → V → V → V → V → V → V → V → Hp → Prop) (l5 : V → V → V → V → V → V → Hp → Prop) (l6 : V → V → V → V → V → V → V → V → V → Hp → Prop) (l7 : V → V → V → V → V → V → Hp → Prop) (Q : V → Hp → Prop) (s : List V) (h : Hp) : t_deps_Order_5 p l1 l2 l3 l4 l5 l6 l7 Q (nth s 2) (nth s 3) (nth s 4) (nth s 5) (nth s 8) (nth s 15) h = KAt p EE (cutOf [[false, true, false, true, true, true, true], [false, true, false, true, true, true, true, true, true], [false, true, true, false, false, true, true, false, false, true, false, true, true, true, true, true, true], [false, true, false, true, true, true, true, true, true, true, true], [false, false, true, true, true, true, true, true, true, true, true], [false, true, true, true, false, true, false, false, false, true, true, true, true, true, true, true, true, true], [false, true, false, true, true, true, true, true, true, true, true, true, true]]) (X_deps_Order l1 l2 l3 l4 l5 l6 l7) c_deps_Order [] [true, true, true, true, true, true, true, true, true, false, false] (finK p Tryz.f9 Q) (nths s 150 0) h [] := by kernel_rfl
theorem r_deps_Order_5 {Q : V → Hp → Prop} {v2 v3 v4 v5 v8 v15 : V} {h : Hp} (H : t_deps_Order_5 (Pu EE) (L_deps_Order_1 Q) (L_deps_Order_2 Q) (L_deps_Order_3 Q) (L_deps_Order_4 Q) (L_deps_Order_5 Q) (L_deps_Order_6 Q) (L_deps_Order_7 Q) Q v2 v3 v4 v5 v8 v15 h) : L_deps_Order_5 Q v2 v3 v4 v5 v8 v15 h := by
  intro s hl ⟨e2, e3, e4, e5, e8, e15⟩
  subst e2 e3 e4 e5 e8 e15
  have hl : s.length = 150 := hl
  rw [nth_all hl]
  exact lab_ofX (o_deps_Order Q) [true, true, true, true, true, true, true, true, true, false, false] (cast (q_deps_Order_5 (Pu EE) (L_deps_Order_1 Q) (L_deps_Order_2 Q) (L_deps_Order_3 Q) (L_deps_Order_4 Q) (L_deps_Order_5 Q) (L_deps_Order_6 Q) (L_deps_Order_7 Q) Q s h) H)
noncomputable def t_deps_Order_6 (p : Pr) (l1 : V → V → V → V → V → V → V → V → Hp → Prop) (l2 : V → V → V → V → V → V → V → V → V → Hp → Prop) (l3 : V → V → V → V → V → V → V → V → V → V → V → V → V → Hp → Prop) (l4 : V → V → V → V → V → V → V → V → V → Hp → Prop) (l5 : V → V → V → V → V → V → Hp → Prop) (l6 : V → V → V → V → V → V → V → V → V → Hp → Prop) (l7 : V → V → V → V → V → V → Hp → Prop) (Q : V → Hp → Prop) (v2 v3 v4 v5 v8 v15 v111 v112 v113 : V) (h : Hp) : Prop :=
  p.bin .lss 3 false false v113 v112 fun x1 =>
  p.cond x1
  (fun _ =>
   p.iaddr 29 v111 v113 fun x2 =>
   p.load h 26 x2 fun x3 =>
   p.alloc h 26 fun x4 h5 b6 =>
   p.store h5 26 x4 x3 fun h7 =>
   p.load h7 26 x4 fun x8 =>
   p.look h7 52 v5 x8 false fun x9 =>
   p.bin .sub 3 false true x9 (.int .i64 1) fun x10 =>
   p.mape h7 52 v5 x8 fun x11 h12 =>
   p.look h12 52 v5 x8 false fun x13 =>
   p.same x13 x9 (
   p.extr x11 1 fun x14 =>
   p.ests h12 v5 x14 x10 fun h15 =>
   p.load h15 26 x4 fun x16 =>
   p.look h15 52 v5 x16 false fun x17 =>
   p.bin .eql 3 false true x17 (.int .i64 0) fun x18 =>
   p.cond x18
   (fun _ =>
    p.iface 55 v15 fun x19 =>
    p.load h15 26 x4 fun x20 =>
    p.iface 26 x20 fun x21 =>
    p.call 25 [x19, x21] h15 fun x22 h23 =>
    p.bin .add 3 false true v113 (.int .i64 1) fun x24 =>
    l6 v2 v3 v4 v5 v8 v15 v111 v112 x24 h23)
   (fun _ =>
    p.bin .add 3 false true v113 (.int .i64 1) fun x25 =>
    l6 v2 v3 v4 v5 v8 v15 v111 v112 x25 h15)))
  (fun _ =>
   l5 v2 v3 v4 v5 v8 v15 h)
theorem q_deps_Order_6 (p : Pr) (l1 : V → V → V → V → V → V → V → V → Hp → Prop) (l2 : V → V → V → V → V → V → V → V → V → Hp → Prop) (l3 : V → V → V → V → V → V → V → V → V → V → V → V → V → Hp → Prop) (l4 : V → V → V → V → V → V → V → V → V → Hp → Prop) (l5 : V → V → V → V → V → V → Hp → Prop) (l6 : V → V → V → V → V → V → V → V → V → Hp → Prop) (l7 : V → V → V → V → V → V → Hp → Prop) (Q : V → Hp → Prop) (s : List V) (h : Hp) : t_deps_Order_6 p l1 l2 l3 l4 l5 l6 l7 Q (nth s 2) (nth s 3) (nth s 4) (nth s 5) (nth s 8) (nth s 15) (nth s 111) (nth s 112) (nth s 113) h = KAt p EE (cutOf [[false, true, false, true, true, true, true], [false, true, false, true, true, true, true, true, true], [false, true, true, false, false, true, true, false, false, true, false, true, true, true, true, true, true], [false, true, false, true, true, true, true, true, true, true, true], [false, false, true, true, true, true, true, true, true, true, true], [false, true, true, true, false, true, false, false, false, true, true, true, true, true, true, true, true, true], [false, true, false, true, true, true, true, true, true, true, true, true, true]]) (X_deps_Order l1 l2 l3 l4 l5 l6 l7) c_deps_Order [] [true, true, true, true, true, true, true, true, true, false, false, false, true, false, true, true, true, false] (finK p Tryz.f9 Q) (nths s 150 0) h [] := by kernel_rfl
theorem r_deps_Order_6 {Q : V → Hp → Prop} {v2 v3 v4 v5 v8 v15 v111 v112 v113 : V} {h : Hp} (H : t_deps_Order_6 (Pu EE) (L_deps_Order_1 Q) (L_deps_Order_2 Q) (L_deps_Order_3 Q) (L_deps_Order_4 Q) (L_deps_Order_5 Q) (L_deps_Order_6 Q) (L_deps_Order_7 Q) Q v2 v3 v4 v5 v8 v15 v111 v112 v113 h) : L_deps_Order_6 Q v2 v3 v4 v5 v8 v15 v111 v112 v113 h := by
  intro s hl ⟨e2, e3, e4, e5, e8, e15, e111, e112, e113⟩
  subst e2 e3 e4 e5 e8 e15 e111 e112 e113
  have hl : s.length = 150 := hl
  rw [nth_all hl]
  exact lab_ofX (o_deps_Order Q) [true, true, true, true, true, true, true, true, true, false, false, false, true, false, true, true, true, false] (cast (q_deps_Order_6 (Pu EE) (L_deps_Order_1 Q) (L_deps_Order_2 Q) (L_deps_Order_3 Q) (L_deps_Order_4 Q) (L_deps_Order_5 Q) (L_deps_Order_6 Q) (L_deps_Order_7 Q) Q s h) H)
noncomputable def t_deps_Order_7 (p : Pr) (l1 : V → V → V → V → V → V → V → V → Hp → Prop) (l2 : V → V → V → V → V → V → V → V → V → Hp → Prop) (l3 : V → V → V → V → V → V → V → V → V → V → V → V → V → Hp → Prop) (l4 : V → V → V → V → V → V → V → V → V → Hp → Prop) (l5 : V → V → V → V → V → V → Hp → Prop) (l6 : V → V → V → V → V → V → V → V → V → Hp → Prop) (l7 : V → V → V → V → V → V → Hp → Prop) (Q : V → Hp → Prop) (v2 v3 v5 v133 v134 v135 : V) (h : Hp) : Prop :=
  p.bin .lss 3 false false v135 v134 fun x1 =>
  p.cond x1
  (fun _ =>
   p.iaddr 29 v133 v135 fun x2 =>
   p.load h 26 x2 fun x3 =>
   p.alloc h 26 fun x4 h5 b6 =>
   p.store h5 26 x4 x3 fun h7 =>
   p.load h7 26 x4 fun x8 =>
   p.look h7 52 v5 x8 false fun x9 =>
   p.bin .gtr 3 false true x9 (.int .i64 0) fun x10 =>
   p.cond x10
   (fun _ =>
    p.load h7 26 x4 fun x11 =>
    p.bsl h7 29 1 [(0, x11)] fun x12 h13 b14 =>
    p.ebui h13 #[29, 29] .append [v3, x12] fun x15 h16 =>
    p.bin .add 3 false true v135 (.int .i64 1) fun x17 =>
    l7 v2 x15 v5 v133 v134 x17 h16)
   (fun _ =>
    p.bin .add 3 false true v135 (.int .i64 1) fun x18 =>
    l7 v2 v3 v5 v133 v134 x18 h7))
  (fun _ =>
   Q (.tup [v2, v3]) h)
theorem q_deps_Order_7 (p : Pr) (l1 : V → V → V → V → V → V → V → V → Hp → Prop) (l2 : V → V → V → V → V → V → V → V → V → Hp → Prop) (l3 : V → V → V → V → V → V → V → V → V → V → V → V → V → Hp → Prop) (l4 : V → V → V → V → V → V → V → V → V → Hp → Prop) (l5 : V → V → V → V → V → V → Hp → Prop) (l6 : V → V → V → V → V → V → V → V → V → Hp → Prop) (l7 : V → V → V → V → V → V → Hp → Prop) (Q : V → Hp → Prop) (s : List V) (h : Hp) : t_deps_Order_7 p l1 l2 l3 l4 l5 l6 l7 Q (nth s 2) (nth s 3) (nth s 5) (nth s 133) (nth s 134) (nth s 135) h = KAt p EE (cutOf [[false, true, false, true, true, true, true], [false, true, false, true, true, true, true, true, true], [false, true, true, false, false, true, true, false, false, true, false, true, true, true, true, true, true], [false, true, false, true, true, true, true, true, true, true, true], [false, false, true, true, true, true, true, true, true, true, true], [false, true, true, true, false, true, false, false, false, true, true, true, true, true, true, true, true, true], [false, true, false, true, true, true, true, true, true, true, true, true, true]]) (X_deps_Order l1 l2 l3 l4 l5 l6 l7) c_deps_Order [] [true, true, true, true, true, true, true, true, true, true, false, true, false] (finK p Tryz.f9 Q) (nths s 150 0) h [] := by kernel_rfl
theorem r_deps_Order_7 {Q : V → Hp → Prop} {v2 v3 v5 v133 v134 v135 : V} {h : Hp} (H : t_deps_Order_7 (Pu EE) (L_deps_Order_1 Q) (L_deps_Order_2 Q) (L_deps_Order_3 Q) (L_deps_Order_4 Q) (L_deps_Order_5 Q) (L_deps_Order_6 Q) (L_deps_Order_7 Q) Q v2 v3 v5 v133 v134 v135 h) : L_deps_Order_7 Q v2 v3 v5 v133 v134 v135 h := by
  intro s hl ⟨e2, e3, e5, e133, e134, e135⟩
  subst e2 e3 e5 e133 e134 e135
  have hl : s.length = 150 := hl
  rw [nth_all hl]
  exact lab_ofX (o_deps_Order Q) [true, true, true, true, true, true, true, true, true, true, false, true, false] (cast (q_deps_Order_7 (Pu EE) (L_deps_Order_1 Q) (L_deps_Order_2 Q) (L_deps_Order_3 Q) (L_deps_Order_4 Q) (L_deps_Order_5 Q) (L_deps_Order_6 Q) (L_deps_Order_7 Q) Q s h) H)
noncomputable def c_law10_Book : Code := match Tryz.f14.body with | some c => c | none => .skip
theorem b_law10_Book : Tryz.f14.body = some c_law10_Book := by kernel_rfl
theorem e_law10_Book : EE.fn.get 14 = some Tryz.f14 := by kernel_rfl
noncomputable def L_law10_Book_1 (Q : V → Hp → Prop) (v0 v1 v4 v5 v6 v7 : V) (h : Hp) : Prop := ∀ s : List V, s.length = (Tryz.f14).ntmps → nth s 0 = v0 ∧ nth s 1 = v1 ∧ nth s 4 = v4 ∧ nth s 5 = v5 ∧ nth s 6 = v6 ∧ nth s 7 = v7 → Lab EE Tryz.f14 c_law10_Book Q [false, true, false, true, true, true] s h []
noncomputable def L_law10_Book_2 (Q : V → Hp → Prop) (v0 v1 v4 v5 v6 v7 v8 v9 : V) (h : Hp) : Prop := ∀ s : List V, s.length = (Tryz.f14).ntmps → nth s 0 = v0 ∧ nth s 1 = v1 ∧ nth s 4 = v4 ∧ nth s 5 = v5 ∧ nth s 6 = v6 ∧ nth s 7 = v7 ∧ nth s 8 = v8 ∧ nth s 9 = v9 → Lab EE Tryz.f14 c_law10_Book Q [false, true, false, true, false, false, true, false, false, true, false, true, true, true] s h []
noncomputable def L_law10_Book_3 (Q : V → Hp → Prop) (v0 v1 v4 v5 v6 v7 v8 v9 v10 v11 : V) (h : Hp) : Prop := ∀ s : List V, s.length = (Tryz.f14).ntmps → nth s 0 = v0 ∧ nth s 1 = v1 ∧ nth s 4 = v4 ∧ nth s 5 = v5 ∧ nth s 6 = v6 ∧ nth s 7 = v7 ∧ nth s 8 = v8 ∧ nth s 9 = v9 ∧ nth s 10 = v10 ∧ nth s 11 = v11 → Lab EE Tryz.f14 c_law10_Book Q [false, true, false, true, false, false, true, false, false, true, false, true, false, false, true, false, false, true, false, true, true, true] s h []
noncomputable def X_law10_Book (l1 : V → V → V → V → V → V → Hp → Prop) (l2 : V → V → V → V → V → V → V → V → Hp → Prop) (l3 : V → V → V → V → V → V → V → V → V → V → Hp → Prop) : Lb := fun π s h d => match d with
  | [] => bif eqB [false, true, false, true, true, true] π then l1 (nth s 0) (nth s 1) (nth s 4) (nth s 5) (nth s 6) (nth s 7) h else bif eqB [false, true, false, true, false, false, true, false, false, true, false, true, true, true] π then l2 (nth s 0) (nth s 1) (nth s 4) (nth s 5) (nth s 6) (nth s 7) (nth s 8) (nth s 9) h else bif eqB [false, true, false, true, false, false, true, false, false, true, false, true, false, false, true, false, false, true, false, true, true, true] π then l3 (nth s 0) (nth s 1) (nth s 4) (nth s 5) (nth s 6) (nth s 7) (nth s 8) (nth s 9) (nth s 10) (nth s 11) h else False
  | _ => False
theorem o_law10_Book (Q : V → Hp → Prop) : ∀ π s h d, X_law10_Book (L_law10_Book_1 Q) (L_law10_Book_2 Q) (L_law10_Book_3 Q) π s h d → s.length = (Tryz.f14).ntmps → Lab EE Tryz.f14 c_law10_Book Q π s h d := by
  intro π s h d hx hl
  cases d with
  | cons _ _ => exact hx.elim
  | nil =>
    simp only [X_law10_Book] at hx
    cases hk : eqB [false, true, false, true, true, true] π with
    | true => rw [hk, cond_true] at hx; rw [← eqB_eq hk]; exact hx s hl ⟨rfl, rfl, rfl, rfl, rfl, rfl⟩
    | false =>
    rw [hk, cond_false] at hx
    cases hk : eqB [false, true, false, true, false, false, true, false, false, true, false, true, true, true] π with
    | true => rw [hk, cond_true] at hx; rw [← eqB_eq hk]; exact hx s hl ⟨rfl, rfl, rfl, rfl, rfl, rfl, rfl, rfl⟩
    | false =>
    rw [hk, cond_false] at hx
    cases hk : eqB [false, true, false, true, false, false, true, false, false, true, false, true, false, false, true, false, false, true, false, true, true, true] π with
    | true => rw [hk, cond_true] at hx; rw [← eqB_eq hk]; exact hx s hl ⟨rfl, rfl, rfl, rfl, rfl, rfl, rfl, rfl, rfl, rfl⟩
    | false =>
    rw [hk, cond_false] at hx
    exact hx.elim
noncomputable def t_law10_Book_0 (p : Pr) (l1 : V → V → V → V → V → V → Hp → Prop) (l2 : V → V → V → V → V → V → V → V → Hp → Prop) (l3 : V → V → V → V → V → V → V → V → V → V → Hp → Prop) (Q : V → Hp → Prop) (v0 v1 : V) (h : Hp) : Prop :=
  p.alloc h 24 fun x1 h2 b3 =>
  p.alloc h2 24 fun x4 h5 b6 =>
  l1 v0 v1 x1 x4 (.int .i64 0) (.int .i64 0) h5
theorem q_law10_Book_0 (p : Pr) (l1 : V → V → V → V → V → V → Hp → Prop) (l2 : V → V → V → V → V → V → V → V → Hp → Prop) (l3 : V → V → V → V → V → V → V → V → V → V → Hp → Prop) (Q : V → Hp → Prop) (v0 v1 : V) (h : Hp) : t_law10_Book_0 p l1 l2 l3 Q v0 v1 h = KAt p EE (cutOf [[false, true, false, true, true, true], [false, true, false, true, false, false, true, false, false, true, false, true, true, true], [false, true, false, true, false, false, true, false, false, true, false, true, false, false, true, false, false, true, false, true, true, true]]) (X_law10_Book l1 l2 l3) c_law10_Book [] [] (finK p Tryz.f14 Q) ([v0, v1] ++ List.replicate 83 u0) h [] := by kernel_rfl
theorem a_law10_Book {Q : V → Hp → Prop} {v0 v1 : V} {h : Hp} (H : t_law10_Book_0 (Pu EE) (L_law10_Book_1 Q) (L_law10_Book_2 Q) (L_law10_Book_3 Q) Q v0 v1 h) : Ans EE 14 [v0, v1] h Q :=
  ans_of (by kernel_rfl) e_law10_Book b_law10_Book (by kernel_rfl) (lab_ofX (o_law10_Book Q) [] (cast (q_law10_Book_0 (Pu EE) (L_law10_Book_1 Q) (L_law10_Book_2 Q) (L_law10_Book_3 Q) Q v0 v1 h) H))
noncomputable def t_law10_Book_1 (p : Pr) (l1 : V → V → V → V → V → V → Hp → Prop) (l2 : V → V → V → V → V → V → V → V → Hp → Prop) (l3 : V → V → V → V → V → V → V → V → V → V → Hp → Prop) (Q : V → Hp → Prop) (v0 v1 v4 v5 v6 v7 : V) (h : Hp) : Prop :=
  p.conv h 5 3 v1 fun x1 =>
  p.bin .rem 3 false true x1 (.int .i64 3) fun x2 =>
  p.bin .add 3 true false (.int .i64 1) x2 fun x3 =>
  p.bin .lss 3 false false v7 x3 fun x4 =>
  p.cond x4
  (fun _ =>
   p.bin .add 3 true false (.int .i64 65) v7 fun x5 =>
   p.conv h 5 3 v1 fun x6 =>
   p.bin .quo 3 false true x6 (.int .i64 64) fun x7 =>
   p.bin .mul 3 false false x7 v7 fun x8 =>
   p.bin .add 3 false false x5 x8 fun x9 =>
   p.conv h 3 5 x9 fun x10 =>
   p.bsl h 35 1 [(0, x10)] fun x11 h12 b13 =>
   p.conv h12 35 9 x11 fun x14 =>
   p.conv h12 5 3 v1 fun x15 =>
   p.bin .quo 3 false true x15 (.int .i64 3) fun x16 =>
   p.bin .rem 3 false true x16 (.int .i64 4) fun x17 =>
   p.bin .add 3 true false (.int .i64 1) x17 fun x18 =>
   p.build 48 [(0, x14), (1, x18)] fun x19 =>
   p.alloc h12 48 fun x20 h21 b22 =>
   p.store h21 48 x20 x19 fun h23 =>
   l2 v0 v1 v4 v5 v6 v7 x20 (.int .i64 0) h23)
  (fun _ =>
   p.load h 24 v5 fun x24 =>
   p.store h 24 v4 x24 fun h25 =>
   p.load h25 24 v4 fun x26 =>
   Q x26 h25)
theorem q_law10_Book_1 (p : Pr) (l1 : V → V → V → V → V → V → Hp → Prop) (l2 : V → V → V → V → V → V → V → V → Hp → Prop) (l3 : V → V → V → V → V → V → V → V → V → V → Hp → Prop) (Q : V → Hp → Prop) (s : List V) (h : Hp) : t_law10_Book_1 p l1 l2 l3 Q (nth s 0) (nth s 1) (nth s 4) (nth s 5) (nth s 6) (nth s 7) h = KAt p EE (cutOf [[false, true, false, true, true, true], [false, true, false, true, false, false, true, false, false, true, false, true, true, true], [false, true, false, true, false, false, true, false, false, true, false, true, false, false, true, false, false, true, false, true, true, true]]) (X_law10_Book l1 l2 l3) c_law10_Book [] [true, true, true, false, true, false] (finK p Tryz.f14 Q) (nths s 85 0) h [] := by kernel_rfl
theorem r_law10_Book_1 {Q : V → Hp → Prop} {v0 v1 v4 v5 v6 v7 : V} {h : Hp} (H : t_law10_Book_1 (Pu EE) (L_law10_Book_1 Q) (L_law10_Book_2 Q) (L_law10_Book_3 Q) Q v0 v1 v4 v5 v6 v7 h) : L_law10_Book_1 Q v0 v1 v4 v5 v6 v7 h := by
  intro s hl ⟨e0, e1, e4, e5, e6, e7⟩
  subst e0 e1 e4 e5 e6 e7
  have hl : s.length = 85 := hl
  rw [nth_all hl]
  exact lab_ofX (o_law10_Book Q) [true, true, true, false, true, false] (cast (q_law10_Book_1 (Pu EE) (L_law10_Book_1 Q) (L_law10_Book_2 Q) (L_law10_Book_3 Q) Q s h) H)
noncomputable def t_law10_Book_2 (p : Pr) (l1 : V → V → V → V → V → V → Hp → Prop) (l2 : V → V → V → V → V → V → V → V → Hp → Prop) (l3 : V → V → V → V → V → V → V → V → V → V → Hp → Prop) (Q : V → Hp → Prop) (v0 v1 v4 v5 v6 v7 v8 v9 : V) (h : Hp) : Prop :=
  p.conv h 5 3 v1 fun x1 =>
  p.bin .quo 3 false true x1 (.int .i64 12) fun x2 =>
  p.bin .rem 3 false true x2 (.int .i64 5) fun x3 =>
  p.bin .add 3 true false (.int .i64 1) x3 fun x4 =>
  p.bin .lss 3 false false v9 x4 fun x5 =>
  p.cond x5
  (fun _ =>
   p.faddr 48 v8 1 fun x6 =>
   p.load h 3 x6 fun x7 =>
   p.mksl h 49 x7 x7 fun x8 h9 b10 =>
   l3 v0 v1 v4 v5 v6 v7 v8 v9 x8 (.int .i64 0) h9)
  (fun _ =>
   p.faddr 24 v5 0 fun x11 =>
   p.load h 22 x11 fun x12 =>
   p.load h 48 v8 fun x13 =>
   p.bsl h 22 1 [(0, x13)] fun x14 h15 b16 =>
   p.ebui h15 #[22, 22] .append [x12, x14] fun x17 h18 =>
   p.faddr 24 v5 0 fun x19 =>
   p.store h18 22 x19 x17 fun h20 =>
   p.bin .add 3 false true v7 (.int .i64 1) fun x21 =>
   l1 v0 v1 v4 v5 v6 x21 h20)
theorem q_law10_Book_2 (p : Pr) (l1 : V → V → V → V → V → V → Hp → Prop) (l2 : V → V → V → V → V → V → V → V → Hp → Prop) (l3 : V → V → V → V → V → V → V → V → V → V → Hp → Prop) (Q : V → Hp → Prop) (s : List V) (h : Hp) : t_law10_Book_2 p l1 l2 l3 Q (nth s 0) (nth s 1) (nth s 4) (nth s 5) (nth s 6) (nth s 7) (nth s 8) (nth s 9) h = KAt p EE (cutOf [[false, true, false, true, true, true], [false, true, false, true, false, false, true, false, false, true, false, true, true, true], [false, true, false, true, false, false, true, false, false, true, false, true, false, false, true, false, false, true, false, true, true, true]]) (X_law10_Book l1 l2 l3) c_law10_Book [] [true, true, true, false, true, false, false, true, false, false, true, false, true, false] (finK p Tryz.f14 Q) (nths s 85 0) h [] := by kernel_rfl
theorem r_law10_Book_2 {Q : V → Hp → Prop} {v0 v1 v4 v5 v6 v7 v8 v9 : V} {h : Hp} (H : t_law10_Book_2 (Pu EE) (L_law10_Book_1 Q) (L_law10_Book_2 Q) (L_law10_Book_3 Q) Q v0 v1 v4 v5 v6 v7 v8 v9 h) : L_law10_Book_2 Q v0 v1 v4 v5 v6 v7 v8 v9 h := by
  intro s hl ⟨e0, e1, e4, e5, e6, e7, e8, e9⟩
  subst e0 e1 e4 e5 e6 e7 e8 e9
  have hl : s.length = 85 := hl
  rw [nth_all hl]
  exact lab_ofX (o_law10_Book Q) [true, true, true, false, true, false, false, true, false, false, true, false, true, false] (cast (q_law10_Book_2 (Pu EE) (L_law10_Book_1 Q) (L_law10_Book_2 Q) (L_law10_Book_3 Q) Q s h) H)
noncomputable def t_law10_Book_3 (p : Pr) (l1 : V → V → V → V → V → V → Hp → Prop) (l2 : V → V → V → V → V → V → V → V → Hp → Prop) (l3 : V → V → V → V → V → V → V → V → V → V → Hp → Prop) (Q : V → Hp → Prop) (v0 v1 v4 v5 v6 v7 v8 v9 v10 v11 : V) (h : Hp) : Prop :=
  p.faddr 48 v8 1 fun x1 =>
  p.load h 3 x1 fun x2 =>
  p.bin .lss 3 false false v11 x2 fun x3 =>
  p.gval x3 true (fun k4 =>
   k4 v6) fun x5 =>
  p.gval x3 true (fun k6 =>
   k6 v0) fun x7 =>
  p.gval x3 true (fun k8 =>
   p.lbui h #[35] .len [x7] fun x9 =>
   k8 x9) fun x10 =>
  p.gval x3 true (fun k11 =>
   p.bin .lss 3 false false x5 x10 fun x12 =>
   k11 x12) fun x13 =>
  p.pick x3 (some x13) (some (.bool false)) fun x14 =>
  p.cond x14
  (fun _ =>
   p.iaddr 35 v0 v6 fun x15 =>
   p.load h 5 x15 fun x16 =>
   p.conv h 5 3 x16 fun x17 =>
   p.call 34 [x17] h fun x18 h19 =>
   p.iaddr 49 v10 v11 fun x20 =>
   p.store h19 9 x20 x18 fun h21 =>
   p.bin .add 3 false true v6 (.int .i64 1) fun x22 =>
   p.bin .add 3 false true v11 (.int .i64 1) fun x23 =>
   l3 v0 v1 v4 v5 x22 v7 v8 v9 v10 x23 h21)
  (fun _ =>
   p.faddr 48 v8 2 fun x24 =>
   p.load h 46 x24 fun x25 =>
   p.bsl h 46 1 [(0, v10)] fun x26 h27 b28 =>
   p.ebui h27 #[46, 46] .append [x25, x26] fun x29 h30 =>
   p.faddr 48 v8 2 fun x31 =>
   p.store h30 46 x31 x29 fun h32 =>
   p.bin .add 3 false true v9 (.int .i64 1) fun x33 =>
   l2 v0 v1 v4 v5 v6 v7 v8 x33 h32)
theorem q_law10_Book_3 (p : Pr) (l1 : V → V → V → V → V → V → Hp → Prop) (l2 : V → V → V → V → V → V → V → V → Hp → Prop) (l3 : V → V → V → V → V → V → V → V → V → V → Hp → Prop) (Q : V → Hp → Prop) (s : List V) (h : Hp) : t_law10_Book_3 p l1 l2 l3 Q (nth s 0) (nth s 1) (nth s 4) (nth s 5) (nth s 6) (nth s 7) (nth s 8) (nth s 9) (nth s 10) (nth s 11) h = KAt p EE (cutOf [[false, true, false, true, true, true], [false, true, false, true, false, false, true, false, false, true, false, true, true, true], [false, true, false, true, false, false, true, false, false, true, false, true, false, false, true, false, false, true, false, true, true, true]]) (X_law10_Book l1 l2 l3) c_law10_Book [] [true, true, true, false, true, false, false, true, false, false, true, false, true, false, false, true, false, false, true, false, true, false] (finK p Tryz.f14 Q) (nths s 85 0) h [] := by kernel_rfl
theorem r_law10_Book_3 {Q : V → Hp → Prop} {v0 v1 v4 v5 v6 v7 v8 v9 v10 v11 : V} {h : Hp} (H : t_law10_Book_3 (Pu EE) (L_law10_Book_1 Q) (L_law10_Book_2 Q) (L_law10_Book_3 Q) Q v0 v1 v4 v5 v6 v7 v8 v9 v10 v11 h) : L_law10_Book_3 Q v0 v1 v4 v5 v6 v7 v8 v9 v10 v11 h := by
  intro s hl ⟨e0, e1, e4, e5, e6, e7, e8, e9, e10, e11⟩
  subst e0 e1 e4 e5 e6 e7 e8 e9 e10 e11
  have hl : s.length = 85 := hl
  rw [nth_all hl]
  exact lab_ofX (o_law10_Book Q) [true, true, true, false, true, false, false, true, false, false, true, false, true, false, false, true, false, false, true, false, true, false] (cast (q_law10_Book_3 (Pu EE) (L_law10_Book_1 Q) (L_law10_Book_2 Q) (L_law10_Book_3 Q) Q s h) H)
end
end Go.Proofs.YtlllhhjlfmhmlaaGreatDoor.VM
namespace Go.Proofs.YtlllhhjlfmhmlaaGreatDoor.VM
open Go
set_option linter.unusedVariables false
set_option linter.unusedSectionVars false
set_option linter.unusedSimpArgs false
set_option maxRecDepth 20000
noncomputable section
attribute [local instance] syZ
/-! ### arithmetic -/
theorem w8 (n : Nat) (h : n < 256) : IntKind.u8.wrap (n : Int) = (n : Int) := by
  unfold IntKind.wrap
  simp [IntKind.bits, IntKind.signed]
  omega
theorem conv8 (n : Nat) (h : n < 256) (hp : Hp) (q : V → Prop) : (Pu EE).conv hp 5 3 (.int .u8 n) q ↔ q (.int .i64 n) := by
  obtain ⟨i, h1, h2⟩ := i_uint8
  obtain ⟨j, h3, h4⟩ := i_int
  rw [pu_conv_int hp _ _ i j .i64 .u8 h1 h3 h4, w64 _ (by omega)]
theorem to8 (n : Nat) (h : n < 256) (hp : Hp) (q : V → Prop) : (Pu EE).conv hp 3 5 (.int .i64 n) q ↔ q (.int .u8 n) := by
  obtain ⟨i, h1, h2⟩ := i_int
  obtain ⟨j, h3, h4⟩ := i_uint8
  rw [pu_conv_int hp _ _ i j .u8 .i64 h1 h3 h4, w8 _ h]
theorem remN (a b : Nat) (hb : 0 < b) (t : Nat) (cx cy : Bool) (q : V → Prop) : (Pu EE).bin .rem t cx cy (.int .i64 a) (.int .i64 b) q ↔ q (.int .i64 ((a % b : Nat) : Int)) := by
  rw [pu_rem _ _ _ _ _ _ (by omega)]
  have : (a : Int).tmod (b : Int) = ((a % b : Nat) : Int) := by rw [Int.tmod_eq_emod_of_nonneg (by omega)]; omega
  rw [this]
theorem quoN (a b : Nat) (ha : a < 1000000) (hb : 0 < b) (t : Nat) (cx cy : Bool) (q : V → Prop) : (Pu EE).bin .quo t cx cy (.int .i64 a) (.int .i64 b) q ↔ q (.int .i64 ((a / b : Nat) : Int)) := by
  rw [pu_quo _ _ _ _ _ _ (by omega)]
  have : (a : Int).tdiv (b : Int) = ((a / b : Nat) : Int) := by rw [Int.tdiv_eq_ediv_of_nonneg (by omega)]; omega
  have h2 : a / b ≤ a := Nat.div_le_self _ _
  rw [this, w64 _ (by omega)]
theorem addN (a b : Nat) (h : a + b < 1000000) (t : Nat) (cx cy : Bool) (q : V → Prop) : (Pu EE).bin .add t cx cy (.int .i64 a) (.int .i64 b) q ↔ q (.int .i64 ((a + b : Nat) : Int)) := by
  rw [pu_add, show (a : Int) + (b : Int) = ((a + b : Nat) : Int) by omega, w64 _ (by omega)]
theorem mulN (a b : Nat) (h : a * b < 1000000) (t : Nat) (cx cy : Bool) (q : V → Prop) : (Pu EE).bin .mul t cx cy (.int .i64 a) (.int .i64 b) q ↔ q (.int .i64 ((a * b : Nat) : Int)) := by
  rw [pu_mul, show (a : Int) * (b : Int) = ((a * b : Nat) : Int) by rw [Int.natCast_mul], w64 _ (by omega)]
/-! ### texts -/
theorem memoH_tx (n : Nat) (h : Hp) : ∀ l : List Nat, n ∈ l → memoH (l.map txMemo) [.int .i64 (Int.ofNat n)] h = some (.str (txt n), h.app [])
  | [], hn => by cases hn
  | m :: l, hn => by
    rw [List.map_cons, memoH]
    have e : eqS (txMemo m).al [.int .i64 (Int.ofNat n)] = decide (m = n) := by
      show (bif keq .i64 .i64 && ieq (Int.ofNat m) (Int.ofNat n) then eqS [] [] else false) = _
      rw [ieq_dec, keq_refl, show decide (Int.ofNat m = Int.ofNat n) = decide (m = n) from by rw [decide_eq_decide]; exact ⟨Int.ofNat.inj, fun e => by rw [e]⟩]
      by_cases h : m = n
      · subst h; simp [eqS]
      · simp [h, eqS]
    rw [e]
    by_cases hmn : m = n
    · subst hmn
      rw [decide_eq_true rfl, cond_true]
      simp [txMemo, V.ren]
    · rw [decide_eq_false hmn, cond_false]
      refine memoH_tx n h l ?_
      rcases List.mem_cons.1 hn with e | e
      · exact absurd e.symm hmn
      · exact e
theorem hook_T : EE.hook 34 = some (memoH txM) := by kernel_rfl
theorem text_ok {n : Nat} (hn : n < 256) (h : Hp) : Ans EE 34 [.int .i64 n] h fun v h' => v = .str (txt n) ∧ Ext h.n h h' :=
  ⟨_, _, Cs.hook hook_T (memoH_tx n h _ (List.mem_range.2 hn)), rfl, by simp [Hp.app], fun b hb => Hp.get_app_old _ _ hb⟩
/-! ### rows that are done -/
theorem Rd.same {h h' : Hp} {sz : Nat} {v : V} {len : Nat} {cs : List V} (r : Rd h sz v len cs) (e : ∀ c, blkOf v = some c → h'.t.get c = h.t.get c) : Rd h' sz v len cs := by
  refine ⟨r.sized, r.at_.imp id ?_⟩
  rintro ⟨b, off, vs, h1, h2, h3⟩
  refine ⟨b, off, vs, ?_, h2, h3⟩
  unfold rdCells at h1 ⊢
  rw [e b (by rcases h3 with ⟨c, rfl⟩ | ⟨lo, z, rfl⟩ <;> rfl)]
  exact h1
def ok (hot : Nat → Prop) (h : Hp) (v : V) : Prop := ∀ c, blkOf v = some c → c < h.n ∧ ¬ hot c
def RowC (hot : Nat → Prop) (h : Hp) (v : V) (r : List (List Nat)) : Prop := Rd h 1 v r.length (r.map V.str) ∧ ok hot h v
def RowsC (hot : Nat → Prop) (h : Hp) (v : V) (rs : List (List (List Nat))) : Prop := ∃ vs, Rd h 1 v rs.length vs ∧ ok hot h v ∧ ∀ (i : Nat) (r : List (List Nat)), rs[i]? = some r → ∃ w, vs[i]? = some w ∧ RowC hot h w r
/-- hot blocks alone change -/
structure Hot (hot hot' : Nat → Prop) (h h' : Hp) : Prop where
  n : h.n ≤ h'.n
  keep : ∀ c, c < h.n → ¬ hot c → h'.t.get c = h.t.get c
  hot : ∀ c, c < h.n → hot' c → hot c
section
variable {hot hot' : Nat → Prop} {h h' : Hp}
theorem ok.step {v : V} (o : ok hot h v) (s : Hot hot hot' h h') : ok hot' h' v := fun c hc => by
  obtain ⟨h1, h2⟩ := o c hc
  have := s.n
  exact ⟨by omega, fun h3 => h2 (s.hot c h1 h3)⟩
theorem RowC.step {v : V} {r : List (List Nat)} (a : RowC hot h v r) (s : Hot hot hot' h h') : RowC hot' h' v r :=
  ⟨a.1.same fun c hc => s.keep c (a.2 c hc).1 (a.2 c hc).2, a.2.step s⟩
theorem RowsC.step {v : V} {rs : List (List (List Nat))} (a : RowsC hot h v rs) (s : Hot hot hot' h h') : RowsC hot' h' v rs := by
  obtain ⟨vs, h1, h2, h3⟩ := a
  exact ⟨vs, h1.same fun c hc => s.keep c (h2 c hc).1 (h2 c hc).2, h2.step s, fun i r hr => by obtain ⟨w, h4, h5⟩ := h3 i r hr; exact ⟨w, h4, h5.step s⟩⟩
theorem Hot.trans {hot'' : Nat → Prop} {h'' : Hp} (s : Hot hot hot' h h') (t : Hot hot' hot'' h' h'') : Hot hot hot'' h h'' := by
  have := s.n
  have := t.n
  refine ⟨by omega, fun c hc hn => ?_, fun c hc hh => s.hot c hc (t.hot c (by omega) hh)⟩
  rw [t.keep c (by omega) fun k => hn (s.hot c hc k), s.keep c hc hn]
end
theorem iaddr_sl {t e sz : Nat} {z : List V} {ag : Bool} (ht : IsSl EE t e) (he : El EE e sz z ag) (b off len cap i : Nat) (hi : i < len) (k : IntKind) (q : V → Prop) : (Pu EE).iaddr t (.sl b off len cap) (.int k i) q ↔ q (.ptr b (off + i * sz)) := by
  obtain ⟨ti, h1, h2⟩ := ht
  obtain ⟨⟨j, h3, h4, h5, h6, h7⟩, h8⟩ := he
  subst h4
  show (∃ u, vindexAddr EE t (.sl b off len cap) (.int k i) = some u ∧ q u) ↔ _
  have hbl : Nat.blt i len = true := by rw [Nat.blt_eq]; exact hi
  simp only [vindexAddr, natOf_nat, h1, Option.bind_some, h2, h3, hbl, cond_true, ex_some]
theorem rep_one (n : Nat) (z : V) : rep n [z] = List.replicate n z := by
  induction n with
  | zero => rfl
  | succ n ih => rw [List.replicate_succ, ← ih]; rfl
theorem pu_mkslX {t e : Nat} {z : V} (ht : IsSl EE t e) (he : El EE e 1 [z] false) {n : Nat} (hn : n ≤ 16) {h : Hp} {q : V → Hp → Blk → Prop} (hq : ∀ h1 b, New h h1 b (.cells (List.replicate n z) e false) → q (.sl b 0 n n) h1 (.cells (List.replicate n z) e false)) : (Pu EE).mksl h t (.int .i64 n) (.int .i64 n) q := by
  obtain ⟨ti, h1, h2⟩ := ht
  obtain ⟨⟨j, h3, h4, h5, h6, h7⟩, h8⟩ := he
  have hr := rep_one n z
  have hb : (Nat.ble n n && Nat.ble (j.bytes * n) 1048576 && Nat.ble n 1048576 && Nat.beq [z].length j.size) = true := by
    have : j.bytes * n ≤ 65536 * 16 := Nat.mul_le_mul h6 hn
    rw [h4]
    simp only [Bool.and_eq_true, Nat.ble_eq, List.length_cons, List.length_nil, Nat.beq_eq]
    exact ⟨⟨⟨Nat.le_refl _, by omega⟩, by omega⟩, trivial⟩
  refine ⟨(.sl n n, .cells (List.replicate n z) e false), ?_, hq _ _ (New.mk' _ _)⟩
  simp only [h1, Option.bind_some, makeV, h2, natOf_nat, h3, h5, hb, cond_true, hr]
end
end Go.Proofs.YtlllhhjlfmhmlaaGreatDoor.VM
namespace Go.Proofs.YtlllhhjlfmhmlaaGreatDoor.VM
open Go
set_option linter.unusedVariables false
set_option linter.unusedSectionVars false
set_option linter.unusedSimpArgs false
set_option maxRecDepth 20000
noncomputable section
attribute [local instance] syZ
/-- one element more -/
theorem append_el {N : Nat} {h : Hp} {v : V} {e sz len : Nat} {cs : List V} (o : Own N h v e sz len cs) {t : Nat} (ht : IsSl EE t e) {z : List V} {ag : Bool} (he : El EE e sz z ag) (x : V) (hx : x.cells.length = sz) (hc : allCells x.cells = true) (hs : sz ≤ 65536) (hlen : len + 1 ≤ 1048576) (hN : N ≤ h.n) (q : V → Hp → Prop)
    (hq : ∀ v' h', Own N h' v' e sz (len + 1) (cs ++ x.cells) → Ext N h h' → (∀ c, c < h.n → blkOf v ≠ some c → h'.t.get c = h.t.get c) → (∀ c, blkOf v' = some c → blkOf v = some c ∨ h.n ≤ c) → q v' h') :
    (Pu EE).bsl h t 1 [(0, x)] fun y h1 _ => (Pu EE).ebui h1 #[t, t] .append [v, y] q := by
  rw [pu_lit1 ht he _ hx hs]
  have o1 : Own N (h.new (.cells x.cells e false)) v e sz len cs := o.keep (Nat.le_succ _) (fun c hc => by rw [Hp.get_new, if_neg (Nat.ne_of_lt (o.in_ c hc))])
  refine app_all o1 ht he (rd_lit (h := h) (e := e) (ws := x.cells) hx).rd hc hlen (Nat.le_succ_of_le hN) fun v' h' o2 x2 f2 b2 => hq v' h' o2 ((Ext.new hN _).trans x2) (fun c hc hne => ?_) (fun c hc => ?_)
  · rw [f2 c (Nat.lt_succ_of_lt hc) hne, Hp.get_new, if_neg (Nat.ne_of_lt hc)]
  · rcases b2 c hc with h6 | h6
    · exact .inl h6
    · exact .inr (Nat.le_of_succ_le h6)
/-- the book so far -/
structure BB (N : Nat) (h0 h : Hp) (hot : Nat → Prop) (b4 b5 : Nat) (vS : V) (cs : List V) (shs : List Sht) : Prop where
  a4 : h.t.get b4 = some (.cells [.nils] 24 false)
  a5 : h.t.get b5 = some (.cells [vS] 24 false)
  oS : Own N h vS 48 3 shs.length cs
  cS : allCells cs = true
  el : ∀ (j : Nat) (s : Sht), shs[j]? = some s → ∃ rv, (cs.drop (j * 3)).take 3 = shtC s rv ∧ RowsC hot h rv s.rows
  h4 : hot b4
  h5 : hot b5
  hS : ∀ c, blkOf vS = some c → hot c
  hN : ∀ c, hot c → N ≤ c
  sS : ∀ c, blkOf vS = some c → c ≠ b4 ∧ c ≠ b5
  ne : b4 ≠ b5
  l4 : b4 < h.n
  l5 : b5 < h.n
  ext : Ext N h0 h
  nn : N ≤ h.n
/-- the sheet so far -/
structure BR (N : Nat) (h : Hp) (hot : Nat → Prop) (b4 b5 bS : Nat) (vS : V) (nm : List Nat) (C : Nat) (vR : V) (ws : List V) (rows : List (List (List Nat))) : Prop where
  aS : h.t.get bS = some (.cells [.str nm, .int .i64 C, vR] 48 false)
  oR : Own N h vR 49 1 rows.length ws
  cR : allCells ws = true
  el : ∀ (j : Nat) (r : List (List Nat)), rows[j]? = some r → ∃ w, ws[j]? = some w ∧ RowC hot h w r
  hS : hot bS
  hR : ∀ c, blkOf vR = some c → hot c
  sR : ∀ c, blkOf vR = some c → c ≠ b4 ∧ c ≠ b5 ∧ c ≠ bS ∧ blkOf vS ≠ some c
  s4 : bS ≠ b4
  s5 : bS ≠ b5
  sS : blkOf vS ≠ some bS
  lS : bS < h.n
section
variable {N : Nat} {h0 h h' : Hp} {hot hot' : Nat → Prop} {b4 b5 bS : Nat} {vS : V} {cs : List V} {shs : List Sht} {nm : List Nat} {C : Nat} {vR : V} {ws : List V} {rows : List (List (List Nat))}
theorem BB.step (B : BB N h0 h hot b4 b5 vS cs shs) (s : Hot hot hot' h h') (e4 : h'.t.get b4 = h.t.get b4) (e5 : h'.t.get b5 = h.t.get b5) (eS : ∀ c, blkOf vS = some c → h'.t.get c = h.t.get c) (k4 : hot' b4) (k5 : hot' b5) (kS : ∀ c, blkOf vS = some c → hot' c) (kN : ∀ c, hot' c → N ≤ c) : BB N h0 h' hot' b4 b5 vS cs shs := by
  have hn := s.n
  have := B.l4
  have := B.l5
  have := B.nn
  refine ⟨by rw [e4]; exact B.a4, by rw [e5]; exact B.a5, B.oS.keep hn eS, B.cS, fun j t ht => ?_, k4, k5, kS, kN, B.sS, B.ne, by omega, by omega, B.ext.trans ⟨hn, fun c hc => s.keep c (by omega) fun k => by have := B.hN c k; omega⟩, by omega⟩
  obtain ⟨rv, h1, h2⟩ := B.el j t ht
  exact ⟨rv, h1, h2.step s⟩
theorem BR.step (R : BR N h hot b4 b5 bS vS nm C vR ws rows) (s : Hot hot hot' h h') (eS : h'.t.get bS = h.t.get bS) (eR : ∀ c, blkOf vR = some c → h'.t.get c = h.t.get c) (kS : hot' bS) (kR : ∀ c, blkOf vR = some c → hot' c) : BR N h' hot' b4 b5 bS vS nm C vR ws rows := by
  have hn := s.n
  have := R.lS
  refine ⟨by rw [eS]; exact R.aS, R.oR.keep hn eR, R.cR, fun j r hr => ?_, kS, kR, R.sR, R.s4, R.s5, R.sS, by omega⟩
  obtain ⟨w, h1, h2⟩ := R.el j r hr
  exact ⟨w, h1, h2.step s⟩
end
def hot1 (b4 b5 : Nat) (vS : V) : Nat → Prop := fun c => c = b4 ∨ c = b5 ∨ blkOf vS = some c
def hot2 (b4 b5 bS : Nat) (vS vR : V) : Nat → Prop := fun c => c = b4 ∨ c = b5 ∨ c = bS ∨ blkOf vS = some c ∨ blkOf vR = some c
def hot3 (b4 b5 bS bR : Nat) (vS vR : V) : Nat → Prop := fun c => hot2 b4 b5 bS vS vR c ∨ c = bR
/-! ### a row -/
def prow (ns : List Nat) (C p c : Nat) : List V := (List.range C).map fun x => V.str (if x < c then cellT ns (p + x) else [])
theorem prow_len (ns : List Nat) (C p c : Nat) : (prow ns C p c).length = C := by unfold prow; simp
theorem prow_0 (ns : List Nat) (C p : Nat) : prow ns C p 0 = List.replicate C (.str []) := by
  unfold prow
  apply List.ext_getElem
  · simp
  · intro i h1 h2; simp
theorem prow_set (ns : List Nat) (C p c : Nat) : (prow ns C p c).set c (.str (cellT ns (p + c))) = prow ns C p (c + 1) := by
  unfold prow
  apply List.ext_getElem
  · simp
  · intro i h1 h2
    rw [List.getElem_set]
    simp only [List.getElem_map, List.getElem_range]
    by_cases e : c = i
    · subst e; simp
    · rw [if_neg e]
      have : (i < c + 1) = (i < c) := by rw [eq_iff_iff]; omega
      simp only [this]
theorem prow_end {ns : List Nat} {C p c : Nat} (h : C ≤ c ∨ ns.length ≤ p + c) : prow ns C p c = (rowT ns C p).map V.str := by
  unfold prow rowT
  rw [List.map_map]
  apply List.map_congr_left
  intro x hx
  have hx := List.mem_range.1 hx
  simp only [Function.comp]
  by_cases e : x < c
  · rw [if_pos e]
  · rw [if_neg e]
    unfold cellT
    rw [List.getElem?_eq_none (by omega)]
theorem prow_cells (ns : List Nat) (C p c : Nat) : allCells (prow ns C p c) = true := by
  refine allCells_iff.2 fun v hv => ?_
  unfold prow at hv
  obtain ⟨x, _, rfl⟩ := List.mem_map.1 hv
  rfl
/-- what the loops stand on -/
structure BArgs (N : Nat) (h0 : Hp) (v0 : V) (ns : List Nat) : Prop where
  hN : h0.n = N
  rd : Rd h0 1 v0 ns.length (ns.map fun (n : Nat) => V.int .u8 (n : Int))
  in_ : In N v0
  lt : ∀ n ∈ ns, n < 256
  len : ns.length ≤ 100
theorem row_loop3 (Q : V → Hp → Prop) {N : Nat} {h0 : Hp} {v0 : V} {ns : List Nat} (A : BArgs N h0 v0 ns) {v1 v7 : V} {b4 b5 bS bR : Nat} {vS : V} {cs : List V} {shs : List Sht} {nm : List Nat} {C : Nat} (hC : C ≤ 16) {vR : V} {ws : List V} {rows : List (List (List Nat))} {p r : Nat} (hp : p ≤ 1000) (hr : r ≤ 100) (hrl : rows.length ≤ 1000)
    (hbR : ¬ hot2 b4 b5 bS vS vR bR) (hbN : N ≤ bR)
    (hq : ∀ h vR' ws', BB N h0 h (hot2 b4 b5 bS vS vR') b4 b5 vS cs shs → BR N h (hot2 b4 b5 bS vS vR') b4 b5 bS vS nm C vR' ws' (rows ++ [rowT ns C p]) → L_law10_Book_2 Q v0 v1 (.ptr b4 0) (.ptr b5 0) (.int .i64 (min (p + C) ns.length : Nat)) v7 (.ptr bS 0) (.int .i64 (r + 1 : Nat)) h) :
    ∀ (k c : Nat), C - c = k → c ≤ C → ∀ (h : Hp), BB N h0 h (hot3 b4 b5 bS bR vS vR) b4 b5 vS cs shs → BR N h (hot3 b4 b5 bS bR vS vR) b4 b5 bS vS nm C vR ws rows → h.t.get bR = some (.cells (prow ns C p c) 9 false) → bR < h.n →
      L_law10_Book_3 Q v0 v1 (.ptr b4 0) (.ptr b5 0) (.int .i64 (min (p + c) ns.length : Nat)) v7 (.ptr bS 0) (.int .i64 r) (.sl bR 0 C C) (.int .i64 c) h := by
  have hAl := A.len
  have fin : ∀ (c : Nat) (h : Hp), c ≤ C → (C ≤ c ∨ ns.length ≤ p + c) → BB N h0 h (hot3 b4 b5 bS bR vS vR) b4 b5 vS cs shs → BR N h (hot3 b4 b5 bS bR vS vR) b4 b5 bS vS nm C vR ws rows → h.t.get bR = some (.cells (prow ns C p c) 9 false) → bR < h.n →
      (Pu EE).faddr 48 (.ptr bS 0) 2 fun x24 => (Pu EE).load h 46 x24 fun x25 => (Pu EE).bsl h 46 1 [(0, .sl bR 0 C C)] fun x26 h27 b28 => (Pu EE).ebui h27 #[46, 46] .append [x25, x26] fun x29 h30 =>
        (Pu EE).faddr 48 (.ptr bS 0) 2 fun x31 => (Pu EE).store h30 46 x31 x29 fun h32 => (Pu EE).bin .add 3 false true (.int .i64 r) (.int .i64 1) fun x33 => L_law10_Book_2 Q v0 v1 (.ptr b4 0) (.ptr b5 0) (.int .i64 (min (p + c) ns.length : Nat)) v7 (.ptr bS 0) x33 h32 := by
    intro c h hc he B R hrow hbn
    have nn := B.nn
    have h4N := B.hN b4 B.h4
    have h5N := B.hN b5 B.h5
    have hSN := B.hN bS R.hS
    have l4 := B.l4
    have l5 := B.l5
    have lS := R.lS
    rw [fa_api_Sheet_2, pu_load1 l_sl_sl_string R.aS rfl]
    refine append_el R.oR s_sl_sl_string l_sl_string (.sl bR 0 C C) rfl rfl (by omega) (by omega) nn _ fun v' h1 o1 x1 k1 m1 => ?_
    have n1 := x1.n
    rw [fa_api_Sheet_2]
    have hsr := R.sR
    have eS1 : h1.t.get bS = h.t.get bS := k1 bS lS fun e => (hsr bS e).2.2.1 rfl
    have cv : v'.cells = [v'] ∧ v'.isCell = true := o1.rd.c1
    refine pu_storeX l_sl_sl_string (eS1.trans R.aS) (x := v') (by rw [cv.1]; rfl) (by rw [cv.1]; simp [allCells, cv.2]) (r := [.str nm, .int .i64 C, v']) (by rw [cv.1]; rfl) fun h2 w2 => ?_
    have n2 := w2.n
    rw [pu_inc _ _ _ _ (by omega)]
    have hs' : ∀ x, blkOf v' = some x → blkOf vR = some x ∨ h.n ≤ x := m1
    have hmin : min (p + c) ns.length = min (p + C) ns.length := by omega
    rw [hmin]
    have ch : ∀ x, x < h.n → x ≠ bS → blkOf vR ≠ some x → h2.t.get x = h.t.get x := fun x h1 h2 h3 => by rw [w2.other x h2, k1 x h1 h3]
    have hv1 : ∀ x, blkOf v' = some x → x ≠ b4 ∧ x ≠ b5 ∧ x ≠ bS ∧ blkOf vS ≠ some x ∧ x ≠ bR := fun x hx => by
      rcases hs' x hx with e | e
      · obtain ⟨a1, a2, a3, a4⟩ := hsr x e
        exact ⟨a1, a2, a3, a4, fun q => hbR (by rw [← q]; exact .inr (.inr (.inr (.inr e))))⟩
      · exact ⟨by omega, by omega, by omega, fun q => by have := B.oS.in_ x q; omega, by omega⟩
    have hh : Hot (hot3 b4 b5 bS bR vS vR) (hot2 b4 b5 bS vS v') h h2 := by
      refine ⟨by omega, fun x hx hn => ch x hx (fun e => hn (.inl (by rw [e]; exact .inr (.inr (.inl rfl))))) fun e => hn (.inl (.inr (.inr (.inr (.inr e))))), fun x hx hh => ?_⟩
      rcases hh with e | e | e | e | e
      · exact .inl (.inl e)
      · exact .inl (.inr (.inl e))
      · exact .inl (.inr (.inr (.inl e)))
      · exact .inl (.inr (.inr (.inr (.inl e))))
      · rcases hs' x e with q | q
        · exact .inl (.inr (.inr (.inr (.inr q))))
        · omega
    refine hq h2 v' (ws ++ [.sl bR 0 C C]) (B.step hh (ch b4 l4 (fun e => R.s4 e.symm) fun e => (hsr b4 e).1 rfl) (ch b5 l5 (fun e => R.s5 e.symm) fun e => (hsr b5 e).2.1 rfl) (fun x hx => ch x (B.oS.in_ x hx) (fun e => R.sS (by rw [← e]; exact hx)) fun e => (hsr x e).2.2.2 hx) (.inl rfl) (.inr (.inl rfl)) (fun x hx => .inr (.inr (.inr (.inl hx)))) fun x hx => ?_) ⟨?_, ?_, ?_, fun j rr hj => ?_, .inr (.inr (.inl rfl)), fun x hx => .inr (.inr (.inr (.inr hx))), fun x hx => ?_, R.s4, R.s5, R.sS, by omega⟩
    · rcases hx with e | e | e | e | e
      · omega
      · omega
      · omega
      · exact B.hN x (.inl (.inr (.inr (.inr (.inl e)))))
      · rcases hs' x e with q | q
        · exact B.hN x (.inl (.inr (.inr (.inr (.inr q)))))
        · omega
    · exact w2.at_
    · rw [List.length_append, List.length_singleton]
      exact o1.keep (by omega) fun x hx => w2.other x (hv1 x hx).2.2.1
    · refine allCells_iff.2 fun u hu => ?_
      rcases List.mem_append.1 hu with hu | hu
      · exact allCells_iff.1 R.cR u hu
      · rw [List.mem_singleton.1 hu]; rfl
    · by_cases hj2 : j < rows.length
      · rw [List.getElem?_append_left hj2] at hj
        obtain ⟨w, g1, g2⟩ := R.el j rr hj
        have hwl : j < ws.length := by have := R.oR.sized; omega
        exact ⟨w, by rw [List.getElem?_append_left hwl]; exact g1, g2.step hh⟩
      · have hjl : j < (rows ++ [rowT ns C p]).length := (List.getElem?_eq_some_iff.1 hj).1
        rw [List.length_append, List.length_singleton] at hjl
        have hje : j = rows.length := by omega
        have hwl : ws.length = rows.length := by have := R.oR.sized; omega
        rw [hje, List.getElem?_append_right (Nat.le_refl _), Nat.sub_self] at hj
        simp only [List.getElem?_cons_zero, Option.some.injEq] at hj
        subst hj
        refine ⟨.sl bR 0 C C, by rw [hje, ← hwl, List.getElem?_append_right (Nat.le_refl _), Nat.sub_self]; rfl, ?_, ?_⟩
        · have hl : (rowT ns C p).length = C := by unfold rowT; simp
          have hg : h2.t.get bR = some (.cells ((rowT ns C p).map V.str) 9 false) := by
            rw [ch bR hbn (fun e => hbR (by rw [e]; exact .inr (.inr (.inl rfl)))) fun e => hbR (.inr (.inr (.inr (.inr e)))), hrow, prow_end he]
          rw [hl]
          refine ⟨by rw [List.length_map, hl, Nat.mul_one], .inr ⟨bR, 0, _, by unfold rdCells; rw [hg], sub_all (by rw [List.length_map, hl, Nat.mul_one]), .inl ⟨C, rfl⟩⟩⟩
        · intro x hx
          cases hx
          refine ⟨by omega, fun hh => ?_⟩
          rcases hh with e | e | e | e | e
          · exact hbR (.inl e)
          · exact hbR (.inr (.inl e))
          · exact hbR (.inr (.inr (.inl e)))
          · exact hbR (.inr (.inr (.inr (.inl e))))
          · exact (hv1 bR e).2.2.2.2 rfl
    · obtain ⟨a1, a2, a3, a4, _⟩ := hv1 x hx
      exact ⟨a1, a2, a3, a4⟩
  intro k
  induction k with
  | zero =>
    intro c hk hc h B R hrow hbn
    apply r_law10_Book_3
    unfold t_law10_Book_3
    rw [fa_api_Sheet_1, pu_load1 l_int R.aS rfl, pu_lssN, decide_eq_false (by omega : ¬ c < C)]
    simp only [pu_gval_ft]
    rw [pu_pick_f, pu_cond_f]
    exact fin c h hc (.inl (by omega)) B R hrow hbn
  | succ k ih =>
    intro c hk hc h B R hrow hbn
    have nn := B.nn
    have en := B.ext.n
    apply r_law10_Book_3
    unfold t_law10_Book_3
    rw [fa_api_Sheet_1, pu_load1 l_int R.aS rfl, pu_lssN, decide_eq_true (by omega : c < C)]
    simp only [pu_gval_y]
    have hv0 := A.rd.ext B.ext A.in_
    rw [pu_len hv0 s_sl_uint8, pu_lssN, pu_pick_t]
    by_cases ha : min (p + c) ns.length < ns.length
    · rw [decide_eq_true ha, pu_cond_t]
      have hpc : min (p + c) ns.length = p + c := by omega
      rw [hpc] at ha ⊢
      obtain ⟨n, hn⟩ : ∃ n, ns[p + c]? = some n := ⟨_, List.getElem?_eq_getElem ha⟩
      have hn256 := A.lt n (List.mem_of_getElem? hn)
      obtain ⟨b, o, g1, g2, _⟩ := rd_get1 hv0 s_sl_uint8 l_uint8 (i := p + c) (x := .int .u8 n) (by rw [List.getElem?_map, hn]; rfl)
      rw [g1, g2, conv8 n hn256]
      refine (text_ok hn256 h).mono ?_
      rintro x h1 ⟨rfl, x1⟩
      have n1 := x1.n
      rw [iaddr_sl s_sl_string l_string _ _ _ _ _ (by omega)]
      have hrow1 : h1.t.get bR = some (.cells (prow ns C p c) 9 false) := by rw [x1.old bR hbn]; exact hrow
      refine pu_storeX l_string hrow1 (x := .str (txt n)) rfl rfl (r := prow ns C p (c + 1)) ?_ fun h2 w2 => ?_
      · have e : 0 + c * 1 = c := by omega
        rw [e, ← prow_set]
        have : cellT ns (p + c) = txt n := by unfold cellT; rw [hn]
        rw [this]
        exact spl_one _ _ _ (by rw [prow_len]; omega)
      · have n2 := w2.n
        have ch : ∀ x, x < h.n → x ≠ bR → h2.t.get x = h.t.get x := fun x hx he => by rw [w2.other x he, x1.old x hx]
        have hh : Hot (hot3 b4 b5 bS bR vS vR) (hot3 b4 b5 bS bR vS vR) h h2 := ⟨by omega, fun x hx hn => ch x hx fun e => hn (.inr e), fun x _ hx => hx⟩
        have e4 : b4 ≠ bR := fun e => hbR (.inl e.symm)
        have e5 : b5 ≠ bR := fun e => hbR (.inr (.inl e.symm))
        have eS : bS ≠ bR := fun e => hbR (.inr (.inr (.inl e.symm)))
        have evS : ∀ x, blkOf vS = some x → x ≠ bR := fun x hx e => hbR (by rw [← e]; exact .inr (.inr (.inr (.inl hx))))
        have evR : ∀ x, blkOf vR = some x → x ≠ bR := fun x hx e => hbR (by rw [← e]; exact .inr (.inr (.inr (.inr hx))))
        have l4 := B.l4
        have l5 := B.l5
        have lS := R.lS
        rw [pu_inc _ _ _ _ (by omega), pu_inc _ _ _ _ (by omega)]
        have hm : ((p + c + 1 : Nat) : Int) = ((min (p + (c + 1)) ns.length : Nat) : Int) := by omega
        rw [hm]
        exact ih (c + 1) (by omega) (by omega) h2 (B.step hh (ch b4 l4 e4) (ch b5 l5 e5) (fun x hx => ch x (B.oS.in_ x hx) (evS x hx)) B.h4 B.h5 B.hS B.hN) (R.step hh (ch bS lS eS) (fun x hx => ch x (R.oR.in_ x hx) (evR x hx)) R.hS R.hR) w2.at_ (by omega)
    · rw [decide_eq_false ha, pu_cond_f]
      exact fin c h hc (.inr (by omega)) B R hrow hbn
end
end Go.Proofs.YtlllhhjlfmhmlaaGreatDoor.VM
namespace Go.Proofs.YtlllhhjlfmhmlaaGreatDoor.VM
open Go
set_option linter.unusedVariables false
set_option linter.unusedSectionVars false
set_option linter.unusedSimpArgs false
set_option maxRecDepth 20000
noncomputable section
attribute [local instance] syZ
theorem one_add (a b : Nat) (h : a + b < 1000000) (t : Nat) (cx cy : Bool) (q : V → Prop) : (Pu EE).bin .add t cx cy (.int .i64 (a : Int)) (.int .i64 b) q ↔ q (.int .i64 ((a + b : Nat) : Int)) := addN a b h t cx cy q
theorem cells3 (a : List Nat) (k : IntKind) (b : Int) {v : V} (h : v.isCell = true) : allCells (V.agg [.str a, .int k b, v]).cells = true := by
  show allCells [.str a, .int k b, v] = true
  refine allCells_iff.2 fun u hu => ?_
  simp only [List.mem_cons, List.not_mem_nil, or_false] at hu
  rcases hu with rfl | rfl | rfl
  · rfl
  · rfl
  · exact h
theorem cells1 {v : V} (h : v.isCell = true) : allCells (V.agg [v]).cells = true := by
  show allCells [v] = true
  refine allCells_iff.2 fun u hu => ?_
  rw [List.mem_singleton.1 hu]
  exact h
theorem shtC_len (s : Sht) (rv : V) : (shtC s rv).length = 3 := rfl
theorem rows_loop2 (Q : V → Hp → Prop) {N : Nat} {h0 : Hp} {v0 : V} {ns : List Nat} (A : BArgs N h0 v0 ns) {sh i : Nat} (hsh : sh < 256) (hi : i < 3) {b4 b5 bS : Nat} {vS : V} {cs : List V} {shs : List Sht} (hsl : shs.length ≤ 10)
    (hq : ∀ h vS' cs', BB N h0 h (hot1 b4 b5 vS') b4 b5 vS' cs' (shs ++ [shtT ns sh i]) → L_law10_Book_1 Q v0 (.int .u8 sh) (.ptr b4 0) (.ptr b5 0) (.int .i64 (min ((i + 1) * (nR sh * nC sh)) ns.length : Nat)) (.int .i64 (i + 1 : Nat)) h) :
    ∀ (k r : Nat), nR sh - r = k → r ≤ nR sh → ∀ (h : Hp) (vR : V) (ws : List V), BB N h0 h (hot2 b4 b5 bS vS vR) b4 b5 vS cs shs → BR N h (hot2 b4 b5 bS vS vR) b4 b5 bS vS (nameT sh i) (nC sh) vR ws (rowsT ns (nC sh) r (i * (nR sh * nC sh))) →
      L_law10_Book_2 Q v0 (.int .u8 sh) (.ptr b4 0) (.ptr b5 0) (.int .i64 (min (i * (nR sh * nC sh) + r * nC sh) ns.length : Nat)) (.int .i64 i) (.ptr bS 0) (.int .i64 r) h := by
  have hAl := A.len
  have hC := @nC_le sh
  have hR := @nR_le sh
  have hRC : nR sh * nC sh ≤ 5 * 4 := Nat.mul_le_mul hR hC
  have hiRC : i * (nR sh * nC sh) ≤ 3 * 20 := Nat.mul_le_mul (by omega) hRC
  have hrl : ∀ r, (rowsT ns (nC sh) r (i * (nR sh * nC sh))).length = r := fun r => by unfold rowsT; simp
  intro k
  induction k with
  | zero =>
    intro r hk hr h vR ws B R
    have hre : r = nR sh := by omega
    subst hre
    apply r_law10_Book_2
    unfold t_law10_Book_2
    rw [conv8 sh hsh, show (12 : Int) = ((12 : Nat) : Int) from rfl, quoN _ _ (by omega) (by omega), show (5 : Int) = ((5 : Nat) : Int) from rfl, remN _ _ (by omega), show (1 : Int) = ((1 : Nat) : Int) from rfl, addN _ _ (by omega), pu_lssN, decide_eq_false (by unfold nR; omega : ¬ nR sh < 1 + sh / 12 % 5), pu_cond_f]
    rw [fa_api_Book_0, pu_load1 l_sl_api_Sheet B.a5 rfl, pu_loadS l_api_Sheet R.aS (l := [.str (nameT sh i), .int .i64 (nC sh), vR]) rfl]
    have cR : vR.cells = [vR] ∧ vR.isCell = true := R.oR.rd.c1
    refine append_el B.oS s_sl_api_Sheet l_api_Sheet (.agg [.str (nameT sh i), .int .i64 (nC sh), vR]) rfl (cells3 _ _ _ cR.2) (by omega) (by omega) B.nn _ fun v' h1 o1 x1 k1 m1 => ?_
    have n1 := x1.n
    have l4 := B.l4
    have l5 := B.l5
    have lS := R.lS
    have nn := B.nn
    have h4N := B.hN b4 B.h4
    have h5N := B.hN b5 B.h5
    have sS := B.sS
    have cv : v'.cells = [v'] ∧ v'.isCell = true := o1.rd.c1
    rw [fa_api_Book_0]
    have e51 : h1.t.get b5 = h.t.get b5 := k1 b5 l5 fun e => (sS b5 e).2 rfl
    refine pu_storeX l_sl_api_Sheet (e51.trans B.a5) (x := v') (by rw [cv.1]; rfl) (by rw [cv.1]; simp [allCells, cv.2]) (r := [v']) (by rw [cv.1]; rfl) fun h2 w2 => ?_
    have n2 := w2.n
    have e1 : ((i : Nat) : Int) = ((i : Nat) : Int) := rfl
    rw [show ((1 : Nat) : Int) = 1 from rfl, pu_inc _ _ _ _ (by omega)]
    have hm : min (i * (nR sh * nC sh) + nR sh * nC sh) ns.length = min ((i + 1) * (nR sh * nC sh)) ns.length := by rw [Nat.succ_mul]
    rw [hm]
    have ch : ∀ x, x < h.n → x ≠ b5 → blkOf vS ≠ some x → h2.t.get x = h.t.get x := fun x h1 h2 h3 => by rw [w2.other x h2, k1 x h1 h3]
    have hv1 : ∀ x, blkOf v' = some x → x ≠ b4 ∧ x ≠ b5 ∧ x ≠ bS ∧ blkOf vR ≠ some x := fun x hx => by
      rcases m1 x hx with e | e
      · exact ⟨(sS x e).1, (sS x e).2, fun q => R.sS (by rw [← q]; exact e), fun q => (R.sR x q).2.2.2 e⟩
      · exact ⟨by omega, by omega, by omega, fun q => by have := R.oR.in_ x q; omega⟩
    have hh : Hot (hot2 b4 b5 bS vS vR) (hot1 b4 b5 v') h h2 := by
      refine ⟨by omega, fun x hx hn => ch x hx (fun e => hn (.inr (.inl e))) fun e => hn (.inr (.inr (.inr (.inl e)))), fun x hx hh => ?_⟩
      rcases hh with e | e | e
      · exact .inl e
      · exact .inr (.inl e)
      · rcases m1 x e with q | q
        · exact .inr (.inr (.inr (.inl q)))
        · omega
    have hcl : cs.length = shs.length * 3 := B.oS.sized
    refine hq h2 v' (cs ++ [.str (nameT sh i), .int .i64 (nC sh), vR]) ⟨?_, w2.at_, ?_, ?_, fun j s hj => ?_, .inl rfl, .inr (.inl rfl), fun x hx => .inr (.inr hx), fun x hx => ?_, fun x hx => ⟨(hv1 x hx).1, (hv1 x hx).2.1⟩, B.ne, by omega, by omega, ?_, by omega⟩
    · rw [ch b4 l4 B.ne fun e => (sS b4 e).1 rfl]; exact B.a4
    · rw [List.length_append, List.length_singleton]
      exact o1.keep (by omega) fun x hx => w2.other x (hv1 x hx).2.1
    · refine allCells_iff.2 fun u hu => ?_
      rcases List.mem_append.1 hu with hu | hu
      · exact allCells_iff.1 B.cS u hu
      · simp only [List.mem_cons, List.not_mem_nil, or_false] at hu
        rcases hu with rfl | rfl | rfl
        · rfl
        · rfl
        · exact cR.2
    · by_cases hj2 : j < shs.length
      · rw [List.getElem?_append_left hj2] at hj
        obtain ⟨rv, g1, g2⟩ := B.el j s hj
        refine ⟨rv, ?_, g2.step hh⟩
        rw [← g1, List.drop_append_of_le_length (by omega), List.take_append_of_le_length (by rw [List.length_drop]; omega)]
      · have hjl : j < (shs ++ [shtT ns sh i]).length := (List.getElem?_eq_some_iff.1 hj).1
        rw [List.length_append, List.length_singleton] at hjl
        have hje : j = shs.length := by omega
        rw [hje, List.getElem?_append_right (Nat.le_refl _), Nat.sub_self] at hj
        simp only [List.getElem?_cons_zero, Option.some.injEq] at hj
        subst hj
        refine ⟨vR, ?_, ws, ?_, fun x hx => ?_, fun i' r' hr' => ?_⟩
        · rw [hje, ← hcl, List.drop_left]
          rfl
        · have o2 : Own N h2 vR 49 1 _ ws := R.oR.keep (by omega) fun x hx => ch x (R.oR.in_ x hx) (R.sR x hx).2.1 (R.sR x hx).2.2.2
          exact o2.rd
        · refine ⟨by have := R.oR.in_ x hx; omega, fun hh => ?_⟩
          rcases hh with e | e | e
          · exact (R.sR x hx).1 e
          · exact (R.sR x hx).2.1 e
          · exact (hv1 x e).2.2.2 hx
        · obtain ⟨w, g1, g2⟩ := R.el i' r' hr'
          exact ⟨w, g1, g2.step hh⟩
    · rcases hx with e | e | e
      · omega
      · omega
      · rcases m1 x e with q | q
        · exact B.hN x (.inr (.inr (.inr (.inl q))))
        · omega
    · refine B.ext.trans ⟨by omega, fun x hx => ch x (by omega) (by omega) fun e => ?_⟩
      have := B.oS.ge x e; omega
  | succ k ih =>
    intro r hk hr h vR ws B R
    have nn := B.nn
    apply r_law10_Book_2
    unfold t_law10_Book_2
    rw [conv8 sh hsh, show (12 : Int) = ((12 : Nat) : Int) from rfl, quoN _ _ (by omega) (by omega), show (5 : Int) = ((5 : Nat) : Int) from rfl, remN _ _ (by omega), show (1 : Int) = ((1 : Nat) : Int) from rfl, addN _ _ (by omega), pu_lssN, decide_eq_true (by unfold nR at hk; omega : r < 1 + sh / 12 % 5), pu_cond_t]
    rw [fa_api_Sheet_1, pu_load1 l_int R.aS rfl]
    refine pu_mkslX s_sl_string l_string (by omega) fun h1 bR w1 => ?_
    have n1 := w1.n
    have eb := w1.b
    have hp : r * nC sh ≤ 5 * 4 := Nat.mul_le_mul (by omega) hC
    have hnot : ¬ hot2 b4 b5 bS vS vR bR := by
      intro hh
      have l4 := B.l4
      have l5 := B.l5
      have lS := R.lS
      rcases hh with e | e | e | e | e
      · omega
      · omega
      · omega
      · have := B.oS.in_ _ e; omega
      · have := R.oR.in_ _ e; omega
    have hh : Hot (hot2 b4 b5 bS vS vR) (hot3 b4 b5 bS bR vS vR) h h1 := ⟨by omega, fun x hx _ => w1.old x hx, fun x hx hh => by
      rcases hh with e | e
      · exact e
      · omega⟩
    have hrow : h1.t.get bR = some (.cells (prow ns (nC sh) (i * (nR sh * nC sh) + r * nC sh) 0) 9 false) := by rw [prow_0]; exact w1.at_
    have B1 := B.step hh (w1.old b4 B.l4) (w1.old b5 B.l5) (fun x hx => w1.old x (B.oS.in_ x hx)) (.inl B.h4) (.inl B.h5) (fun x hx => .inl (B.hS x hx)) (fun x hx => by
      rcases hx with e | e
      · exact B.hN x e
      · omega)
    have R1 := R.step hh (w1.old bS R.lS) (fun x hx => w1.old x (R.oR.in_ x hx)) (.inl R.hS) (fun x hx => .inl (R.hR x hx))
    refine row_loop3 Q A (by omega) (p := i * (nR sh * nC sh) + r * nC sh) (r := r) (by omega) (by omega) (by rw [hrl]; omega) hnot (by omega) (fun h2 vR' ws' B2 R2 => ?_) (nC sh) 0 (by omega) (by omega) h1 B1 R1 hrow (by omega)
    have e1 : i * (nR sh * nC sh) + r * nC sh + nC sh = i * (nR sh * nC sh) + (r + 1) * nC sh := by rw [Nat.succ_mul]; omega
    rw [e1]
    refine ih (r + 1) (by omega) (by omega) h2 vR' ws' B2 ?_
    have e2 : rowsT ns (nC sh) (r + 1) (i * (nR sh * nC sh)) = rowsT ns (nC sh) r (i * (nR sh * nC sh)) ++ [rowT ns (nC sh) (i * (nR sh * nC sh) + r * nC sh)] := by
      unfold rowsT
      rw [List.range_succ, List.map_append]
      rfl
    rw [e2]
    exact R2
theorem sheets_loop1 (Q : V → Hp → Prop) {N : Nat} {h0 : Hp} {v0 : V} {ns : List Nat} (A : BArgs N h0 v0 ns) {sh : Nat} (hsh : sh < 256) {b4 b5 : Nat}
    (hq : ∀ h vS, BokAt h.n h (.agg [vS]) (bookT ns sh) → Ext N h0 h → Q (.agg [vS]) h) :
    ∀ (k i : Nat), nS sh - i = k → i ≤ nS sh → ∀ (h : Hp) (vS : V) (cs : List V), BB N h0 h (hot1 b4 b5 vS) b4 b5 vS cs ((List.range i).map (shtT ns sh)) →
      L_law10_Book_1 Q v0 (.int .u8 sh) (.ptr b4 0) (.ptr b5 0) (.int .i64 (min (i * (nR sh * nC sh)) ns.length : Nat)) (.int .i64 i) h := by
  have hAl := A.len
  have hC := @nC_le sh
  have hR := @nR_le sh
  have hS := @nS_le sh
  intro k
  induction k with
  | zero =>
    intro i hk hi h vS cs B
    have hie : i = nS sh := by omega
    subst hie
    apply r_law10_Book_1
    unfold t_law10_Book_1
    rw [conv8 sh hsh, show (3 : Int) = ((3 : Nat) : Int) from rfl, remN _ _ (by omega), show (1 : Int) = ((1 : Nat) : Int) from rfl, addN _ _ (by omega), pu_lssN, decide_eq_false (by unfold nS; omega : ¬ nS sh < 1 + sh % 3), pu_cond_f]
    rw [pu_loadS l_api_Book B.a5 (l := [vS]) rfl]
    have cS : vS.cells = [vS] ∧ vS.isCell = true := B.oS.rd.c1
    refine pu_storeX l_api_Book B.a4 (x := .agg [vS]) rfl (cells1 cS.2) (r := [vS]) rfl fun h1 w1 => ?_
    have n1 := w1.n
    rw [pu_loadS l_api_Book w1.at_ (l := [vS]) rfl]
    have h4N := B.hN b4 B.h4
    have hh : Hot (hot1 b4 b5 vS) (fun _ => False) h h1 := ⟨by omega, fun x _ hn => w1.other x fun e => hn (.inl e), fun x _ hx => hx.elim⟩
    refine hq h1 vS ⟨vS, rfl, cs, ?_, ?_, fun j s hj => ?_⟩ (B.ext.trans ⟨by omega, fun x hx => w1.other x (by omega)⟩)
    · have := (B.oS.keep (by omega : h.n ≤ h1.n) fun x hx => w1.other x (B.sS x hx).1).rd
      exact this
    · exact fun x hx => by have := B.oS.in_ x hx; omega
    · obtain ⟨rv, g1, g2⟩ := B.el j s hj
      obtain ⟨vs, r1, r2, r3⟩ := g2.step hh
      exact ⟨rv, g1, vs, r1, fun x hx => (r2 x hx).1, fun i' r' hr' => by
        obtain ⟨w, q1, q2⟩ := r3 i' r' hr'
        exact ⟨w, q1, q2.1, fun x hx => (q2.2 x hx).1⟩⟩
  | succ k ih =>
    intro i hk hi h vS cs B
    have nn := B.nn
    have l4 := B.l4
    have l5 := B.l5
    have hi3 : i < 3 := by omega
    have h64 : sh / 64 ≤ 3 := by omega
    have hm6 : sh / 64 * i ≤ 3 * 2 := Nat.mul_le_mul h64 (by omega)
    apply r_law10_Book_1
    unfold t_law10_Book_1
    rw [conv8 sh hsh, show (3 : Int) = ((3 : Nat) : Int) from rfl, remN _ _ (by omega), show (1 : Int) = ((1 : Nat) : Int) from rfl, addN _ _ (by omega), pu_lssN, decide_eq_true (by unfold nS at hk; omega : i < 1 + sh % 3), pu_cond_t]
    rw [show (65 : Int) = ((65 : Nat) : Int) from rfl, addN _ _ (by omega), conv8 sh hsh, show (64 : Int) = ((64 : Nat) : Int) from rfl, quoN _ _ (by omega) (by omega), mulN _ _ (by omega), addN _ _ (by omega), to8 _ (by omega)]
    rw [pu_lit1 s_sl_uint8 l_uint8 _ rfl (by omega)]
    obtain ⟨h1, hh1⟩ : ∃ h1, h1 = h.new (.cells [.int .u8 ((65 + i + sh / 64 * i : Nat) : Int)] 5 false) := ⟨_, rfl⟩
    have w1 : New h h1 h.n (.cells [.int .u8 ((65 + i + sh / 64 * i : Nat) : Int)] 5 false) := by rw [hh1]; exact New.mk' _ _
    have o1 : Own h.n h1 (.sl h.n 0 1 1) 5 1 1 [.int .u8 ((65 + i + sh / 64 * i : Nat) : Int)] := by rw [hh1]; exact rd_lit rfl
    have e1 : h.new (.cells (V.int .u8 ((65 + i + sh / 64 * i : Nat) : Int)).cells 5 false) = h1 := hh1.symm
    rw [e1]
    have n1 := w1.n
    have hr1 : Rd h1 1 (.sl h.n 0 1 1) (nameT sh i).length ((nameT sh i).map fun (b : Nat) => V.int .u8 (b : Int)) := o1.rd
    rw [pu_conv_bs hr1 (fun x hx => by unfold nameT at hx; rw [List.mem_singleton] at hx; omega) s_sl_uint8 i_uint8 st_string]
    rw [conv8 sh hsh, quoN _ _ (by omega) (by omega), show (4 : Int) = ((4 : Nat) : Int) from rfl, remN _ _ (by omega), addN _ _ (by omega)]
    rw [pu_build so_api_Sheet _ (fun p hp => by
      simp only [List.mem_cons, List.not_mem_nil, or_false] at hp
      rcases hp with rfl | rfl
      · exact c1_str _
      · exact c1_int _ _) rfl]
    have hset : setAll [(0, 1), (1, 1), (2, 1)] [V.str [], V.int .i64 0, V.nils] [(0, V.str (nameT sh i)), (1, V.int .i64 ((1 + sh / 3 % 4 : Nat) : Int))] = [.str (nameT sh i), .int .i64 (nC sh), .nils] := rfl
    rw [hset]
    refine pu_allocX l_api_Sheet fun h2 bS w2 => ?_
    have n2 := w2.n
    have e2 := w2.b
    refine pu_storeX l_api_Sheet w2.at_ (x := .agg [.str (nameT sh i), .int .i64 (nC sh), .nils]) rfl rfl (r := [.str (nameT sh i), .int .i64 (nC sh), .nils]) rfl fun h3 w3 => ?_
    have n3 := w3.n
    have ch : ∀ x, x < h.n → h3.t.get x = h.t.get x := fun x hx => by rw [w3.other x (by omega), w2.old x (by omega), w1.old x hx]
    have hh : Hot (hot1 b4 b5 vS) (hot2 b4 b5 bS vS .nils) h h3 := ⟨by omega, fun x hx _ => ch x hx, fun x hx hh => by
      rcases hh with e | e | e | e | e
      · exact .inl e
      · exact .inr (.inl e)
      · omega
      · exact .inr (.inr e)
      · cases e⟩
    have B3 := B.step hh (ch b4 l4) (ch b5 l5) (fun x hx => ch x (B.oS.in_ x hx)) (.inl rfl) (.inr (.inl rfl)) (fun x hx => .inr (.inr (.inr (.inl hx)))) (fun x hx => by
      rcases hx with e | e | e | e | e
      · have := B.hN b4 B.h4; omega
      · have := B.hN b5 B.h5; omega
      · omega
      · exact B.hN x (.inr (.inr e))
      · cases e)
    have R3 : BR N h3 (hot2 b4 b5 bS vS .nils) b4 b5 bS vS (nameT sh i) (nC sh) .nils [] (rowsT ns (nC sh) 0 (i * (nR sh * nC sh))) :=
      ⟨w3.at_, Own.nil _ _ _ _, rfl, fun j r hr => (by simp [rowsT] at hr), .inr (.inr (.inl rfl)), fun x hx => (by cases hx), fun x hx => (by cases hx), by omega, by omega, fun e => by have := B.oS.in_ bS e; omega, by omega⟩
    have hz : i * (nR sh * nC sh) = i * (nR sh * nC sh) + 0 * nC sh := by omega
    rw [hz]
    refine rows_loop2 Q A hsh hi3 (by simp; omega) (fun h4 vS' cs' B4 => ?_) (nR sh) 0 (by omega) (by omega) h3 .nils [] B3 R3
    refine ih (i + 1) (by omega) (by omega) h4 vS' cs' ?_
    rw [List.range_succ, List.map_append]
    exact B4
theorem book_ok {h : Hp} {v0 : V} {ns : List Nat} {sh : Nat} (hsh : sh < 256) (A : BArgs h.n h v0 ns) : Ans EE 14 [v0, .int .u8 sh] h fun x h' => BokAt h'.n h' x (bookT ns sh) ∧ Ext h.n h h' := by
  apply a_law10_Book
  unfold t_law10_Book_0
  refine pu_allocX l_api_Book fun h1 b4 w1 => ?_
  refine pu_allocX l_api_Book fun h2 b5 w2 => ?_
  have n1 := w1.n
  have n2 := w2.n
  have e1 := w1.b
  have e2 := w2.b
  have B : BB h.n h h2 (hot1 b4 b5 .nils) b4 b5 .nils [] ((List.range 0).map (shtT ns sh)) :=
    ⟨by rw [w2.old b4 (by omega)]; exact w1.at_, w2.at_, Own.nil _ _ _ _, rfl, fun j s hj => (by simp at hj), .inl rfl, .inr (.inl rfl), fun x hx => (by cases hx), fun x hx => (by rcases hx with e | e | e; omega; omega; cases e), fun x hx => (by cases hx), by omega, by omega, by omega, (w1.ext (Nat.le_refl _)).trans (w2.ext (by omega)), by omega⟩
  have := sheets_loop1 (fun x h' => BokAt h'.n h' x (bookT ns sh) ∧ Ext h.n h h') A hsh (b4 := b4) (b5 := b5) (fun h3 vS k e => ⟨k, e⟩) (nS sh) 0 (by omega) (by omega) h2 .nils [] B
  simpa using this
end
end Go.Proofs.YtlllhhjlfmhmlaaGreatDoor.VM
namespace Go.Proofs.YtlllhhjlfmhmlaaGreatDoor.VM
open Go
set_option linter.unusedVariables false
set_option maxRecDepth 100000
noncomputable section
noncomputable def c_container_heap_Push : Code := match Tryz.f25.body with | some c => c | none => .skip
theorem b_container_heap_Push : Tryz.f25.body = some c_container_heap_Push := by kernel_rfl
theorem e_container_heap_Push : EE.fn.get 25 = some Tryz.f25 := by kernel_rfl
noncomputable def t_container_heap_Push_0 (p : Pr) (Q : V → Hp → Prop) (v0 v1 : V) (h : Hp) : Prop :=
  p.invk v0 "Push" [v1] h fun x1 h2 =>
  p.invk v0 "Len" [] h2 fun x3 h4 =>
  p.bin .sub 3 false true x3 (.int .i64 1) fun x5 =>
  p.call 44 [v0, x5] h4 fun x6 h7 =>
  Q u0 h7
theorem q_container_heap_Push_0 (p : Pr) (Q : V → Hp → Prop) (v0 v1 : V) (h : Hp) : t_container_heap_Push_0 p Q v0 v1 h = KAt p EE (cutOf []) (fun _ _ _ _ => False) c_container_heap_Push [] [] (finK p Tryz.f25 Q) ([v0, v1] ++ List.replicate 10 u0) h [] := by kernel_rfl
theorem a_container_heap_Push {Q : V → Hp → Prop} {v0 v1 : V} {h : Hp} (H : t_container_heap_Push_0 (Pu EE) Q v0 v1 h) : Ans EE 25 [v0, v1] h Q :=
  ans_of (by kernel_rfl) e_container_heap_Push b_container_heap_Push (by kernel_rfl) (lab_ofX (fun _ _ _ _ h => h.elim) [] (cast (q_container_heap_Push_0 (Pu EE) Q v0 v1 h) H))
noncomputable def c_container_heap_Pop : Code := match Tryz.f27.body with | some c => c | none => .skip
theorem b_container_heap_Pop : Tryz.f27.body = some c_container_heap_Pop := by kernel_rfl
theorem e_container_heap_Pop : EE.fn.get 27 = some Tryz.f27 := by kernel_rfl
noncomputable def t_container_heap_Pop_0 (p : Pr) (Q : V → Hp → Prop) (v0 : V) (h : Hp) : Prop :=
  p.invk v0 "Len" [] h fun x1 h2 =>
  p.bin .sub 3 false true x1 (.int .i64 1) fun x3 =>
  p.invk v0 "Swap" [(.int .i64 0), x3] h2 fun x4 h5 =>
  p.call 45 [v0, (.int .i64 0), x3] h5 fun x6 h7 =>
  p.invk v0 "Pop" [] h7 fun x8 h9 =>
  Q x8 h9
theorem q_container_heap_Pop_0 (p : Pr) (Q : V → Hp → Prop) (v0 : V) (h : Hp) : t_container_heap_Pop_0 p Q v0 h = KAt p EE (cutOf []) (fun _ _ _ _ => False) c_container_heap_Pop [] [] (finK p Tryz.f27 Q) ([v0] ++ List.replicate 14 u0) h [] := by kernel_rfl
theorem a_container_heap_Pop {Q : V → Hp → Prop} {v0 : V} {h : Hp} (H : t_container_heap_Pop_0 (Pu EE) Q v0 h) : Ans EE 27 [v0] h Q :=
  ans_of (by kernel_rfl) e_container_heap_Pop b_container_heap_Pop (by kernel_rfl) (lab_ofX (fun _ _ _ _ h => h.elim) [] (cast (q_container_heap_Pop_0 (Pu EE) Q v0 h) H))
noncomputable def c_container_heap_up : Code := match Tryz.f44.body with | some c => c | none => .skip
theorem b_container_heap_up : Tryz.f44.body = some c_container_heap_up := by kernel_rfl
theorem e_container_heap_up : EE.fn.get 44 = some Tryz.f44 := by kernel_rfl
noncomputable def L_container_heap_up_1 (Q : V → Hp → Prop) (v0 v1 : V) (h : Hp) : Prop := ∀ s : List V, s.length = (Tryz.f44).ntmps → nth s 0 = v0 ∧ nth s 1 = v1 → Lab EE Tryz.f44 c_container_heap_up Q [false] s h []
noncomputable def X_container_heap_up (l1 : V → V → Hp → Prop) : Lb := fun π s h d => match d with
  | [] => bif eqB [false] π then l1 (nth s 0) (nth s 1) h else False
  | _ => False
theorem o_container_heap_up (Q : V → Hp → Prop) : ∀ π s h d, X_container_heap_up (L_container_heap_up_1 Q) π s h d → s.length = (Tryz.f44).ntmps → Lab EE Tryz.f44 c_container_heap_up Q π s h d := by
  intro π s h d hx hl
  cases d with
  | cons _ _ => exact hx.elim
  | nil =>
    simp only [X_container_heap_up] at hx
    cases hk : eqB [false] π with
    | true => rw [hk, cond_true] at hx; rw [← eqB_eq hk]; exact hx s hl ⟨rfl, rfl⟩
    | false =>
    rw [hk, cond_false] at hx
    exact hx.elim
noncomputable def t_container_heap_up_0 (p : Pr) (l1 : V → V → Hp → Prop) (Q : V → Hp → Prop) (v0 v1 : V) (h : Hp) : Prop :=
  l1 v0 v1 h
theorem q_container_heap_up_0 (p : Pr) (l1 : V → V → Hp → Prop) (Q : V → Hp → Prop) (v0 v1 : V) (h : Hp) : t_container_heap_up_0 p l1 Q v0 v1 h = KAt p EE (cutOf [[false]]) (X_container_heap_up l1) c_container_heap_up [] [] (finK p Tryz.f44 Q) ([v0, v1] ++ List.replicate 21 u0) h [] := by kernel_rfl
theorem a_container_heap_up {Q : V → Hp → Prop} {v0 v1 : V} {h : Hp} (H : t_container_heap_up_0 (Pu EE) (L_container_heap_up_1 Q) Q v0 v1 h) : Ans EE 44 [v0, v1] h Q :=
  ans_of (by kernel_rfl) e_container_heap_up b_container_heap_up (by kernel_rfl) (lab_ofX (o_container_heap_up Q) [] (cast (q_container_heap_up_0 (Pu EE) (L_container_heap_up_1 Q) Q v0 v1 h) H))
noncomputable def t_container_heap_up_1 (p : Pr) (l1 : V → V → Hp → Prop) (Q : V → Hp → Prop) (v0 v1 : V) (h : Hp) : Prop :=
  p.bin .sub 3 false true v1 (.int .i64 1) fun x1 =>
  p.bin .quo 3 false true x1 (.int .i64 2) fun x2 =>
  p.bin .eql 3 false false x2 v1 fun x3 =>
  p.gval x3 false (fun k4 =>
   k4 v0) fun x5 =>
  p.gval x3 false (fun k6 =>
   k6 v1) fun x7 =>
  p.gval x3 false (fun k8 =>
   k8 x2) fun x9 =>
  p.geff x3 false (fun k10 =>
   p.invk x5 "Less" [x7, x9] h fun x11 h12 =>
   k10 x11 h12) h fun x13 h14 =>
  p.gval x3 false (fun k15 =>
   p.un .not x13 fun x16 =>
   k15 x16) fun x17 =>
  p.pick x3 (some (.bool true)) (some x17) fun x18 =>
  p.cond x18
  (fun _ =>
   Q u0 h14)
  (fun _ =>
   p.invk v0 "Swap" [x2, v1] h14 fun x19 h20 =>
   l1 v0 x2 h20)
theorem q_container_heap_up_1 (p : Pr) (l1 : V → V → Hp → Prop) (Q : V → Hp → Prop) (s : List V) (h : Hp) : t_container_heap_up_1 p l1 Q (nth s 0) (nth s 1) h = KAt p EE (cutOf [[false]]) (X_container_heap_up l1) c_container_heap_up [] [false] (finK p Tryz.f44 Q) (nths s 23 0) h [] := by kernel_rfl
theorem r_container_heap_up_1 {Q : V → Hp → Prop} {v0 v1 : V} {h : Hp} (H : t_container_heap_up_1 (Pu EE) (L_container_heap_up_1 Q) Q v0 v1 h) : L_container_heap_up_1 Q v0 v1 h := by
  intro s hl ⟨e0, e1⟩
  subst e0 e1
  have hl : s.length = 23 := hl
  rw [nth_all hl]
  exact lab_ofX (o_container_heap_up Q) [false] (cast (q_container_heap_up_1 (Pu EE) (L_container_heap_up_1 Q) Q s h) H)
noncomputable def c_container_heap_down : Code := match Tryz.f45.body with | some c => c | none => .skip
theorem b_container_heap_down : Tryz.f45.body = some c_container_heap_down := by kernel_rfl
theorem e_container_heap_down : EE.fn.get 45 = some Tryz.f45 := by kernel_rfl
noncomputable def L_container_heap_down_1 (Q : V → Hp → Prop) (v0 v1 v2 v7 : V) (h : Hp) : Prop := ∀ s : List V, s.length = (Tryz.f45).ntmps → nth s 0 = v0 ∧ nth s 1 = v1 ∧ nth s 2 = v2 ∧ nth s 7 = v7 → Lab EE Tryz.f45 c_container_heap_down Q [false, false, true, true] s h []
noncomputable def L_container_heap_down_2 (Q : V → Hp → Prop) (v0 v1 v2 v7 v9 : V) (h : Hp) : Prop := ∀ s : List V, s.length = (Tryz.f45).ntmps → nth s 0 = v0 ∧ nth s 1 = v1 ∧ nth s 2 = v2 ∧ nth s 7 = v7 ∧ nth s 9 = v9 → Lab EE Tryz.f45 c_container_heap_down Q [true, true, true, true, false, false, false, false, true, true] s h []
noncomputable def X_container_heap_down (l1 : V → V → V → V → Hp → Prop) (l2 : V → V → V → V → V → Hp → Prop) : Lb := fun π s h d => match d with
  | [] => bif eqB [false, false, true, true] π then l1 (nth s 0) (nth s 1) (nth s 2) (nth s 7) h else bif eqB [true, true, true, true, false, false, false, false, true, true] π then l2 (nth s 0) (nth s 1) (nth s 2) (nth s 7) (nth s 9) h else False
  | _ => False
theorem o_container_heap_down (Q : V → Hp → Prop) : ∀ π s h d, X_container_heap_down (L_container_heap_down_1 Q) (L_container_heap_down_2 Q) π s h d → s.length = (Tryz.f45).ntmps → Lab EE Tryz.f45 c_container_heap_down Q π s h d := by
  intro π s h d hx hl
  cases d with
  | cons _ _ => exact hx.elim
  | nil =>
    simp only [X_container_heap_down] at hx
    cases hk : eqB [false, false, true, true] π with
    | true => rw [hk, cond_true] at hx; rw [← eqB_eq hk]; exact hx s hl ⟨rfl, rfl, rfl, rfl⟩
    | false =>
    rw [hk, cond_false] at hx
    cases hk : eqB [true, true, true, true, false, false, false, false, true, true] π with
    | true => rw [hk, cond_true] at hx; rw [← eqB_eq hk]; exact hx s hl ⟨rfl, rfl, rfl, rfl, rfl⟩
    | false =>
    rw [hk, cond_false] at hx
    exact hx.elim
noncomputable def t_container_heap_down_0 (p : Pr) (l1 : V → V → V → V → Hp → Prop) (l2 : V → V → V → V → V → Hp → Prop) (Q : V → Hp → Prop) (v0 v1 v2 : V) (h : Hp) : Prop :=
  l1 v0 v1 v2 v1 h
theorem q_container_heap_down_0 (p : Pr) (l1 : V → V → V → V → Hp → Prop) (l2 : V → V → V → V → V → Hp → Prop) (Q : V → Hp → Prop) (v0 v1 v2 : V) (h : Hp) : t_container_heap_down_0 p l1 l2 Q v0 v1 v2 h = KAt p EE (cutOf [[false, false, true, true], [true, true, true, true, false, false, false, false, true, true]]) (X_container_heap_down l1 l2) c_container_heap_down [] [] (finK p Tryz.f45 Q) ([v0, v1, v2] ++ List.replicate 45 u0) h [] := by kernel_rfl
theorem a_container_heap_down {Q : V → Hp → Prop} {v0 v1 v2 : V} {h : Hp} (H : t_container_heap_down_0 (Pu EE) (L_container_heap_down_1 Q) (L_container_heap_down_2 Q) Q v0 v1 v2 h) : Ans EE 45 [v0, v1, v2] h Q :=
  ans_of (by kernel_rfl) e_container_heap_down b_container_heap_down (by kernel_rfl) (lab_ofX (o_container_heap_down Q) [] (cast (q_container_heap_down_0 (Pu EE) (L_container_heap_down_1 Q) (L_container_heap_down_2 Q) Q v0 v1 v2 h) H))
noncomputable def t_container_heap_down_1 (p : Pr) (l1 : V → V → V → V → Hp → Prop) (l2 : V → V → V → V → V → Hp → Prop) (Q : V → Hp → Prop) (v0 v1 v2 v7 : V) (h : Hp) : Prop :=
  p.bin .mul 3 true false (.int .i64 2) v7 fun x1 =>
  p.bin .add 3 false true x1 (.int .i64 1) fun x2 =>
  p.bin .geq 3 false false x2 v2 fun x3 =>
  p.gval x3 false (fun k4 =>
   k4 x2) fun x5 =>
  p.gval x3 false (fun k6 =>
   p.bin .lss 3 false true x5 (.int .i64 0) fun x7 =>
   k6 x7) fun x8 =>
  p.pick x3 (some (.bool true)) (some x8) fun x9 =>
  p.cond x9
  (fun _ =>
   p.bin .gtr 3 false false v7 v1 fun x10 =>
   Q x10 h)
  (fun _ =>
   p.bin .add 3 false true x2 (.int .i64 1) fun x11 =>
   p.bin .lss 3 false false x11 v2 fun x12 =>
   p.gval x12 true (fun k13 =>
    k13 v0) fun x14 =>
   p.gval x12 true (fun k15 =>
    k15 x11) fun x16 =>
   p.gval x12 true (fun k17 =>
    k17 x2) fun x18 =>
   p.geff x12 true (fun k19 =>
    p.invk x14 "Less" [x16, x18] h fun x20 h21 =>
    k19 x20 h21) h fun x22 h23 =>
   p.pick x12 (some x22) (some (.bool false)) fun x24 =>
   p.cond x24
   (fun _ =>
    l2 v0 v1 v2 v7 x11 h23)
   (fun _ =>
    l2 v0 v1 v2 v7 x2 h23))
theorem q_container_heap_down_1 (p : Pr) (l1 : V → V → V → V → Hp → Prop) (l2 : V → V → V → V → V → Hp → Prop) (Q : V → Hp → Prop) (s : List V) (h : Hp) : t_container_heap_down_1 p l1 l2 Q (nth s 0) (nth s 1) (nth s 2) (nth s 7) h = KAt p EE (cutOf [[false, false, true, true], [true, true, true, true, false, false, false, false, true, true]]) (X_container_heap_down l1 l2) c_container_heap_down [] [true, true, false, false] (finK p Tryz.f45 Q) (nths s 48 0) h [] := by kernel_rfl
theorem r_container_heap_down_1 {Q : V → Hp → Prop} {v0 v1 v2 v7 : V} {h : Hp} (H : t_container_heap_down_1 (Pu EE) (L_container_heap_down_1 Q) (L_container_heap_down_2 Q) Q v0 v1 v2 v7 h) : L_container_heap_down_1 Q v0 v1 v2 v7 h := by
  intro s hl ⟨e0, e1, e2, e7⟩
  subst e0 e1 e2 e7
  have hl : s.length = 48 := hl
  rw [nth_all hl]
  exact lab_ofX (o_container_heap_down Q) [true, true, false, false] (cast (q_container_heap_down_1 (Pu EE) (L_container_heap_down_1 Q) (L_container_heap_down_2 Q) Q s h) H)
noncomputable def t_container_heap_down_2 (p : Pr) (l1 : V → V → V → V → Hp → Prop) (l2 : V → V → V → V → V → Hp → Prop) (Q : V → Hp → Prop) (v0 v1 v2 v7 v9 : V) (h : Hp) : Prop :=
  p.invk v0 "Less" [v9, v7] h fun x1 h2 =>
  p.un .not x1 fun x3 =>
  p.cond x3
  (fun _ =>
   p.bin .gtr 3 false false v7 v1 fun x4 =>
   Q x4 h2)
  (fun _ =>
   p.invk v0 "Swap" [v7, v9] h2 fun x5 h6 =>
   l1 v0 v1 v2 v9 h6)
theorem q_container_heap_down_2 (p : Pr) (l1 : V → V → V → V → Hp → Prop) (l2 : V → V → V → V → V → Hp → Prop) (Q : V → Hp → Prop) (s : List V) (h : Hp) : t_container_heap_down_2 p l1 l2 Q (nth s 0) (nth s 1) (nth s 2) (nth s 7) (nth s 9) h = KAt p EE (cutOf [[false, false, true, true], [true, true, true, true, false, false, false, false, true, true]]) (X_container_heap_down l1 l2) c_container_heap_down [] [true, true, false, false, false, false, true, true, true, true] (finK p Tryz.f45 Q) (nths s 48 0) h [] := by kernel_rfl
theorem r_container_heap_down_2 {Q : V → Hp → Prop} {v0 v1 v2 v7 v9 : V} {h : Hp} (H : t_container_heap_down_2 (Pu EE) (L_container_heap_down_1 Q) (L_container_heap_down_2 Q) Q v0 v1 v2 v7 v9 h) : L_container_heap_down_2 Q v0 v1 v2 v7 v9 h := by
  intro s hl ⟨e0, e1, e2, e7, e9⟩
  subst e0 e1 e2 e7 e9
  have hl : s.length = 48 := hl
  rw [nth_all hl]
  exact lab_ofX (o_container_heap_down Q) [true, true, false, false, false, false, true, true, true, true] (cast (q_container_heap_down_2 (Pu EE) (L_container_heap_down_1 Q) (L_container_heap_down_2 Q) Q s h) H)
noncomputable def c_deps_queue_Len : Code := match Tryz.f26.body with | some c => c | none => .skip
theorem b_deps_queue_Len : Tryz.f26.body = some c_deps_queue_Len := by kernel_rfl
theorem e_deps_queue_Len : EE.fn.get 26 = some Tryz.f26 := by kernel_rfl
noncomputable def t_deps_queue_Len_0 (p : Pr) (Q : V → Hp → Prop) (v0 : V) (h : Hp) : Prop :=
  p.nilc v0 fun x1 =>
  p.load h 56 x1 fun x2 =>
  p.lbui h #[56] .len [x2] fun x3 =>
  Q x3 h
theorem q_deps_queue_Len_0 (p : Pr) (Q : V → Hp → Prop) (v0 : V) (h : Hp) : t_deps_queue_Len_0 p Q v0 h = KAt p EE (cutOf []) (fun _ _ _ _ => False) c_deps_queue_Len [] [] (finK p Tryz.f26 Q) ([v0] ++ List.replicate 6 u0) h [] := by kernel_rfl
theorem a_deps_queue_Len {Q : V → Hp → Prop} {v0 : V} {h : Hp} (H : t_deps_queue_Len_0 (Pu EE) Q v0 h) : Ans EE 26 [v0] h Q :=
  ans_of (by kernel_rfl) e_deps_queue_Len b_deps_queue_Len (by kernel_rfl) (lab_ofX (fun _ _ _ _ h => h.elim) [] (cast (q_deps_queue_Len_0 (Pu EE) Q v0 h) H))
noncomputable def c_deps_queue_Less : Code := match Tryz.f245.body with | some c => c | none => .skip
theorem b_deps_queue_Less : Tryz.f245.body = some c_deps_queue_Less := by kernel_rfl
theorem e_deps_queue_Less : EE.fn.get 245 = some Tryz.f245 := by kernel_rfl
noncomputable def t_deps_queue_Less_0 (p : Pr) (Q : V → Hp → Prop) (v0 v1 v2 : V) (h : Hp) : Prop :=
  p.nilc v0 fun x1 =>
  p.load h 56 x1 fun x2 =>
  p.iaddr 56 x2 v1 fun x3 =>
  p.load h 26 x3 fun x4 =>
  p.nilc v0 fun x5 =>
  p.load h 56 x5 fun x6 =>
  p.iaddr 56 x6 v2 fun x7 =>
  p.load h 26 x7 fun x8 =>
  p.call 19 [x4, x8] h fun x9 h10 =>
  p.bin .lss 3 false true x9 (.int .i64 0) fun x11 =>
  Q x11 h10
theorem q_deps_queue_Less_0 (p : Pr) (Q : V → Hp → Prop) (v0 v1 v2 : V) (h : Hp) : t_deps_queue_Less_0 p Q v0 v1 v2 h = KAt p EE (cutOf []) (fun _ _ _ _ => False) c_deps_queue_Less [] [] (finK p Tryz.f245 Q) ([v0, v1, v2] ++ List.replicate 18 u0) h [] := by kernel_rfl
theorem a_deps_queue_Less {Q : V → Hp → Prop} {v0 v1 v2 : V} {h : Hp} (H : t_deps_queue_Less_0 (Pu EE) Q v0 v1 v2 h) : Ans EE 245 [v0, v1, v2] h Q :=
  ans_of (by kernel_rfl) e_deps_queue_Less b_deps_queue_Less (by kernel_rfl) (lab_ofX (fun _ _ _ _ h => h.elim) [] (cast (q_deps_queue_Less_0 (Pu EE) Q v0 v1 v2 h) H))
noncomputable def c_deps_queue_Swap : Code := match Tryz.f248.body with | some c => c | none => .skip
theorem b_deps_queue_Swap : Tryz.f248.body = some c_deps_queue_Swap := by kernel_rfl
theorem e_deps_queue_Swap : EE.fn.get 248 = some Tryz.f248 := by kernel_rfl
noncomputable def t_deps_queue_Swap_0 (p : Pr) (Q : V → Hp → Prop) (v0 v1 v2 : V) (h : Hp) : Prop :=
  p.nilc v0 fun x1 =>
  p.load h 56 x1 fun x2 =>
  p.nilc v0 fun x3 =>
  p.load h 56 x3 fun x4 =>
  p.nilc v0 fun x5 =>
  p.load h 56 x5 fun x6 =>
  p.iaddr 56 x6 v2 fun x7 =>
  p.load h 26 x7 fun x8 =>
  p.nilc v0 fun x9 =>
  p.load h 56 x9 fun x10 =>
  p.iaddr 56 x10 v1 fun x11 =>
  p.load h 26 x11 fun x12 =>
  p.iaddr 56 x2 v1 fun x13 =>
  p.store h 26 x13 x8 fun h14 =>
  p.iaddr 56 x4 v2 fun x15 =>
  p.store h14 26 x15 x12 fun h16 =>
  Q u0 h16
theorem q_deps_queue_Swap_0 (p : Pr) (Q : V → Hp → Prop) (v0 v1 v2 : V) (h : Hp) : t_deps_queue_Swap_0 p Q v0 v1 v2 h = KAt p EE (cutOf []) (fun _ _ _ _ => False) c_deps_queue_Swap [] [] (finK p Tryz.f248 Q) ([v0, v1, v2] ++ List.replicate 25 u0) h [] := by kernel_rfl
theorem a_deps_queue_Swap {Q : V → Hp → Prop} {v0 v1 v2 : V} {h : Hp} (H : t_deps_queue_Swap_0 (Pu EE) Q v0 v1 v2 h) : Ans EE 248 [v0, v1, v2] h Q :=
  ans_of (by kernel_rfl) e_deps_queue_Swap b_deps_queue_Swap (by kernel_rfl) (lab_ofX (fun _ _ _ _ h => h.elim) [] (cast (q_deps_queue_Swap_0 (Pu EE) Q v0 v1 v2 h) H))
noncomputable def c_deps_queue_Push : Code := match Tryz.f247.body with | some c => c | none => .skip
theorem b_deps_queue_Push : Tryz.f247.body = some c_deps_queue_Push := by kernel_rfl
theorem e_deps_queue_Push : EE.fn.get 247 = some Tryz.f247 := by kernel_rfl
noncomputable def t_deps_queue_Push_0 (p : Pr) (Q : V → Hp → Prop) (v0 v1 : V) (h : Hp) : Prop :=
  p.assert v1 26 true fun x1 =>
  p.extr x1 0 fun x2 =>
  p.extr x1 1 fun x3 =>
  p.alloc h 26 fun x4 h5 b6 =>
  p.store h5 26 x4 x2 fun h7 =>
  p.cond x3
  (fun _ =>
   p.nilc v0 fun x8 =>
   p.load h7 56 x8 fun x9 =>
   p.load h7 26 x4 fun x10 =>
   p.bsl h7 56 1 [(0, x10)] fun x11 h12 b13 =>
   p.load h12 26 x4 fun x14 =>
   p.same x14 x10 (
   p.load h12 56 x8 fun x15 =>
   p.same x15 x9 (
   p.ebui h12 #[56, 56] .append [x9, x11] fun x16 h17 =>
   p.nilc v0 fun x18 =>
   p.store h17 56 x18 x16 fun h19 =>
   Q u0 h19)))
  (fun _ =>
   Q u0 h7)
theorem q_deps_queue_Push_0 (p : Pr) (Q : V → Hp → Prop) (v0 v1 : V) (h : Hp) : t_deps_queue_Push_0 p Q v0 v1 h = KAt p EE (cutOf []) (fun _ _ _ _ => False) c_deps_queue_Push [] [] (finK p Tryz.f247 Q) ([v0, v1] ++ List.replicate 18 u0) h [] := by kernel_rfl
theorem a_deps_queue_Push {Q : V → Hp → Prop} {v0 v1 : V} {h : Hp} (H : t_deps_queue_Push_0 (Pu EE) Q v0 v1 h) : Ans EE 247 [v0, v1] h Q :=
  ans_of (by kernel_rfl) e_deps_queue_Push b_deps_queue_Push (by kernel_rfl) (lab_ofX (fun _ _ _ _ h => h.elim) [] (cast (q_deps_queue_Push_0 (Pu EE) Q v0 v1 h) H))
noncomputable def c_deps_queue_Pop : Code := match Tryz.f246.body with | some c => c | none => .skip
theorem b_deps_queue_Pop : Tryz.f246.body = some c_deps_queue_Pop := by kernel_rfl
theorem e_deps_queue_Pop : EE.fn.get 246 = some Tryz.f246 := by kernel_rfl
noncomputable def t_deps_queue_Pop_0 (p : Pr) (Q : V → Hp → Prop) (v0 : V) (h : Hp) : Prop :=
  p.nilc v0 fun x1 =>
  p.load h 56 x1 fun x2 =>
  p.nilc v0 fun x3 =>
  p.load h 56 x3 fun x4 =>
  p.lbui h #[56] .len [x4] fun x5 =>
  p.bin .sub 3 false true x5 (.int .i64 1) fun x6 =>
  p.iaddr 56 x2 x6 fun x7 =>
  p.load h 26 x7 fun x8 =>
  p.alloc h 26 fun x9 h10 b11 =>
  p.load h10 26 x7 fun x12 =>
  p.same x12 x8 (
  p.lbui h10 #[56] .len [x4] fun x13 =>
  p.same x13 x5 (
  p.load h10 56 x3 fun x14 =>
  p.same x14 x4 (
  p.load h10 56 x1 fun x15 =>
  p.same x15 x2 (
  p.store h10 26 x9 x8 fun h16 =>
  p.nilc v0 fun x17 =>
  p.load h16 56 x17 fun x18 =>
  p.nilc v0 fun x19 =>
  p.load h16 56 x19 fun x20 =>
  p.lbui h16 #[56] .len [x20] fun x21 =>
  p.bin .sub 3 false true x21 (.int .i64 1) fun x22 =>
  p.slice 56 x18 none (some x22) none fun x23 =>
  p.nilc v0 fun x24 =>
  p.store h16 56 x24 x23 fun h25 =>
  p.load h25 26 x9 fun x26 =>
  p.iface 26 x26 fun x27 =>
  Q x27 h25))))
theorem q_deps_queue_Pop_0 (p : Pr) (Q : V → Hp → Prop) (v0 : V) (h : Hp) : t_deps_queue_Pop_0 p Q v0 h = KAt p EE (cutOf []) (fun _ _ _ _ => False) c_deps_queue_Pop [] [] (finK p Tryz.f246 Q) ([v0] ++ List.replicate 26 u0) h [] := by kernel_rfl
theorem a_deps_queue_Pop {Q : V → Hp → Prop} {v0 : V} {h : Hp} (H : t_deps_queue_Pop_0 (Pu EE) Q v0 h) : Ans EE 246 [v0] h Q :=
  ans_of (by kernel_rfl) e_deps_queue_Pop b_deps_queue_Pop (by kernel_rfl) (lab_ofX (fun _ _ _ _ h => h.elim) [] (cast (q_deps_queue_Pop_0 (Pu EE) Q v0 h) H))
end
end Go.Proofs.YtlllhhjlfmhmlaaGreatDoor.VM
namespace Go.Proofs.YtlllhhjlfmhmlaaGreatDoor.VM
open Go
set_option linter.unusedVariables false
set_option linter.unusedSectionVars false
set_option linter.unusedSimpArgs false
set_option maxRecDepth 20000
noncomputable section
attribute [local instance] syZ
theorem s_queue : IsSl EE 56 26 := isSl (by kernel_rfl)
theorem l_queue : El EE 56 1 [.nils] false := el_of (by kernel_rfl) rfl
/-- the queue: its box b, the slice's block qb, the cells l -/
structure QAt (N : Nat) (h : Hp) (b qb : Nat) (l : List Spt) : Prop where
  at_ : ∃ (v : V) (rest : List V) (lo : Nat), h.t.get b = some (.cells [v] 56 false) ∧ h.t.get qb = some (.cells (spCs l ++ rest) 26 false) ∧ rest.length = (lo - l.length) * 3 ∧ l.length ≤ lo ∧ allCells rest = true ∧
    (v = .slo qb 0 l.length lo 3 ∨ v = .sl qb 0 0 0 ∧ lo = 0)
  ne : b ≠ qb
  nb : N ≤ b
  nq : N ≤ qb
  bn : b < h.n
  qn : qb < h.n
theorem QAt.keep {N : Nat} {h h' : Hp} {b qb : Nat} {l : List Spt} (a : QAt N h b qb l) (hn : h.n ≤ h'.n) (hb : h'.t.get b = h.t.get b) (hq : h'.t.get qb = h.t.get qb) : QAt N h' b qb l := by
  obtain ⟨⟨v, rest, lo, h1, h2, h3⟩, e1, e2, e3, e4, e5⟩ := a
  exact ⟨⟨v, rest, lo, by rw [hb]; exact h1, by rw [hq]; exact h2, h3⟩, e1, e2, e3, by omega, by omega⟩
theorem QAt.ext {N : Nat} {h h' : Hp} {b qb : Nat} {l : List Spt} (a : QAt N h b qb l) (x : Ext h.n h h') : QAt N h' b qb l := a.keep x.n (x.old b a.bn) (x.old qb a.qn)
theorem QAt.sps {N : Nat} {h : Hp} {b qb : Nat} {l : List Spt} (a : QAt N h b qb l) : ∃ v, h.t.get b = some (.cells [v] 56 false) ∧ Sps h v l ∧ ∀ i, i < l.length → ∀ (k : IntKind) (q : V → Prop), (Pu EE).iaddr 56 v (.int k i) q ↔ q (.ptr qb (i * 3)) := by
  obtain ⟨⟨v, rest, lo, h1, h2, h3, h4, h5, h6⟩, _⟩ := a
  have hs : sub (spCs l ++ rest) 0 (l.length * 3) = some (spCs l) := by
    unfold sub
    have : ((spCs l ++ rest).drop 0).take (l.length * 3) = spCs l := by rw [List.drop_zero, ← spCs_len l, List.take_left]
    simp only [this, spCs_len, Nat.beq_refl, cond_true]
  have hr : rdCells h qb = some (spCs l ++ rest) := by unfold rdCells; rw [h2]
  obtain ⟨ti, t1, t2⟩ := s_queue
  obtain ⟨⟨j, t3, t4, _, _, _⟩, _⟩ := l_api_Spot
  refine ⟨v, h1, ⟨by rw [spCs_len], .inr ⟨qb, 0, spCs l ++ rest, hr, hs, ?_⟩⟩, fun i hi k q => ?_⟩
  · rcases h6 with rfl | ⟨rfl, h7⟩
    · exact .inr ⟨lo, 3, rfl⟩
    · have : l.length = 0 := by omega
      rw [this]
      exact .inl ⟨0, rfl⟩
  · show (∃ u, vindexAddr EE 56 v (.int k i) = some u ∧ q u) ↔ _
    rcases h6 with rfl | ⟨rfl, h7⟩
    · have hbl : Nat.blt i l.length = true := by rw [Nat.blt_eq]; exact hi
      simp only [vindexAddr, natOf_nat, t1, Option.bind_some, t2, t3, hbl, cond_true, t4, Nat.zero_add, ex_some]
    · omega
/-- what stays as the queue changes -/
structure QF (b qb qb' : Nat) (h h' : Hp) : Prop where
  n : h.n ≤ h'.n
  keep : ∀ c, c < h.n → c ≠ b → c ≠ qb → h'.t.get c = h.t.get c
  new : qb' = qb ∨ h.n ≤ qb'
theorem QF.trans {b q1 q2 q3 : Nat} {h h1 h2 : Hp} (x : QF b q1 q2 h h1) (y : QF b q2 q3 h1 h2) : QF b q1 q3 h h2 := by
  have a1 := x.n
  have a2 := y.n
  refine ⟨by omega, fun c hc h1 h2 => ?_, ?_⟩
  · rw [y.keep c (by omega) h1 ?_, x.keep c hc h1 h2]
    rcases x.new with e | e
    · rw [e]; exact h2
    · omega
  · rcases y.new with e | e
    · rcases x.new with e' | e'
      · exact .inl (e.trans e')
      · exact .inr (by omega)
    · exact .inr (by omega)
theorem QF.refl (b qb : Nat) (h : Hp) : QF b qb qb h h := ⟨Nat.le_refl _, fun _ _ _ _ => rfl, .inl rfl⟩
theorem QF.of_ext {b qb : Nat} {h h' : Hp} (x : Ext h.n h h') : QF b qb qb h h' := ⟨x.n, fun c hc _ _ => x.old c hc, .inl rfl⟩
theorem QF.ext {N b qb qb' : Nat} {h h' : Hp} (x : QF b qb qb' h h') (hb : N ≤ b) (hq : N ≤ qb) (hn : N ≤ h.n) : Ext N h h' := ⟨x.n, fun c hc => x.keep c (by omega) (by omega) (by omega)⟩
theorem qlen_ok {N : Nat} {h : Hp} {b qb : Nat} {l : List Spt} (a : QAt N h b qb l) : Ans EE 26 [.ptr b 0] h fun x h' => x = .int .i64 l.length ∧ h' = h := by
  obtain ⟨v, h1, h2, _⟩ := a.sps
  apply a_deps_queue_Len
  unfold t_deps_queue_Len_0
  rw [pu_nilc, pu_load1 l_queue h1 rfl, pu_len h2 s_queue]
  exact ⟨rfl, rfl⟩
theorem qless_ok {N : Nat} {h : Hp} {b qb : Nat} {l : List Spt} (a : QAt N h b qb l) {i k : Nat} (hi : i < l.length) (hk : k < l.length) : Ans EE 245 [.ptr b 0, .int .i64 i, .int .i64 k] h fun x h' => x = .bool (lessL l i k) ∧ Ext h.n h h' := by
  obtain ⟨v, h1, h2, _⟩ := a.sps
  apply a_deps_queue_Less
  unfold t_deps_queue_Less_0
  obtain ⟨b1, o1, g1, g2, _⟩ := sps_get h2 s_queue l_api_Spot (getD_some hi)
  obtain ⟨b2, o2, g3, g4, _⟩ := sps_get h2 s_queue l_api_Spot (getD_some hk)
  rw [pu_nilc, pu_load1 l_queue h1 rfl, g1, g2, pu_nilc, pu_load1 l_queue h1 rfl, g3, g4]
  refine (cmp_ok _ _ h).mono ?_
  rintro x h3 ⟨rfl, hx⟩
  rw [pu_lss]
  refine ⟨?_, hx⟩
  congr 1
  unfold lessL
  rw [Bool.eq_iff_iff, decide_eq_true_iff]
  exact cmp_lt _ _
theorem spl_pre : ∀ (a : List V) (i : Nat) (b r c : List V), spl a i b = some r → spl (a ++ c) i b = some (r ++ c)
  | l, i, [], r, c, h => by
    have e : ∀ (m : List V) (j : Nat), spl m j [] = some m := fun m j => by cases m <;> cases j <;> rfl
    rw [e] at h ⊢
    cases h
    rfl
  | [], i, w :: ws, r, c, h => by cases i <;> cases h
  | x :: l, 0, w :: ws, r, c, h => by
    simp only [spl, Option.bind_eq_some_iff, Option.some.injEq] at h
    obtain ⟨r', h1, rfl⟩ := h
    have := spl_pre l 0 ws r' c h1
    simp only [List.cons_append, spl, this, Option.bind_some]
  | x :: l, i + 1, w :: ws, r, c, h => by
    simp only [spl, Option.bind_eq_some_iff, Option.some.injEq] at h
    obtain ⟨r', h1, rfl⟩ := h
    have := spl_pre l i (w :: ws) r' c h1
    simp only [List.cons_append, spl, this, Option.bind_some]
theorem spl_here : ∀ (b ws c : List V), b.length = ws.length → spl (b ++ c) 0 ws = some (ws ++ c)
  | [], [], c, _ => by cases c <;> rfl
  | x :: b, w :: ws, c, h => by
    have := spl_here b ws c (by simpa using h)
    simp only [List.cons_append, spl, this, Option.bind_some]
theorem spl_at : ∀ (a b ws c : List V), b.length = ws.length → spl (a ++ (b ++ c)) a.length ws = some (a ++ (ws ++ c))
  | [], b, ws, c, h => spl_here b ws c h
  | x :: a, b, [], c, h => by
    have : b = [] := by simpa using h
    subst this
    rfl
  | x :: a, b, w :: ws, c, h => by
    have := spl_at a b (w :: ws) c h
    simp only [List.cons_append, List.length_cons, spl, this, Option.bind_some]
/-- an element of the queue is written -/
theorem qat_set {N : Nat} {h : Hp} {b qb : Nat} {l : List Spt} (a : QAt N h b qb l) {i : Nat} (hi : i < l.length) (x : Spt) {q : Hp → Prop} (hq : ∀ h', QAt N h' b qb (l.set i x) → h'.n = h.n → (∀ c, c ≠ qb → h'.t.get c = h.t.get c) → q h') :
    (Pu EE).store h 26 (.ptr qb (i * 3)) (spV x) q := by
  obtain ⟨⟨v, rest, lo, h1, h2, h3, h4, h5, h6⟩, e1, e2, e3, e4, e5⟩ := a
  refine pu_storeX l_api_Spot h2 rfl rfl (spl_pre _ _ _ _ rest (spl_spt l i x hi)) fun h' w => hq h' ⟨⟨v, rest, lo, by rw [w.other b e1]; exact h1, w.at_, by rw [List.length_set]; exact h3, by rw [List.length_set]; exact h4, h5, by rw [List.length_set]; exact h6⟩, e1, e2, e3, by rw [w.n]; exact e4, by rw [w.n]; exact e5⟩ w.n w.other
theorem qswap_ok {N : Nat} {h : Hp} {b qb : Nat} {l : List Spt} (a : QAt N h b qb l) {i k : Nat} (hi : i < l.length) (hk : k < l.length) : Ans EE 248 [.ptr b 0, .int .i64 i, .int .i64 k] h fun x h' => QAt N h' b qb (swapL l i k) ∧ QF b qb qb h h' := by
  obtain ⟨v, h1, h2, h3⟩ := a.sps
  apply a_deps_queue_Swap
  unfold t_deps_queue_Swap_0
  obtain ⟨b1, o1, g1, g2, _⟩ := sps_get h2 s_queue l_api_Spot (getD_some hi)
  obtain ⟨b2, o2, g3, g4, _⟩ := sps_get h2 s_queue l_api_Spot (getD_some hk)
  rw [pu_nilc, pu_load1 l_queue h1 rfl, pu_nilc, pu_load1 l_queue h1 rfl, pu_nilc, pu_load1 l_queue h1 rfl, g3, g4, pu_nilc, pu_load1 l_queue h1 rfl, g1, g2, h3 i hi]
  refine qat_set a hi _ fun h4 a4 n4 w4 => ?_
  rw [h3 k hk]
  refine qat_set a4 (by rw [List.length_set]; exact hk) _ fun h5 a5 n5 w5 => ?_
  exact ⟨a5, by omega, fun c _ _ hc => by rw [w5 c hc, w4 c hc], .inl rfl⟩
end
end Go.Proofs.YtlllhhjlfmhmlaaGreatDoor.VM
namespace Go.Proofs.YtlllhhjlfmhmlaaGreatDoor.VM
open Go
set_option linter.unusedVariables false
set_option linter.unusedSectionVars false
set_option linter.unusedSimpArgs false
set_option maxRecDepth 20000
noncomputable section
attribute [local instance] syZ
/-- the queue's slice -/
def QS (h : Hp) (v : V) (qb : Nat) (l : List Spt) : Prop := ∃ (rest : List V) (lo : Nat), h.t.get qb = some (.cells (spCs l ++ rest) 26 false) ∧ rest.length = (lo - l.length) * 3 ∧ l.length ≤ lo ∧ allCells rest = true ∧
    (v = .slo qb 0 l.length lo 3 ∨ v = .sl qb 0 0 0 ∧ lo = 0)
theorem QAt.qs {N : Nat} {h : Hp} {b qb : Nat} {l : List Spt} (a : QAt N h b qb l) : ∃ v, h.t.get b = some (.cells [v] 56 false) ∧ QS h v qb l := by
  obtain ⟨⟨v, rest, lo, h1, h2⟩, _⟩ := a
  exact ⟨v, h1, rest, lo, h2⟩
theorem QS.keep {h h' : Hp} {v : V} {qb : Nat} {l : List Spt} (a : QS h v qb l) (hq : h'.t.get qb = h.t.get qb) : QS h' v qb l := by
  obtain ⟨rest, lo, h1, h2⟩ := a
  exact ⟨rest, lo, by rw [hq]; exact h1, h2⟩
theorem same_spt (a : Spt) (k : Prop) : (Pu EE).same (spV a) (spV a) k ↔ k := by
  show (sameV _ _ = true ∧ k) ↔ k
  have : sameV (spV a) (spV a) = true := by
    show sameL (spC a) (spC a) = true
    simp [spC, sameL, same1, keq_refl, ieq_dec, seq_dec]
  simp [this]
theorem noIntQ : ∃ iu, EE.ty.get 56 = some iu ∧ ∀ k, iu.k ≠ .int k := by
  obtain ⟨i, h1, h2⟩ := s_queue; exact ⟨i, h1, fun k => by rw [h2]; simp⟩
/-- one cell more -/
theorem q_append {h : Hp} {v y : V} {qb : Nat} {l : List Spt} (a : QS h v qb l) (x : Spt) (hy : elemsV h 3 y = some (spC x, 1)) (hst : isStr y = false) (hlen : l.length + 1 ≤ 1048576) (hq : qb < h.n) :
    ∃ v' h' qb', (∀ q, (Pu EE).ebui h #[56, 56] .append [v, y] q ↔ q v' h') ∧ QS h' v' qb' (l ++ [x]) ∧ h.n ≤ h'.n ∧ (∀ c, c < h.n → c ≠ qb → h'.t.get c = h.t.get c) ∧ (qb' = qb ∨ h.n ≤ qb') ∧ qb' < h'.n := by
  obtain ⟨ti, h1, h2⟩ := s_queue
  obtain ⟨iu, h3, h4⟩ := noIntQ
  obtain ⟨⟨j, h5, h6, h7, h8, _⟩, h9⟩ := l_api_Spot
  have hss : (!isStr y || Nat.beq j.size 1) = true := by rw [hst]; rfl
  have hred : vappend EE h #[56, 56] v y = appTo h 26 j v (spC x) 1 := by
    rw [← h6] at hy
    have ht0 : (#[56, 56] : Array TypeId)[0]? = some 56 := rfl
    have ht1 : (#[56, 56] : Array TypeId)[1]? = some 56 := rfl
    have hi : iu = ti := by rw [h1] at h3; cases h3; rfl
    subst hi
    simp only [vappend, ht0, ht1, Option.bind_some, h1, h2]
    simp only [h5, Option.bind_some, hss, cond_true, elemsW_of hy]
  have fin : ∀ {v' : V} {h' : Hp}, appTo h 26 j v (spC x) 1 = some (v', h') → ∀ q : V → Hp → Prop, (Pu EE).ebui h #[56, 56] .append [v, y] q ↔ q v' h' := by
    intro v' h' ha q
    show (∃ r, ebuiV EE h #[56, 56] .append [v, y] = some r ∧ q r.1 r.2) ↔ _
    have : ebuiV EE h #[56, 56] .append [v, y] = some (v', h') := hred.trans ha
    rw [this]
    simp
  have hok := appOK_of (need := l.length + 1) h7 h6 h8 h9 hlen
  obtain ⟨rest, lo, r1, r2, r3, r4, r5⟩ := a
  have hcs : spCs (l ++ [x]) = spCs l ++ spC x := by rw [spCs_app]; simp [spCs]
  have hll : (l ++ [x]).length = l.length + 1 := by simp
  rcases r5 with rfl | ⟨rfl, r6⟩
  · by_cases hlo : l.length + 1 ≤ lo
    · have hw : wrCells h qb (0 + l.length * 3) (spC x) = some (h.set qb (.cells (spCs l ++ (spC x ++ rest.drop 3)) 26 false)) := by
        unfold wrCells
        rw [r1]
        have hs := spl_at (spCs l) (rest.take 3) (spC x) (rest.drop 3) (by rw [List.length_take]; simp [spC]; omega)
        rw [List.take_append_drop, spCs_len] at hs
        rw [Nat.zero_add]
        have hc : allCells (spC x) = true := rfl
        simp only [hc, cond_true, hs, Option.bind_some]
      have hle : Nat.ble (l.length + 1) lo = true := by rw [Nat.ble_eq]; exact hlo
      refine ⟨.slo qb 0 (l.length + 1) lo 3, h.set qb (.cells (spCs l ++ (spC x ++ rest.drop 3)) 26 false), qb, fin ?_, ⟨rest.drop 3, lo, ?_, ?_, ?_, ?_, ?_⟩, Nat.le_refl _, fun c _ hc => ?_, .inl rfl, hq⟩
      · simp only [appTo, h6, Nat.beq_refl, hle, cond_true, hw, Option.bind_some]
      · rw [Hp.get_set, if_pos rfl, hcs, List.append_assoc]
      · rw [List.length_drop, hll]; omega
      · rw [hll]; exact hlo
      · exact allCells_iff.2 fun u hu => allCells_iff.1 r4 u (List.mem_of_mem_drop hu)
      · rw [hll]; exact .inl rfl
      · rw [Hp.get_set, if_neg hc]
    · have hr : rest = [] := List.length_eq_zero_iff.1 (by omega)
      subst hr
      rw [List.append_nil] at r1
      have hle : Nat.ble (l.length + 1) lo = false := by rw [Bool.eq_false_iff]; simp [Nat.ble_eq]; omega
      have hc : allCells (spC x) = true := rfl
      have hgr : grow h 26 qb j.size l.length 1 (spC x) = some (.slo h.n 0 (l.length + 1) (l.length + 1) j.size, (h.new (.cells (spCs l ++ spC x) 26 false)).set qb .dead) := by
        unfold grow
        rw [r1]
        simp only [spCs_len, h6, Nat.beq_refl, hc, Bool.and_self, cond_true]
      rw [h6] at hgr
      refine ⟨.slo h.n 0 (l.length + 1) (l.length + 1) 3, (h.new (.cells (spCs l ++ spC x) 26 false)).set qb .dead, h.n, fin ?_, ⟨[], l.length + 1, ?_, ?_, ?_, ?_, ?_⟩, Nat.le_succ _, fun c hc hne => ?_, .inr (Nat.le_refl _), Nat.lt_succ_self _⟩
      · simp only [appTo, h6, Nat.beq_refl, hle, cond_true, cond_false, hok, Bool.and_self, hgr]
      · rw [Hp.get_set, if_neg (by omega), Hp.get_new, if_pos rfl, hcs, List.append_nil]
      · rw [hll]; simp
      · rw [hll]; exact Nat.le_refl _
      · rfl
      · rw [hll]; exact .inl rfl
      · rw [Hp.get_set, if_neg hne, Hp.get_new, if_neg (by omega)]
  · have hl0 : l = [] := List.length_eq_zero_iff.1 (by omega)
    subst hl0
    subst r6
    have hr : rest = [] := List.length_eq_zero_iff.1 (by simpa using r2)
    subst hr
    have hrd : rdCells h qb = some [] := by unfold rdCells; rw [r1]; rfl
    refine ⟨.slo h.n 0 1 1 3, h.new (.cells (spC x) 26 false), h.n, fin ?_, ⟨[], 1, ?_, ?_, ?_, ?_, ?_⟩, Nat.le_succ _, fun c hc hne => ?_, .inr (Nat.le_refl _), Nat.lt_succ_self _⟩
    · have hok1 : appOK j (0 + 1) = true := hok
      have hle : Nat.ble (0 + 1) 0 = false := rfl
      have hsb : sub ([] : List V) 0 (0 * 3) = some [] := rfl
      simp only [appTo, hle, cond_false, hok1, cond_true, hrd, Option.bind_some, h6, hsb, List.nil_append]
    · rw [Hp.get_new, if_pos rfl]; simp [spCs]
    · rfl
    · exact Nat.le_refl _
    · rfl
    · exact .inl rfl
    · rw [Hp.get_new, if_neg (by omega)]
theorem pu_assertS (x : Spt) (q : V → Prop) : (Pu EE).assert (.iface 26 (spV x)) 26 true q ↔ q (.tup [spV x, .bool true]) := by
  show (∃ v, vtypeAssert EE (.iface 26 (spV x)) 26 true = some v ∧ q v) ↔ _
  have : vtypeAssert EE (.iface 26 (spV x)) 26 true = some (.tup [spV x, .bool true]) := by kernel_rfl
  rw [this, ex_some]
theorem pu_ifaceS (x : Spt) (q : V → Prop) : (Pu EE).iface 26 (spV x) q ↔ q (.iface 26 (spV x)) := by
  show (∃ v, ((EE.ty.get 26).bind fun i => ifaceV 26 (spV x) i) = some v ∧ q v) ↔ _
  have : ((EE.ty.get 26).bind fun i => ifaceV 26 (spV x) i) = some (.iface 26 (spV x)) := by kernel_rfl
  rw [this, ex_some]
theorem qpush_ok {N : Nat} {h : Hp} {b qb : Nat} {l : List Spt} (a : QAt N h b qb l) (x : Spt) (hlen : l.length + 1 ≤ 1048576) (hN : N ≤ h.n) : Ans EE 247 [.ptr b 0, .iface 26 (spV x)] h fun _ h' => ∃ qb', QAt N h' b qb' (l ++ [x]) ∧ QF b qb qb' h h' := by
  have e1 := a.ne
  have e2 := a.nb
  have e3 := a.nq
  have e4 := a.bn
  have e5 := a.qn
  obtain ⟨v, g1, g2⟩ := a.qs
  apply a_deps_queue_Push
  unfold t_deps_queue_Push_0
  rw [pu_assertS, pu_extr0, pu_extr1]
  refine pu_allocX l_api_Spot fun h1 t w1 => ?_
  refine pu_storeX l_api_Spot w1.at_ (x := spV x) rfl rfl (r := spC x) rfl fun h2 w2 => ?_
  have n1 := w1.n
  have n2 := w2.n
  have t1 := w1.b
  have hb2 : h2.t.get b = some (.cells [v] 56 false) := by rw [w2.other b (by omega), w1.old b e4]; exact g1
  have hq2 : h2.t.get qb = h.t.get qb := by rw [w2.other qb (by omega), w1.old qb e5]
  rw [pu_cond_t, pu_nilc, pu_load1 l_queue hb2 rfl, pu_loadS l_api_Spot w2.at_ (l := spC x) rfl]
  show (Pu EE).bsl _ _ 1 [(0, spV x)] _
  rw [pu_lit1 s_queue l_api_Spot _ rfl (by omega)]
  obtain ⟨h3, hh3⟩ : ∃ h3, h3 = h2.new (.cells (spV x).cells 26 false) := ⟨_, rfl⟩
  have w3 : New h2 h3 h2.n (.cells (spC x) 26 false) := by rw [hh3]; exact New.mk' _ _
  have hel := elems_rd (rd_lit (h := h2) (e := 26) (ws := spC x) (sz := 3) rfl).rd
  rw [show h2.new (.cells (spC x) 26 false) = h3 from hh3.symm] at hel
  rw [← hh3]
  have n3 := w3.n
  have hb3 : h3.t.get b = some (.cells [v] 56 false) := by rw [w3.old b (by omega)]; exact hb2
  have ht3 : h3.t.get t = some (.cells (spC x) 26 false) := by rw [w3.old t (by omega)]; exact w2.at_
  have hq3 : h3.t.get qb = h.t.get qb := by rw [w3.old qb (by omega)]; exact hq2
  rw [pu_loadS l_api_Spot ht3 (l := spC x) rfl]
  show (Pu EE).same (spV x) (spV x) _
  rw [same_spt, pu_load1 l_queue hb3 rfl]
  obtain ⟨s0, s1, s2, _⟩ := a.sps
  rw [g1] at s1
  have hs0 : s0 = v := by cases s1; rfl
  subst hs0
  rw [same_rd s2]
  obtain ⟨v', h4, qb', k1, k2, k3, k4, k5, k6⟩ := q_append (g2.keep hq3) x hel.1 hel.2 hlen (by omega)
  rw [k1, pu_nilc]
  have hb4 : h4.t.get b = some (.cells [s0] 56 false) := by rw [k4 b (by omega) e1]; exact hb3
  have hc : v'.cells = [v'] := by
    obtain ⟨_, _, _, _, _, _, rfl | ⟨rfl, _⟩⟩ := k2 <;> rfl
  refine pu_storeX l_queue hb4 (x := v') (by rw [hc]; rfl) (by rw [hc]; obtain ⟨_, _, _, _, _, _, rfl | ⟨rfl, _⟩⟩ := k2 <;> rfl) (r := [v']) (by rw [hc]; rfl) fun h5 w5 => ?_
  have n5 := w5.n
  have hne : qb' ≠ b := by rcases k5 with e | e <;> omega
  obtain ⟨rest, lo, r1, r2⟩ := k2
  refine ⟨qb', ⟨⟨v', rest, lo, w5.at_, by rw [w5.other qb' hne]; exact r1, r2⟩, fun e => hne e.symm, e2, by rcases k5 with e | e <;> omega, by omega, by omega⟩, by omega, fun c hc h1 h2 => ?_, by rcases k5 with e | e <;> omega⟩
  rw [w5.other c h1, k4 c (by omega) h2, w3.old c (by omega), w2.other c (by omega), w1.old c hc]
end
end Go.Proofs.YtlllhhjlfmhmlaaGreatDoor.VM
