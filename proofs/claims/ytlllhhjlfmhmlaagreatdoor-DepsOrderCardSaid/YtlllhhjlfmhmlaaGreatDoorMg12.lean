/- deps.queue: Pop; container/heap of the queue, by labels. · container/heap of the queue, by labels. · deps.Order: how many a cell waits for, who needs a cell: its maps, by labels. · deps.Order: the counts and the users, by labels. · deps.Order: its first loops, by labels. · deps.Order: the queue's rounds, by labels. · deps.Order: what it answers. · deps.Order: what it answers is the document's order. · What labels of functions ask for. Written by pe.py. · chequerlaw13.DepsMade, by labels. · What labels of functions ask for. Written by pe.py. -/
import Derived.Test.YtlllhhjlfmhmlaaGreatDoorMg11
namespace Go.Proofs.YtlllhhjlfmhmlaaGreatDoor.VM
open Go
set_option linter.unusedVariables false
set_option linter.unusedSectionVars false
set_option linter.unusedSimpArgs false
set_option maxRecDepth 20000
noncomputable section
attribute [local instance] syZ
theorem pu_qslice {h : Hp} {v : V} {qb : Nat} {l : List Spt} {lo n : Nat} (hv : v = .slo qb 0 l.length lo 3) (hn : n ≤ lo) (q : V → Prop) : (Pu EE).slice 56 v none (some (.int .i64 n)) none q ↔ q (.slo qb 0 n lo 3) := by
  subst hv
  obtain ⟨ti, h1, h2⟩ := s_queue
  obtain ⟨⟨j, h5, h6, h7, h8, _⟩, h9⟩ := l_api_Spot
  show (∃ u, vslice EE 56 (.slo qb 0 l.length lo 3) none (some (.int .i64 n)) none = some u ∧ q u) ↔ _
  have : vslice EE 56 (.slo qb 0 l.length lo 3) none (some (.int .i64 n)) none = some (.slo qb 0 n lo 3) := by
    simp only [vslice, h1, Option.bind_some, h2, h5, h6, Nat.beq_refl, cond_true, bounds_to n l.length lo .i64 hn, sloOf, Bool.true_or, Nat.zero_mul, Nat.add_zero, Nat.sub_zero]
  rw [this, ex_some]
theorem spCs_last (l : List Spt) (h : 0 < l.length) : spCs l = spCs (l.take (l.length - 1)) ++ spC (l.getD (l.length - 1) sp0) := by
  have : l = l.take (l.length - 1) ++ [l.getD (l.length - 1) sp0] := by
    have h1 : l.length - 1 < l.length := by omega
    have h2 := List.take_succ_eq_append_getElem h1
    rw [show l.length - 1 + 1 = l.length by omega, List.take_length] at h2
    rw [List.getD_eq_getElem?_getD, List.getElem?_eq_getElem h1]
    exact h2
  conv => lhs; rw [this]
  rw [spCs_app]
  simp [spCs]
theorem qpop_ok {N : Nat} {h : Hp} {b qb : Nat} {l : List Spt} (a : QAt N h b qb l) (hl : 0 < l.length) (hlen : l.length ≤ 1000000) (hN : N ≤ h.n) : Ans EE 246 [.ptr b 0] h fun y h' => y = .iface 26 (spV (l.getD (l.length - 1) sp0)) ∧ QAt N h' b qb (l.take (l.length - 1)) ∧ QF b qb qb h h' := by
  have e1 := a.ne
  have e2 := a.nb
  have e3 := a.nq
  have e4 := a.bn
  have e5 := a.qn
  obtain ⟨v, g1, g2, g3⟩ := a.sps
  apply a_deps_queue_Pop
  unfold t_deps_queue_Pop_0
  have hlast := getD_some (L := l) (i := l.length - 1) (by omega)
  obtain ⟨b1, o1, m1, m2, m3, _⟩ := sps_get g2 s_queue l_api_Spot hlast
  have hz : IntKind.i64.wrap ((l.length : Int) - 1) = ((l.length - 1 : Nat) : Int) := by
    rw [show (l.length : Int) - 1 = ((l.length - 1 : Nat) : Int) by omega]
    exact w64 _ (by omega)
  rw [pu_nilc, pu_load1 l_queue g1 rfl, pu_nilc, pu_load1 l_queue g1 rfl, pu_len g2 s_queue, pu_sub, hz, m1, m2]
  refine pu_allocX l_api_Spot fun h1 t w1 => ?_
  have n1 := w1.n
  have t1 := w1.b
  have a1 : QAt N h1 b qb l := a.keep (by omega) (w1.old b e4) (w1.old qb e5)
  obtain ⟨v1, f1, f2, f3⟩ := a1.sps
  have hv1 : v1 = v := by
    rw [w1.old b e4, g1] at f1
    cases f1; rfl
  subst hv1
  obtain ⟨b2, o2, m4, m5, m6, _⟩ := sps_get f2 s_queue l_api_Spot hlast
  have hbb : V.ptr b2 o2 = V.ptr b1 o1 := by
    have q1 := (m1 .i64 (fun u => u = V.ptr b2 o2)).1 ((m4 .i64 (fun u => u = V.ptr b2 o2)).2 rfl)
    exact q1.symm
  cases hbb
  rw [m5, same_spt, pu_len f2 s_queue, same_int, pu_load1 l_queue f1 rfl, same_rd f2, pu_load1 l_queue f1 rfl, same_rd f2]
  refine pu_storeX l_api_Spot w1.at_ (x := spV (l.getD (l.length - 1) sp0)) rfl rfl (r := spC (l.getD (l.length - 1) sp0)) rfl fun h2 w2 => ?_
  have n2 := w2.n
  have hb2 : h2.t.get b = some (.cells [v1] 56 false) := by rw [w2.other b (by omega)]; exact f1
  rw [pu_nilc, pu_load1 l_queue hb2 rfl, pu_nilc, pu_load1 l_queue hb2 rfl, pu_len f2 s_queue, pu_sub, hz]
  obtain ⟨⟨u, rest, lo, r1, r2, r3, r4, r5, r6⟩, _⟩ := a
  have hu : u = v1 := by rw [g1] at r1; cases r1; rfl
  subst hu
  have hu2 : u = .slo qb 0 l.length lo 3 := by
    rcases r6 with e | ⟨_, e⟩
    · exact e
    · omega
  rw [pu_qslice (l := l) (lo := lo) (h := h2) hu2 (by omega), pu_nilc]
  refine pu_storeX l_queue hb2 (x := .slo qb 0 (l.length - 1) lo 3) rfl rfl (r := [.slo qb 0 (l.length - 1) lo 3]) rfl fun h3 w3 => ?_
  have n3 := w3.n
  have ht3 : h3.t.get t = some (.cells (spC (l.getD (l.length - 1) sp0)) 26 false) := by rw [w3.other t (by omega)]; exact w2.at_
  rw [pu_loadS l_api_Spot ht3 (l := spC (l.getD (l.length - 1) sp0)) rfl]
  show (Pu EE).iface _ (spV _) _
  rw [pu_ifaceS]
  have htl : (l.take (l.length - 1)).length = l.length - 1 := by rw [List.length_take]; omega
  refine ⟨rfl, ⟨⟨_, spC (l.getD (l.length - 1) sp0) ++ rest, lo, w3.at_, ?_, ?_, ?_, ?_, ?_⟩, e1, e2, e3, by omega, by omega⟩, by omega, fun c hc h1 h2 => ?_, .inl rfl⟩
  · rw [w3.other qb (fun e => e1 e.symm), w2.other qb (by omega), w1.old qb e5, r2, spCs_last l hl, List.append_assoc]
  · rw [htl, List.length_append, r3]; simp [spC]; omega
  · rw [htl]; omega
  · refine allCells_iff.2 fun u hu => ?_
    rcases List.mem_append.1 hu with hu | hu
    · exact allCells_iff.1 (show allCells (spC (l.getD (l.length - 1) sp0)) = true from rfl) u hu
    · exact allCells_iff.1 r5 u hu
  · rw [htl]; exact .inl rfl
  · rw [w3.other c h1, w2.other c (by omega), w1.old c hc]
end
end Go.Proofs.YtlllhhjlfmhmlaaGreatDoor.VM
namespace Go.Proofs.YtlllhhjlfmhmlaaGreatDoor.VM
open Go
set_option linter.unusedVariables false
set_option linter.unusedSectionVars false
set_option linter.unusedSimpArgs false
set_option maxRecDepth 20000
noncomputable section
attribute [local instance] syZ
/-- the queue as the heap sees it -/
def qV (b : Nat) : V := .iface 55 (.ptr b 0)
theorem inv_len {b : Nat} {h : Hp} {k : V → Hp → Prop} (H : Ans EE 26 [.ptr b 0] h k) : (Pu EE).invk (qV b) "Len" [] h k := ⟨(26, [.ptr b 0]), by kernel_rfl, H⟩
theorem inv_less {b : Nat} {h : Hp} {x y : V} {k : V → Hp → Prop} (H : Ans EE 245 [.ptr b 0, x, y] h k) : (Pu EE).invk (qV b) "Less" [x, y] h k := ⟨(245, [.ptr b 0, x, y]), by kernel_rfl, H⟩
theorem inv_swap {b : Nat} {h : Hp} {x y : V} {k : V → Hp → Prop} (H : Ans EE 248 [.ptr b 0, x, y] h k) : (Pu EE).invk (qV b) "Swap" [x, y] h k := ⟨(248, [.ptr b 0, x, y]), by kernel_rfl, H⟩
theorem inv_push {b : Nat} {h : Hp} {x : V} {k : V → Hp → Prop} (H : Ans EE 247 [.ptr b 0, x] h k) : (Pu EE).invk (qV b) "Push" [x] h k := ⟨(247, [.ptr b 0, x]), by kernel_rfl, H⟩
theorem inv_pop {b : Nat} {h : Hp} {k : V → Hp → Prop} (H : Ans EE 246 [.ptr b 0] h k) : (Pu EE).invk (qV b) "Pop" [] h k := ⟨(246, [.ptr b 0]), by kernel_rfl, H⟩
theorem upL_0 (L : List Spt) : upL L 0 = L := by rw [upL]; simp
theorem upL_y {L : List Spt} {j : Nat} (h : 0 < j) (hl : lessL L j ((j - 1) / 2) = true) : upL L j = upL (swapL L ((j - 1) / 2) j) ((j - 1) / 2) := by rw [upL, if_neg (by omega), if_pos hl]
theorem upL_n {L : List Spt} {j : Nat} (h : 0 < j) (hl : lessL L j ((j - 1) / 2) = false) : upL L j = L := by rw [upL, if_neg (by omega), if_neg (by rw [hl]; decide)]
theorem half {j : Nat} (h : 0 < j) (hj : j < 1000000) : IntKind.i64.wrap ((IntKind.i64.wrap ((j : Int) - 1)).tdiv 2) = (((j - 1) / 2 : Nat) : Int) := by
  rw [show (j : Int) - 1 = ((j - 1 : Nat) : Int) by omega, w64 _ (by omega)]
  have : (((j - 1 : Nat) : Int)).tdiv 2 = (((j - 1) / 2 : Nat) : Int) := by
    rw [Int.tdiv_eq_ediv_of_nonneg (by omega)]
    omega
  rw [this, w64 _ (by omega)]
theorem half0 : IntKind.i64.wrap ((IntKind.i64.wrap (((0 : Nat) : Int) - 1)).tdiv 2) = ((0 : Nat) : Int) := by decide
theorem up_ok (Q : V → Hp → Prop) (N b : Nat) : ∀ (f j : Nat), j ≤ f → ∀ (L : List Spt) (h : Hp) (qb : Nat), QAt N h b qb L → j < L.length → L.length < 1000000 →
    (∀ h', QAt N h' b qb (upL L j) → QF b qb qb h h' → Q u0 h') → L_container_heap_up_1 Q (qV b) (.int .i64 j) h := by
  intro f
  induction f with
  | zero =>
    intro j hj L h qb a hjl hL hq
    have e : j = 0 := by omega
    subst e
    apply r_container_heap_up_1
    unfold t_container_heap_up_1
    rw [pu_sub, pu_quo _ _ _ _ _ _ (by decide), half0, eqlN, decide_eq_true rfl]
    simp only [pu_gval_tf, pu_geff_tf, pu_pick_t, pu_cond_t]
    exact hq h (by rw [upL_0]; exact a) (QF.refl _ _ _)
  | succ f ih =>
    intro j hj L h qb a hjl hL hq
    by_cases e : j = 0
    · exact ih j (by omega) L h qb a hjl hL hq
    · apply r_container_heap_up_1
      unfold t_container_heap_up_1
      rw [pu_sub, pu_quo _ _ _ _ _ _ (by decide), half (by omega) (by omega), eqlN, decide_eq_false (by omega : ¬ (j - 1) / 2 = j)]
      simp only [pu_gval_y, pu_geff_y]
      refine inv_less ((qless_ok a hjl (by omega)).mono ?_)
      rintro x h1 ⟨rfl, hx⟩
      have n1 := hx.n
      have a1 := a.ext hx
      rw [pu_not, pu_pick_f]
      cases hl : lessL L j ((j - 1) / 2) with
      | false =>
        simp only [Bool.not_false, pu_cond_t]
        exact hq h1 (by rw [upL_n (by omega) hl]; exact a1) (QF.of_ext hx)
      | true =>
        simp only [Bool.not_true, pu_cond_f]
        refine inv_swap ((qswap_ok a1 (by omega) hjl).mono ?_)
        rintro y h2 ⟨a2, f2⟩
        refine ih _ (by omega) _ h2 qb a2 (by rw [swapL_len]; omega) (by rw [swapL_len]; exact hL) fun h' a' f' => hq h' (by rw [upL_y (by omega) hl]; exact a') (((QF.of_ext hx).trans f2).trans f')
theorem hpush_ok {N b qb : Nat} {h : Hp} {l : List Spt} (a : QAt N h b qb l) (x : Spt) (hlen : l.length + 1 < 1000000) (hN : N ≤ h.n) : Ans EE 25 [qV b, .iface 26 (spV x)] h fun _ h' => ∃ qb', QAt N h' b qb' (hpushL l x) ∧ QF b qb qb' h h' := by
  apply a_container_heap_Push
  unfold t_container_heap_Push_0
  refine inv_push ((qpush_ok a x (by omega) hN).mono ?_)
  rintro y h1 ⟨q1, a1, f1⟩
  refine inv_len ((qlen_ok a1).mono ?_)
  rintro y h2 ⟨rfl, rfl⟩
  have hll : (l ++ [x]).length = l.length + 1 := by simp
  rw [pu_sub, hll, show ((l.length + 1 : Nat) : Int) - 1 = (l.length : Int) by omega, w64 _ (by omega)]
  refine Ans.mono (Q := fun _ h' => QAt N h' b q1 (hpushL l x) ∧ QF b q1 q1 h2 h') ?_ (fun y h3 q => ⟨q1, q.1, f1.trans q.2⟩)
  apply a_container_heap_up
  unfold t_container_heap_up_0
  exact up_ok _ N b l.length l.length (Nat.le_refl _) (l ++ [x]) h2 q1 a1 (by rw [hll]; omega) (by rw [hll]; omega) fun h' a' f' => ⟨a', f'⟩
theorem downL_e {L : List Spt} {i n : Nat} (h : n ≤ 2 * i + 1) : downL L i n = L := by rw [downL, if_pos h]
theorem downL_y {L : List Spt} {i n : Nat} (h : ¬ n ≤ 2 * i + 1) (hl : lessL L (downJ L i n) i = true) : downL L i n = downL (swapL L i (downJ L i n)) (downJ L i n) n := by rw [downL, if_neg h, if_pos hl]
theorem downL_n {L : List Spt} {i n : Nat} (h : ¬ n ≤ 2 * i + 1) (hl : lessL L (downJ L i n) i = false) : downL L i n = L := by rw [downL, if_neg h, if_neg (by rw [hl]; decide)]
theorem down_ok (Q : V → Hp → Prop) (N b n i0 : Nat) (hn : n < 1000000) : ∀ (f i : Nat), n - i ≤ f → ∀ (L : List Spt) (h : Hp) (qb : Nat), QAt N h b qb L → i < n ∨ n ≤ 2 * i + 1 → n ≤ L.length → i < 1000000 →
    (∀ x h', QAt N h' b qb (downL L i n) → QF b qb qb h h' → Q x h') → L_container_heap_down_1 Q (qV b) (.int .i64 i0) (.int .i64 n) (.int .i64 i) h := by
  intro f
  induction f with
  | zero =>
    intro i hi L h qb a hin hL him hq
    apply r_container_heap_down_1
    unfold t_container_heap_down_1
    rw [pu_mul, show (2 : Int) * (i : Int) = ((2 * i : Nat) : Int) by omega, w64 _ (by omega), pu_inc _ _ _ _ (by omega), geqN, decide_eq_true (by omega : n ≤ 2 * i + 1)]
    simp only [pu_gval_tf, pu_pick_t, pu_cond_t]
    rw [pu_gtr]
    exact hq _ h (by rw [downL_e (by omega)]; exact a) (QF.refl _ _ _)
  | succ f ih =>
    intro i hi L h qb a hin hL him hq
    apply r_container_heap_down_1
    unfold t_container_heap_down_1
    rw [pu_mul, show (2 : Int) * (i : Int) = ((2 * i : Nat) : Int) by omega, w64 _ (by omega), pu_inc _ _ _ _ (by omega), geqN]
    by_cases hend : n ≤ 2 * i + 1
    · rw [decide_eq_true hend]
      simp only [pu_gval_tf, pu_pick_t, pu_cond_t]
      rw [pu_gtr]
      exact hq _ h (by rw [downL_e hend]; exact a) (QF.refl _ _ _)
    · rw [decide_eq_false hend]
      simp only [pu_gval_y]
      rw [pu_lss, decide_eq_false (by omega : ¬ ((2 * i + 1 : Nat) : Int) < 0)]
      simp only [pu_pick_f, pu_cond_f]
      rw [pu_inc _ _ _ _ (by omega), pu_lssN]
      obtain ⟨hj1, _, hj3, _⟩ := downJ_spec (L := L) hend
      have step : ∀ (h1 : Hp), QAt N h1 b qb L → QF b qb qb h h1 → L_container_heap_down_2 Q (qV b) (.int .i64 i0) (.int .i64 n) (.int .i64 i) (.int .i64 (downJ L i n)) h1 := by
        intro h1 a1 f1
        apply r_container_heap_down_2
        unfold t_container_heap_down_2
        refine inv_less ((qless_ok a1 (by omega) (by omega)).mono ?_)
        rintro x h2 ⟨rfl, hx⟩
        have a2 := a1.ext hx
        have f2 := f1.trans (QF.of_ext hx)
        rw [pu_not]
        cases hl : lessL L (downJ L i n) i with
        | false =>
          simp only [Bool.not_false, pu_cond_t]
          rw [pu_gtr]
          exact hq _ h2 (by rw [downL_n hend hl]; exact a2) f2
        | true =>
          simp only [Bool.not_true, pu_cond_f]
          refine inv_swap ((qswap_ok a2 (by omega) (by omega)).mono ?_)
          rintro y h3 ⟨a3, f3⟩
          exact ih _ (by omega) _ h3 qb a3 (.inl hj1) (by rw [swapL_len]; exact hL) (by omega) fun x h' a' f' => hq x h' (by rw [downL_y hend hl]; exact a') ((f2.trans f3).trans f')
      by_cases hr : 2 * i + 1 + 1 < n
      · rw [decide_eq_true hr]
        simp only [pu_gval_y, pu_geff_y]
        refine inv_less ((qless_ok a (by omega) (by omega)).mono ?_)
        rintro x h1 ⟨rfl, hx⟩
        have a1 := a.ext hx
        rw [pu_pick_t]
        cases hl : lessL L (2 * i + 1 + 1) (2 * i + 1) with
        | true =>
          rw [pu_cond_t]
          have : downJ L i n = 2 * i + 1 + 1 := by unfold downJ; rw [if_pos ⟨hr, hl⟩]
          rw [← this]
          exact step h1 a1 (QF.of_ext hx)
        | false =>
          rw [pu_cond_f]
          have : downJ L i n = 2 * i + 1 := by unfold downJ; rw [if_neg (by rw [hl]; simp)]
          rw [← this]
          exact step h1 a1 (QF.of_ext hx)
      · rw [decide_eq_false hr]
        simp only [pu_gval_ft, pu_geff_ft, pu_pick_f, pu_cond_f]
        have : downJ L i n = 2 * i + 1 := by unfold downJ; rw [if_neg (by omega)]
        rw [← this]
        exact step h a (QF.refl _ _ _)
theorem hpop_ok {N b qb : Nat} {h : Hp} {l : List Spt} (a : QAt N h b qb l) {x : Spt} (hx : l[0]? = some x) (hlen : l.length < 1000000) (hN : N ≤ h.n) : Ans EE 27 [qV b] h fun y h' => y = .iface 26 (spV x) ∧ QAt N h' b qb (hpopL l) ∧ QF b qb qb h h' := by
  have hl0 : 0 < l.length := (List.getElem?_eq_some_iff.1 hx).1
  apply a_container_heap_Pop
  unfold t_container_heap_Pop_0
  refine inv_len ((qlen_ok a).mono ?_)
  rintro y h1 ⟨rfl, rfl⟩
  rw [pu_sub, show (l.length : Int) - 1 = ((l.length - 1 : Nat) : Int) by omega, w64 _ (by omega)]
  rw [show (0 : Int) = ((0 : Nat) : Int) from rfl]
  refine inv_swap ((qswap_ok a hl0 (by omega)).mono ?_)
  rintro y h2 ⟨a2, f2⟩
  have hsl : (swapL l 0 (l.length - 1)).length = l.length := swapL_len _ _ _
  refine Ans.mono (Q := fun _ h' => QAt N h' b qb (downL (swapL l 0 (l.length - 1)) 0 (l.length - 1)) ∧ QF b qb qb h2 h') ?_ ?_
  · apply a_container_heap_down
    unfold t_container_heap_down_0
    exact down_ok _ N b (l.length - 1) 0 (by omega) (l.length - 1) 0 (by omega) _ h2 qb a2 (by omega) (by rw [hsl]; omega) (by omega) fun x h' a' f' => ⟨a', f'⟩
  · rintro y h3 ⟨a3, f3⟩
    have hdl : (downL (swapL l 0 (l.length - 1)) 0 (l.length - 1)).length = l.length := by rw [downL_len (l.length - 1) (l.length - 1) _ 0 (by omega), hsl]
    have n2 := f2.n
    have n3 := f3.n
    refine inv_pop ((qpop_ok a3 (by rw [hdl]; exact hl0) (by rw [hdl]; omega) (by omega)).mono ?_)
    rintro y h4 ⟨rfl, a4, f4⟩
    rw [hdl] at a4
    refine ⟨?_, a4, (f2.trans f3).trans f4⟩
    rw [hdl]
    have h1 := downL_get (l.length - 1) (swapL l 0 (l.length - 1)) 0 (Nat.zero_le _)
    rw [swap_last rfl hl0 hx] at h1
    rw [List.getD_eq_getElem?_getD, h1]
    rfl
end
end Go.Proofs.YtlllhhjlfmhmlaaGreatDoor.VM
namespace Go.Proofs.YtlllhhjlfmhmlaaGreatDoor.VM
open Go
set_option linter.unusedVariables false
set_option linter.unusedSectionVars false
set_option linter.unusedSimpArgs false
set_option maxRecDepth 20000
noncomputable section
attribute [local instance] syZ
section
variable {E : Env} {K : Type} [DecidableEq K] {key : K → V}
theorem findE_snoc {k : K} {z : V} {c : Nat} : ∀ {es : Es K} (n : Nat), k ∉ es.map (·.1) → findE k (es ++ [(k, z, c)]) n = some (n + es.length, z, c)
  | [], n, _ => by simp [findE]
  | (a, u, d) :: r, n, h => by
    simp only [List.map_cons, List.mem_cons, not_or] at h
    rw [List.cons_append, findE, if_neg h.1, findE_snoc (n + 1) h.2, List.length_cons]
    congr 2
    omega
theorem MapIs.snoc {h h1 : Hp} {b : Nat} {f : K → Option V} {es : Es K} {c : Nat} (m : MapIs key h b f es c) {k : K} (hf : f k = none) (v : V) (hb : h1.t.get b = some (.map (esV key (es ++ [(k, v, c)])) (c + 1))) : MapIs key h1 b (updF f k v) (es ++ [(k, v, c)]) (c + 1) := by
  obtain ⟨h5, h6⟩ := m.find_none hf
  refine ⟨hb, ?_, ?_, ?_, fun y => ?_⟩
  · rw [List.map_append]
    refine List.nodup_append.2 ⟨m.keys, by simp, fun a ha d hd e => ?_⟩
    simp at hd; subst hd; subst e; exact h6 ha
  · rw [List.map_append]
    refine List.nodup_append.2 ⟨m.borns, by simp, fun a ha d hd e => ?_⟩
    simp at hd; subst hd; subst e
    obtain ⟨x, hx, e2⟩ := List.mem_map.1 ha
    have := m.lt x hx; omega
  · intro x hx
    rcases List.mem_append.1 hx with hx | hx
    · have := m.lt x hx; omega
    · simp at hx; subst hx; simp
  · rw [lookE_snoc y h6, m.look]; rfl
/-- 'm[k] op= ..', be the key there or not -/
theorem pu_mapeX {h : Hp} {b t q e : Nat} (ht : IsMap E t q e) (hq : KeyOf E q key) {f : K → Option V} (m : MapFn key h b f) (k : K) {z : V} (hz : vzero E e = some z) :
    ∃ (n : Nat) (v : V) (h1 : Hp), v = (f k).getD z ∧ h1.n = h.n ∧ (∀ c, c ≠ b → h1.t.get c = h.t.get c) ∧
      (∀ qq : V → Hp → Prop, (Pu E).mape h t (.mp b) (key k) qq ↔ qq (.tup [v, .int .i64 n]) h1) ∧
      ∀ (h2 : Hp), h2.t.get b = h1.t.get b → ∀ (x : V) (kd : IntKind) (qq : Hp → Prop), (∀ h3 bl, Wr h2 h3 b bl → MapFn key h3 b (updF f k x) → qq h3) → (Pu E).ests h2 (.mp b) (.int kd n) x qq := by
  obtain ⟨i, h1, h2⟩ := ht
  obtain ⟨j, h3, h4⟩ := hq
  obtain ⟨es, c, m⟩ := m
  cases hf : f k with
  | some v =>
    obtain ⟨p, n, h5⟩ := m.find_some hf
    refine ⟨n, v, h, rfl, rfl, fun _ _ => rfl, fun qq => ?_, fun g hg x kd qq hqq => ?_⟩
    · have : vmapEntry E h t (.mp b) (key k) = some (.tup [v, .int .i64 n], h) := by
        simp only [vmapEntry, h1, Option.bind_some, h2, h3, keyOK_of h4, cond_true, mapOf, m.at_, findM_es (q := q) h4, h5]
        rfl
      show (∃ r, vmapEntry E h t (.mp b) (key k) = some r ∧ qq r.1 r.2) ↔ _
      rw [this, ex_some]
    · have hs := setBorn_upd (key := key) x m.keys m.borns h5
      have m2 : MapIs key g b f es c := ⟨hg.trans m.at_, m.keys, m.borns, m.lt, m.look⟩
      refine ⟨g.set b (.map (esV key (updE es k x)) c), ?_, hqq _ _ ⟨by rw [Hp.get_set, if_pos rfl], rfl, fun d hd => by rw [Hp.get_set, if_neg hd]⟩ (m2.upd hf x (by rw [Hp.get_set, if_pos rfl]))⟩
      simp only [ventryStore, natOf_nat, Option.bind_some, mapOf, m2.at_, hs]
  | none =>
    obtain ⟨h5, h6⟩ := m.find_none hf
    have e1 : esV key es ++ [(key k, z, c)] = esV key (es ++ [(k, z, c)]) := by simp [esV]
    refine ⟨c, z, h.set b (.map (esV key (es ++ [(k, z, c)])) (c + 1)), rfl, rfl, fun d hd => by rw [Hp.get_set, if_neg hd], fun qq => ?_, fun g hg x kd qq hqq => ?_⟩
    · have : vmapEntry E h t (.mp b) (key k) = some (.tup [z, .int .i64 c], h.set b (.map (esV key (es ++ [(k, z, c)])) (c + 1))) := by
        simp only [vmapEntry, h1, Option.bind_some, h2, h3, keyOK_of h4, cond_true, mapOf, m.at_, findM_es (q := q) h4, h5, hz, e1]
        rfl
      show (∃ r, vmapEntry E h t (.mp b) (key k) = some r ∧ qq r.1 r.2) ↔ _
      rw [this, ex_some]
    · have m2 : MapIs key g b (updF f k z) (es ++ [(k, z, c)]) (c + 1) := m.snoc hf z (by rw [hg, Hp.get_set, if_pos rfl])
      have hs := setBorn_upd (key := key) x m2.keys m2.borns (findE_snoc (z := z) (c := c) 0 h6)
      refine ⟨g.set b (.map (esV key (updE (es ++ [(k, z, c)]) k x)) (c + 1)), ?_, hqq _ _ ⟨by rw [Hp.get_set, if_pos rfl], rfl, fun d hd => by rw [Hp.get_set, if_neg hd]⟩ ((m2.upd (k := k) (u := z) (by simp [updF]) x (by rw [Hp.get_set, if_pos rfl])).congr fun y => ?_)⟩
      · simp only [ventryStore, natOf_nat, Option.bind_some, mapOf, m2.at_, hs]
      · unfold updF; split <;> rfl
theorem pu_mkmapX {h : Hp} {q : V → Hp → Blk → Prop} (hq : ∀ h1 b, New h h1 b (.map [] 0) → q (.mp b) h1 (.map [] 0)) : (Pu E).mkmap h true q := ⟨rfl, hq _ _ (New.mk' _ _)⟩
end
theorem m_int : IsMap EE 52 26 3 := isMap (by kernel_rfl)
theorem m_users : IsMap EE 53 26 29 := isMap (by kernel_rfl)
theorem k_spot : KeyOf EE 26 spV := keyOf3 (fun s => s.s) (fun s => s.r) (fun s => s.c) (fun _ => rfl) (fun a b => by cases a; cases b; simp) (by kernel_rfl)
theorem z_users : vzero EE 29 = some .nils := by kernel_rfl
theorem z_int : vzero EE 3 = some (.int .i64 0) := by kernel_rfl
/-- who needs a cell, as slices of one's own -/
structure UMap (N : Nat) (h : Hp) (b : Nat) (f : Spt → Option V) (us : Spt → List Spt) : Prop where
  map : MapFn spV h b f
  nones : ∀ n, f n = none → us n = []
  ats : ∀ n v, f n = some v → OwnS N h v (us n)
  sep : ∀ m n v w c, f m = some v → f n = some w → blkOf v = some c → blkOf w = some c → m = n
def addU (us : Spt → List Spt) (n s : Spt) : Spt → List Spt := fun m => if m = n then us n ++ [s] else us m
structure UF (bL bU : Nat) (f f' : Spt → Option V) (h h' : Hp) : Prop where
  n : h.n ≤ h'.n
  keep : ∀ c, c < h.n → c ≠ bL → c ≠ bU → (∀ m v, f m = some v → blkOf v ≠ some c) → h'.t.get c = h.t.get c
  new : ∀ m v c, f' m = some v → blkOf v = some c → (∃ m' v', f m' = some v' ∧ blkOf v' = some c) ∨ h.n ≤ c
theorem UF.refl (bL bU : Nat) (f : Spt → Option V) (h : Hp) : UF bL bU f f h h := ⟨Nat.le_refl _, fun _ _ _ _ _ => rfl, fun m v c h1 h2 => .inl ⟨m, v, h1, h2⟩⟩
theorem UF.trans {bL bU : Nat} {f1 f2 f3 : Spt → Option V} {h1 h2 h3 : Hp} (x : UF bL bU f1 f2 h1 h2) (y : UF bL bU f2 f3 h2 h3) : UF bL bU f1 f3 h1 h3 := by
  have a := x.n
  have b := y.n
  refine ⟨by omega, fun c hc e1 e2 hn => ?_, fun m v c hm hv => ?_⟩
  · rw [y.keep c (by omega) e1 e2 fun m v hm hv => ?_, x.keep c hc e1 e2 hn]
    rcases x.new m v c hm hv with ⟨m', v', h1, h2⟩ | h
    · exact hn m' v' h1 h2
    · omega
  · rcases y.new m v c hm hv with ⟨m', v', h1, h2⟩ | h
    · exact x.new m' v' c h1 h2
    · exact .inr (by omega)
/-- nothing of the users is touched -/
theorem UMap.keep {N bU : Nat} {h h' : Hp} {f : Spt → Option V} {us : Spt → List Spt} (U : UMap N h bU f us) (hn : h.n ≤ h'.n) (hb : h'.t.get bU = h.t.get bU) (hk : ∀ m v c, f m = some v → blkOf v = some c → h'.t.get c = h.t.get c) : UMap N h' bU f us :=
  ⟨U.map.keep hb, U.nones, fun m v hm => (U.ats m v hm).keep hn fun c hc => hk m v c hm hc, U.sep⟩
theorem UMap.congr {N bU : Nat} {h : Hp} {f : Spt → Option V} {us us' : Spt → List Spt} (U : UMap N h bU f us) (e : ∀ n, us n = us' n) : UMap N h bU f us' := by
  have : us = us' := funext e
  subst this; exact U
theorem users_add {N bU bL : Nat} {h : Hp} {f : Spt → Option V} {us : Spt → List Spt} (U : UMap N h bU f us) (hb : bU < N) (hN : N ≤ h.n) (n s : Spt) (hlen : (us n).length + 1 ≤ 1048576) {q : Hp → Prop}
    (hq : ∀ h' f', UMap N h' bU f' (addU us n s) → UF bL bU f f' h h' → Ext (min N bU) h h' → (∀ c, c < N → c ≠ bU → h'.t.get c = h.t.get c) → q h') :
    (Pu EE).bsl h 29 1 [(0, spV s)] fun x22 h23 _ => (Pu EE).mape h23 53 (.mp bU) (spV n) fun x25 h26 => (Pu EE).extr x25 0 fun x27 =>
      (Pu EE).ebui h26 #[29, 29] .append [x27, x22] fun x28 h29 => (Pu EE).extr x25 1 fun x30 => (Pu EE).ests h29 (.mp bU) x30 x28 q := by
  rw [pu_lit1 s_sl_api_Spot l_api_Spot _ rfl (by omega)]
  obtain ⟨hA, hhA⟩ : ∃ hA, hA = h.new (.cells (spC s) 26 false) := ⟨_, rfl⟩
  have wA : New h hA h.n (.cells (spC s) 26 false) := by rw [hhA]; exact New.mk' _ _
  have oA : Own h.n hA (.sl h.n 0 1 1) 26 3 1 (spC s) := by rw [hhA]; exact rd_lit rfl
  show (Pu EE).mape (h.new (.cells (spC s) 26 false)) _ _ _ _
  rw [← hhA]
  have nA := wA.n
  have mA : MapFn spV hA bU f := U.map.keep (wA.old bU (by omega))
  obtain ⟨nb, v, h1, hv, n1, k1, g1, g2⟩ := pu_mapeX m_users k_spot mA n z_users
  rw [g1, pu_extr0]
  have hV : ∀ c, blkOf v = some c → ∃ w, f n = some w ∧ blkOf w = some c := fun c hc => by
    cases hf : f n with
    | none => rw [hv, hf] at hc; cases hc
    | some w => rw [hv, hf] at hc; exact ⟨w, rfl, hc⟩
  have o1 : OwnS N h1 v (us n) := by
    cases hf : f n with
    | none => rw [hv, hf, U.nones n hf]; exact OwnS.nil _ _
    | some w =>
      have o := U.ats n w hf
      rw [hv, hf]
      refine o.keep (by omega) fun c hc => ?_
      have := o.ge c hc
      have := o.in_ c hc
      rw [k1 c (by omega), wA.old c (by omega)]
  have oA1 : Own h.n h1 (.sl h.n 0 1 1) 26 3 1 (spC s) := oA.keep (by omega) fun c hc => by cases hc; rw [k1 _ (by omega)]
  obtain ⟨v', h', a1, a2, a3, a4, a5⟩ := own_append (ts := #[29, 29]) o1 rfl rfl s_sl_api_Spot noIntS l_api_Spot (elems_rd oA1.rd).1 (fun e => by cases e) rfl hlen (by omega)
  rw [a1, pu_extr1]
  have hvb : blkOf v ≠ some bU := fun e => by have := o1.ge _ e; omega
  have n3 := a3.n
  refine g2 h' (a4 bU (by omega) hvb) _ _ _ fun h3 bl w3 m3 => ?_
  have n4 := w3.n
  have chain : ∀ c, c < h.n → c ≠ bU → blkOf v ≠ some c → h3.t.get c = h.t.get c := fun c h1 h2 h3 => by
    rw [w3.other c h2, a4 c (by omega) h3, k1 c h2, wA.old c h1]
  refine hq h3 (updF f n v') ⟨m3, fun m hm => ?_, fun m w hm => ?_, fun m1 m2 u w c e1 e2 c1 c2 => ?_⟩ ⟨by omega, fun c hc _ e2 hn => ?_, fun m w c hm hc => ?_⟩ ⟨by omega, fun c hc => ?_⟩ (fun c hc e => ?_)
  · unfold updF at hm
    unfold addU
    split at hm
    · cases hm
    · rename_i e; rw [if_neg e]; exact U.nones m hm
  · unfold updF at hm
    unfold addU
    split at hm
    · rename_i e
      subst e
      cases hm
      rw [if_pos rfl]
      have e : spCs (us m ++ [s]) = spCs (us m) ++ spC s := by rw [spCs_app]; simp [spCs]
      show Own _ _ _ _ _ (us m ++ [s]).length _
      rw [List.length_append, e]
      exact a2.keep (by omega) fun c hc => by
        have := a2.ge c hc
        rw [w3.other c (by omega)]
    · rename_i e
      rw [if_neg e]
      have o := U.ats m w hm
      refine o.keep (by omega) fun c hc => ?_
      have g1 := o.ge c hc
      have g2 := o.in_ c hc
      refine chain c g2 (by omega) fun hvc => ?_
      obtain ⟨w0, k1, k2⟩ := hV c hvc
      exact e (U.sep m n w w0 c hm k1 hc k2)
  · unfold updF at e1 e2
    by_cases q1 : m1 = n
    · by_cases q2 : m2 = n
      · rw [q1, q2]
      · rw [if_pos q1] at e1
        rw [if_neg q2] at e2
        cases e1
        rcases a5 c c1 with k | k
        · obtain ⟨w0, k1, k2⟩ := hV c k
          exact absurd (U.sep m2 n w w0 c e2 k1 c2 k2) q2
        · have := (U.ats m2 w e2).in_ c c2; omega
    · by_cases q2 : m2 = n
      · rw [if_neg q1] at e1
        rw [if_pos q2] at e2
        cases e2
        rcases a5 c c2 with k | k
        · obtain ⟨w0, k1, k2⟩ := hV c k
          exact absurd (U.sep m1 n u w0 c e1 k1 c1 k2) q1
        · have := (U.ats m1 u e1).in_ c c1; omega
      · rw [if_neg q1] at e1
        rw [if_neg q2] at e2
        exact U.sep m1 m2 u w c e1 e2 c1 c2
  · refine chain c hc e2 fun k => ?_
    obtain ⟨w0, k1, k2⟩ := hV c k
    exact hn n w0 k1 k2
  · unfold updF at hm
    split at hm
    · cases hm
      rcases a5 c hc with k | k
      · obtain ⟨w0, k1, k2⟩ := hV c k
        exact .inl ⟨n, w0, k1, k2⟩
      · exact .inr (by omega)
    · exact .inl ⟨m, w, hm, hc⟩
  · refine chain c (by omega) (by omega) fun k => ?_
    have := o1.ge c k; omega
  · refine chain c (by omega) e fun k => ?_
    have := o1.ge c k; omega
end
end Go.Proofs.YtlllhhjlfmhmlaaGreatDoor.VM
namespace Go.Proofs.YtlllhhjlfmhmlaaGreatDoor.VM
open Go
set_option linter.unusedVariables false
set_option linter.unusedSectionVars false
set_option linter.unusedSimpArgs false
set_option maxRecDepth 20000
noncomputable section
attribute [local instance] syZ
def leftF (F : List Spt) (c : Spt → Nat) : Spt → Option V := fun s => if s ∈ F then some (.int .i64 (c s : Int)) else none
def cI (nd : Spt → List Spt) (F : List Spt) (i : Nat) : Spt → Nat := fun y => if y ∈ F.take i then wantN (nd y) F else 0
def uI (nd : Spt → List Spt) (F : List Spt) (i : Nat) : Spt → List Spt := fun n => if n ∈ F then (F.take i).filter (fun s => (nd s).contains n) else []
def cK (nd : Spt → List Spt) (F : List Spt) (i : Nat) (s : Spt) (k : Nat) : Spt → Nat := fun y => if y = s then wantN ((nd s).take k) F else cI nd F i y
def uK (nd : Spt → List Spt) (F : List Spt) (i : Nat) (s : Spt) (k : Nat) : Spt → List Spt := fun n => if n ∈ F ∧ n ∈ (nd s).take k then uI nd F i n ++ [s] else uI nd F i n
section
variable {nd : Spt → List Spt} {F : List Spt} {i : Nat} {s : Spt}
theorem take_snoc' {α : Type} {l : List α} {k : Nat} {x : α} (h : l[k]? = some x) : l.take (k + 1) = l.take k ++ [x] := by
  obtain ⟨hk, e⟩ := List.getElem?_eq_some_iff.1 h
  rw [List.take_succ_eq_append_getElem hk, e]
theorem not_take {α : Type} {l : List α} (hd : l.Nodup) {k : Nat} {x : α} (h : l[k]? = some x) : x ∉ l.take k := by
  intro hx
  rw [← List.take_append_drop k l] at hd
  refine (List.nodup_append.1 hd).2.2 x hx x ?_ rfl
  exact List.mem_of_getElem? (i := 0) (by rw [List.getElem?_drop]; exact h)
theorem want_snoc {l : List Spt} {k : Nat} {x : Spt} (h : l[k]? = some x) (F : List Spt) : wantN (l.take (k + 1)) F = wantN (l.take k) F + (if x ∈ F then 1 else 0) := by
  unfold wantN
  rw [take_snoc' h, List.filter_append, List.length_append]
  by_cases hx : x ∈ F <;> simp [hx]
theorem want_le (l F : List Spt) : wantN l F ≤ l.length := List.length_filter_le _ _
theorem cK_0 (hF : F.Nodup) (h : F[i]? = some s) : ∀ y, cI nd F i y = cK nd F i s 0 y := fun y => by
  unfold cK
  split
  · rename_i e
    subst e
    unfold cI
    rw [if_neg (not_take hF h)]
    simp [wantN]
  · rfl
theorem uK_0 : ∀ n, uI nd F i n = uK nd F i s 0 n := fun n => by unfold uK; simp
theorem cK_end (h : F[i]? = some s) : ∀ y, cK nd F i s (nd s).length y = cI nd F (i + 1) y := fun y => by
  unfold cK cI
  rw [List.take_length, take_snoc' h]
  by_cases e : y = s
  · subst e; simp
  · simp [e]
theorem uK_end (h : F[i]? = some s) : ∀ n, uK nd F i s (nd s).length n = uI nd F (i + 1) n := fun n => by
  unfold uK uI
  rw [List.take_length, take_snoc' h, List.filter_append]
  by_cases e : n ∈ F
  · by_cases e2 : n ∈ nd s <;> simp [e, e2]
  · simp [e]
theorem leftF_congr {c c' : Spt → Nat} (h : ∀ y, c y = c' y) : ∀ y, leftF F c y = leftF F c' y := fun y => by unfold leftF; rw [h]
theorem cK_y {k : Nat} {n : Spt} (hs : s ∈ F) (h : (nd s)[k]? = some n) (hn : n ∈ F) : ∀ y, updF (leftF F (cK nd F i s k)) s (.int .i64 ((cK nd F i s k s + 1 : Nat) : Int)) y = leftF F (cK nd F i s (k + 1)) y := fun y => by
  unfold updF leftF cK
  by_cases e : y = s
  · subst e
    rw [if_pos rfl, if_pos hs, if_pos rfl, if_pos rfl, want_snoc h, if_pos hn]
  · simp [e]
theorem cK_n {k : Nat} {n : Spt} (h : (nd s)[k]? = some n) (hn : n ∉ F) : ∀ y, leftF F (cK nd F i s k) y = leftF F (cK nd F i s (k + 1)) y := fun y => by
  unfold leftF cK
  rw [want_snoc h, if_neg hn]
  rfl
theorem uK_y {k : Nat} {n : Spt} (hd : (nd s).Nodup) (h : (nd s)[k]? = some n) (hn : n ∈ F) : ∀ m, addU (uK nd F i s k) n s m = uK nd F i s (k + 1) m := fun m => by
  unfold addU uK
  rw [take_snoc' h]
  by_cases e : m = n
  · subst e
    rw [if_pos rfl, if_neg (fun q => not_take hd h q.2), if_pos ⟨hn, by simp⟩]
  · rw [if_neg e]
    simp [e]
theorem uK_n {k : Nat} {n : Spt} (h : (nd s)[k]? = some n) (hn : n ∉ F) : ∀ m, uK nd F i s k m = uK nd F i s (k + 1) m := fun m => by
  unfold uK
  rw [take_snoc' h]
  by_cases e : m = n
  · subst e; simp [hn]
  · simp [e]
theorem uK_len (k : Nat) (n : Spt) : (uK nd F i s k n).length ≤ F.length + 1 := by
  have : (uI nd F i n).length ≤ F.length := by
    unfold uI
    split
    · exact Nat.le_trans (List.length_filter_le _ _) (by rw [List.length_take]; omega)
    · simp
  unfold uK
  split
  · rw [List.length_append]; simpa using this
  · omega
end
theorem pu_cond_t' (a b : Unit → Prop) (h : a ()) : (Pu EE).cond (.bool true) a b := (pu_cond_t a b).2 h
/-- all that stays as the maps are made -/
structure OS (bk : Bok) (M N N2 bL bU b1 : Nat) (g : Hp) (sv v4 : V) : Prop where
  good : Good bk
  MN : M ≤ N
  gn : g.n = N
  lN : N ≤ bL
  uN : N ≤ bU
  ne : bL ≠ bU
  l2 : bL < N2
  u2 : bU < N2
  b1N : b1 < N
  box : g.t.get b1 = some (.cells [sv] 24 false)
  shs : ShsAt M g sv bk
  all : Sps g v4 (fCells bk)
  in4 : In N v4
  few : ∀ s ∈ fCells bk, Few bk s
theorem leftF_y {F : List Spt} {c : Spt → Nat} {n : Spt} (h : n ∈ F) : leftF F c n = some (.int .i64 (c n : Int)) := if_pos h
theorem leftF_n {F : List Spt} {c : Spt → Nat} {n : Spt} (h : n ∉ F) : leftF F c n = none := if_neg h
theorem needs_loop3 (Q : V → Hp → Prop) {bk : Bok} {M N N2 bL bU b1 : Nat} {g : Hp} {sv v4 : V} (S : OS bk M N N2 bL bU b1 g sv v4) {i : Nat} {s : Spt} (hs : (fCells bk)[i]? = some s)
    (hS : Hp) (f0 : Spt → Option V) (t : Nat) (nv : V) (ht : hS.t.get t = some (.cells (spC s) 26 false)) (t1 : t < hS.n) (tl : t ≠ bL) (tu : t ≠ bU) (tf : ∀ m v, f0 m = some v → blkOf v ≠ some t) (tN : N2 ≤ t)
    (hnv : Sps hS nv (ndR bk s)) (nin : In hS.n nv) (nout : ∀ c, blkOf nv = some c → c ≠ bL ∧ c ≠ bU ∧ ∀ m v, f0 m = some v → blkOf v ≠ some c) (hn2 : N2 ≤ hS.n) (a40 a41 a42 : V) 
    (hq : ∀ h fU, MapFn spV h bL (leftF (fCells bk) (cI (ndR bk) (fCells bk) (i + 1))) → UMap N2 h bU fU (uI (ndR bk) (fCells bk) (i + 1)) → N2 ≤ h.n → Ext N hS h → L_deps_Order_3 Q (.ptr b1 0) .nils .nils v4 (.mp bL) (.mp bU) (.ptr t 0) a40 a41 a42 nv (.int .i64 (ndR bk s).length) (.int .i64 (ndR bk s).length) h) :
    ∀ (j k : Nat), (ndR bk s).length - k = j → k ≤ (ndR bk s).length → ∀ (h : Hp) (fU : Spt → Option V), MapFn spV h bL (leftF (fCells bk) (cK (ndR bk) (fCells bk) i s k)) → UMap N2 h bU fU (uK (ndR bk) (fCells bk) i s k) → UF bL bU f0 fU hS h → Ext N hS h →
      L_deps_Order_3 Q (.ptr b1 0) .nils .nils v4 (.mp bL) (.mp bU) (.ptr t 0) a40 a41 a42 nv (.int .i64 (ndR bk s).length) (.int .i64 k) h := by
  have hlN := S.lN
  have huN := S.uN
  have hne := S.ne
  have hl2 := S.l2
  have hu2 := S.u2
  have hlen := ndR_len S.good s
  have hFl := fCells_len S.good
  have hsF : s ∈ fCells bk := List.mem_of_getElem? hs
  intro j
  induction j with
  | zero =>
    intro k hj hk h fU mL U x e
    have hke : k = (ndR bk s).length := by omega
    subst hke
    exact hq h fU (mL.congr (leftF_congr (cK_end hs))) (U.congr (uK_end hs)) (Nat.le_trans hn2 x.n) e
  | succ j ih =>
    intro k hj hk h fU mL U x e
    have xn := x.n
    apply r_deps_Order_3
    unfold t_deps_Order_3
    rw [pu_lssN, decide_eq_true (by omega : k < (ndR bk s).length), pu_cond_t]
    have hkk : k < (ndR bk s).length := by omega
    obtain ⟨n, hn⟩ : ∃ n, (ndR bk s)[k]? = some n := ⟨_, List.getElem?_eq_getElem hkk⟩
    have hnvh : Sps h nv (ndR bk s) := by
      refine ⟨hnv.sized, hnv.at_.imp id ?_⟩
      rintro ⟨b, off, vs, h1, h2, h3⟩
      have hb : blkOf nv = some b := by rcases h3 with ⟨c, rfl⟩ | ⟨lo, z, rfl⟩ <;> rfl
      obtain ⟨o1, o2, o3⟩ := nout b hb
      refine ⟨b, off, vs, ?_, h2, h3⟩
      unfold rdCells at h1 ⊢
      rw [x.keep b (nin b hb) o1 o2 o3]
      exact h1
    have hth : h.t.get t = some (.cells (spC s) 26 false) := by rw [x.keep t t1 tl tu tf]; exact ht
    obtain ⟨b2, o2, m1, m2, _⟩ := sps_get hnvh s_sl_api_Spot l_api_Spot hn
    rw [m1, m2]
    refine pu_allocX l_api_Spot fun h1 t4 w1 => ?_
    refine pu_storeX l_api_Spot w1.at_ (x := spV n) rfl rfl (r := spC n) rfl fun h2 w2 => ?_
    have n1 := w1.n
    have n2 := w2.n
    have e1 := w1.b
    have old2 : ∀ c, c < h.n → h2.t.get c = h.t.get c := fun c hc => by rw [w2.other c (by omega), w1.old c hc]
    rw [pu_loadS l_api_Spot w2.at_ (l := spC n) rfl]
    show (Pu EE).look h2 _ (.mp bL) (spV n) true _
    have mL2 : MapFn spV h2 bL (leftF (fCells bk) (cK (ndR bk) (fCells bk) i s k)) := mL.keep (old2 bL (by omega))
    have U2 : UMap N2 h2 bU fU (uK (ndR bk) (fCells bk) i s k) := U.keep (by omega) (old2 bU (by omega)) fun m v c hm hc => old2 c ((U.ats m v hm).in_ c hc)
    have x2 : UF bL bU fU fU h h2 := ⟨by omega, fun c hc _ _ _ => old2 c hc, fun m v c hm hc => .inl ⟨m, v, hm, hc⟩⟩
    have hth2 : h2.t.get t = some (.cells (spC s) 26 false) := by rw [old2 t (by omega)]; exact hth
    by_cases hnF : n ∈ fCells bk
    · rw [pu_lookok m_int k_spot mL2 n (leftF_y hnF), pu_extr0, pu_extr1, pu_cond_t, pu_loadS l_api_Spot hth2 (l := spC s) rfl]
      show (Pu EE).look h2 _ (.mp bL) (spV s) false _
      have hcs : cK (ndR bk) (fCells bk) i s k s ≤ 100000 := by
        unfold cK
        rw [if_pos rfl]
        exact Nat.le_trans (want_le _ _) (by rw [List.length_take]; omega)
      rw [pu_look m_int k_spot mL2 s (leftF_y hsF), pu_inc _ _ _ _ (by omega)]
      show (Pu EE).mape h2 _ (.mp bL) (spV s) _
      obtain ⟨nb, k1, k2⟩ := pu_mape m_int k_spot mL2 s (leftF_y hsF)
      rw [k1]
      show (Pu EE).look h2 _ (.mp bL) (spV s) false _
      rw [pu_look m_int k_spot mL2 s (leftF_y hsF), same_int, pu_extr1]
      refine k2 _ _ _ fun h3 bl w3 mL3 => ?_
      have n3 := w3.n
      have mL3 := mL3.congr (cK_y hsF hn hnF)
      have U3 : UMap N2 h3 bU fU (uK (ndR bk) (fCells bk) i s k) := U2.keep (by omega) (w3.other bU (by omega)) fun m v c hm hc => w3.other c (by have := (U2.ats m v hm).ge c hc; omega)
      have x3 : UF bL bU fU fU h2 h3 := ⟨by omega, fun c hc q _ _ => w3.other c q, fun m v c hm hc => .inl ⟨m, v, hm, hc⟩⟩
      have ht4 : h3.t.get t4 = some (.cells (spC n) 26 false) := by rw [w3.other t4 (by omega)]; exact w2.at_
      have ht3 : h3.t.get t = some (.cells (spC s) 26 false) := by rw [w3.other t tl]; exact hth2
      rw [pu_loadS l_api_Spot ht4 (l := spC n) rfl, pu_loadS l_api_Spot ht3 (l := spC s) rfl]
      refine users_add (bL := bL) U3 hu2 (by omega) n s (by have := uK_len (nd := ndR bk) (F := fCells bk) (i := i) (s := s) k n; omega) fun h4 f4 U4 x4 y4 z4 => ?_
      rw [pu_inc _ _ _ _ (by omega)]
      have xx := ((x.trans x2).trans x3).trans x4
      refine ih (k + 1) (by omega) (by omega) h4 f4 (mL3.keep (z4 bL hl2 hne)) (U4.congr (uK_y ((needsR_nodup S.good.ris _)) hn hnF)) xx ?_
      refine e.trans ⟨?_, fun c hc => ?_⟩
      · have := x4.n; omega
      · rw [z4 c (by omega) (by omega), w3.other c (by omega), old2 c (by have := hn2; omega)]
    · rw [pu_lookok_none m_int k_spot mL2 n (leftF_n hnF) z_int, pu_extr0, pu_extr1, pu_cond_f, pu_inc _ _ _ _ (by omega)]
      refine ih (k + 1) (by omega) (by omega) h2 fU (mL2.congr (cK_n hn hnF)) (U2.congr (uK_n hn hnF)) (x.trans x2) (e.trans ⟨by omega, fun c hc => old2 c (by omega)⟩)
end
end Go.Proofs.YtlllhhjlfmhmlaaGreatDoor.VM
namespace Go.Proofs.YtlllhhjlfmhmlaaGreatDoor.VM
open Go
set_option linter.unusedVariables false
set_option linter.unusedSectionVars false
set_option linter.unusedSimpArgs false
set_option maxRecDepth 20000
noncomputable section
attribute [local instance] syZ
theorem users_loop2 (Q : V → Hp → Prop) {bk : Bok} {M N N2 bL bU b1 : Nat} {g : Hp} {sv v4 : V} (S : OS bk M N N2 bL bU b1 g sv v4)
    (hq : ∀ h fU, MapFn spV h bL (leftF (fCells bk) (cI (ndR bk) (fCells bk) (fCells bk).length)) → UMap N2 h bU fU (uI (ndR bk) (fCells bk) (fCells bk).length) → N2 ≤ h.n → Ext N g h →
      L_deps_Order_2 Q (.ptr b1 0) .nils .nils v4 (.mp bL) (.mp bU) v4 (.int .i64 (fCells bk).length) (.int .i64 (fCells bk).length) h) :
    ∀ (j i : Nat), (fCells bk).length - i = j → i ≤ (fCells bk).length → ∀ (h : Hp) (fU : Spt → Option V), MapFn spV h bL (leftF (fCells bk) (cI (ndR bk) (fCells bk) i)) → UMap N2 h bU fU (uI (ndR bk) (fCells bk) i) → N2 ≤ h.n → Ext N g h →
      L_deps_Order_2 Q (.ptr b1 0) .nils .nils v4 (.mp bL) (.mp bU) v4 (.int .i64 (fCells bk).length) (.int .i64 i) h := by
  have hlN := S.lN
  have huN := S.uN
  have hne := S.ne
  have hl2 := S.l2
  have hu2 := S.u2
  have hgn := S.gn
  have hFl := fCells_len S.good
  have hFn := (fCells_ris S.good).nodup
  intro j
  induction j with
  | zero =>
    intro i hj hi h fU mL U hn e
    have : i = (fCells bk).length := by omega
    subst this
    exact hq h fU mL U hn e
  | succ j ih =>
    intro i hj hi h fU mL U hn e
    have en := e.n
    apply r_deps_Order_2
    unfold t_deps_Order_2
    rw [pu_lssN, decide_eq_true (by omega : i < (fCells bk).length), pu_cond_t]
    have hii : i < (fCells bk).length := by omega
    obtain ⟨s, hs⟩ : ∃ s, (fCells bk)[i]? = some s := ⟨_, List.getElem?_eq_getElem hii⟩
    obtain ⟨b2, o2, m1, m2, _⟩ := sps_get (S.all.ext e S.in4) s_sl_api_Spot l_api_Spot hs
    rw [m1, m2]
    refine pu_allocX l_api_Spot fun h1 t w1 => ?_
    refine pu_storeX l_api_Spot w1.at_ (x := spV s) rfl rfl (r := spC s) rfl fun h2 w2 => ?_
    have n1 := w1.n
    have n2 := w2.n
    have e1 := w1.b
    have old2 : ∀ c, c < h.n → h2.t.get c = h.t.get c := fun c hc => by rw [w2.other c (by omega), w1.old c hc]
    have x2 : Ext N g h2 := e.trans ⟨by omega, fun c hc => old2 c (by omega)⟩
    have hbox : h2.t.get b1 = some (.cells [sv] 24 false) := by rw [x2.old b1 S.b1N]; exact S.box
    rw [pu_loadS l_api_Book hbox (l := [sv]) rfl, pu_loadS l_api_Spot w2.at_ (l := spC s) rfl]
    have hMN := S.MN
    refine (dneeds_ok M h2 _ bk s ⟨sv, rfl, S.shs.ext (x2.mono S.MN)⟩ (by omega) S.good (S.few s (List.mem_of_getElem? hs))).mono ?_
    rintro nv h3 ⟨o3, x3⟩
    have n3 := x3.n
    rw [pu_len o3.sps s_sl_api_Spot]
    have U3 : UMap N2 h3 bU fU (uI (ndR bk) (fCells bk) i) := U.keep (by omega) (by rw [x3.old bU (by omega), old2 bU (by omega)]) fun m v c hm hc => by
      have := (U.ats m v hm).in_ c hc
      rw [x3.old c (by omega), old2 c this]
    have mL3 : MapFn spV h3 bL (leftF (fCells bk) (cI (ndR bk) (fCells bk) i)) := mL.keep (by rw [x3.old bL (by omega), old2 bL (by omega)])
    refine needs_loop3 Q S hs h3 fU t nv (by rw [x3.old t (by omega)]; exact w2.at_) (by omega) (by omega) (by omega) (fun m v hm hc => by have := (U.ats m v hm).in_ t hc; omega) (by omega) o3.sps o3.in_ (fun c hc => ?_) (by omega) _ _ _ (fun h4 f4 mL4 U4 hn4 x4 => ?_)
      (ndR bk s).length 0 (by omega) (Nat.zero_le _) h3 fU (mL3.congr (leftF_congr (cK_0 hFn hs))) (U3.congr uK_0) (UF.refl _ _ _ _) (Ext.refl _ _)
    · have h1 := o3.ge c hc
      exact ⟨by omega, by omega, fun m v hm hv => by have := (U.ats m v hm).in_ c hv; omega⟩
    · apply r_deps_Order_3
      unfold t_deps_Order_3
      rw [pu_lssN, decide_eq_false (by omega : ¬ (ndR bk s).length < (ndR bk s).length), pu_cond_f, pu_inc _ _ _ _ (by omega)]
      exact ih (i + 1) (by omega) (by omega) h4 f4 mL4 U4 hn4 ((x2.trans (x3.mono (by omega))).trans x4)
theorem left_loop1 (Q : V → Hp → Prop) {bk : Bok} {b1 bL N : Nat} {g : Hp} {v4 : V} (hgn : g.n = N) (hN : N ≤ bL) (gd : Good bk) (all : Sps g v4 (fCells bk)) (in4 : In N v4)
    (hq : ∀ h, MapFn spV h bL (leftF (fCells bk) (cI (ndR bk) (fCells bk) 0)) → Ext N g h → bL < h.n → L_deps_Order_1 Q (.ptr b1 0) .nils .nils v4 (.mp bL) v4 (.int .i64 (fCells bk).length) (.int .i64 (fCells bk).length) h) :
    ∀ (j i : Nat), (fCells bk).length - i = j → i ≤ (fCells bk).length → ∀ (h : Hp), MapFn spV h bL (leftF ((fCells bk).take i) fun _ => 0) → Ext N g h → bL < h.n →
      L_deps_Order_1 Q (.ptr b1 0) .nils .nils v4 (.mp bL) v4 (.int .i64 (fCells bk).length) (.int .i64 i) h := by
  have hFl := fCells_len gd
  intro j
  induction j with
  | zero =>
    intro i hj hi h mL e hb
    have : i = (fCells bk).length := by omega
    subst this
    rw [List.take_length] at mL
    exact hq h (mL.congr (leftF_congr fun y => by unfold cI; simp)) e hb
  | succ j ih =>
    intro i hj hi h mL e hb
    have en := e.n
    apply r_deps_Order_1
    unfold t_deps_Order_1
    rw [pu_lssN, decide_eq_true (by omega : i < (fCells bk).length), pu_cond_t]
    have hii : i < (fCells bk).length := by omega
    obtain ⟨s, hs⟩ : ∃ s, (fCells bk)[i]? = some s := ⟨_, List.getElem?_eq_getElem hii⟩
    obtain ⟨b2, o2, m1, m2, _⟩ := sps_get (all.ext e in4) s_sl_api_Spot l_api_Spot hs
    rw [m1, m2]
    refine pu_allocX l_api_Spot fun h1 t w1 => ?_
    refine pu_storeX l_api_Spot w1.at_ (x := spV s) rfl rfl (r := spC s) rfl fun h2 w2 => ?_
    have n1 := w1.n
    have n2 := w2.n
    have e1 := w1.b
    have old2 : ∀ c, c < h.n → h2.t.get c = h.t.get c := fun c hc => by rw [w2.other c (by omega), w1.old c hc]
    rw [pu_loadS l_api_Spot w2.at_ (l := spC s) rfl]
    show (Pu EE).mapu h2 _ (.mp bL) (spV s) _ _
    refine pu_mapu m_int k_spot (mL.keep (old2 bL hb)) s _ fun h3 bl w3 mL3 => ?_
    have n3 := w3.n
    rw [pu_inc _ _ _ _ (by omega)]
    refine ih (i + 1) (by omega) (by omega) h3 (mL3.congr fun y => ?_) (e.trans ⟨by omega, fun c hc => by rw [w3.other c (by omega), old2 c (by omega)]⟩) (by omega)
    unfold updF leftF
    rw [take_snoc' hs]
    by_cases ey : y = s
    · subst ey; simp
    · simp [ey]
end
end Go.Proofs.YtlllhhjlfmhmlaaGreatDoor.VM
namespace Go.Proofs.YtlllhhjlfmhmlaaGreatDoor.VM
open Go
set_option linter.unusedVariables false
set_option linter.unusedSectionVars false
set_option linter.unusedSimpArgs false
set_option maxRecDepth 20000
noncomputable section
attribute [local instance] syZ
theorem eql0 (a : Nat) (t : Nat) (cx cy : Bool) (q : V → Prop) : (Pu EE).bin .eql t cx cy (.int .i64 a) (.int .i64 0) q ↔ q (.bool (decide (a = 0))) := eqlN a 0 t cx cy q
theorem gtr0 (a : Nat) (t : Nat) (cx cy : Bool) (q : V → Prop) : (Pu EE).bin .gtr t cx cy (.int .i64 a) (.int .i64 0) q ↔ q (.bool (decide (0 < a))) := by
  rw [pu_gtr]
  have : decide ((0 : Int) < (a : Int)) = decide (0 < a) := by rw [decide_eq_decide]; omega
  rw [this]
theorem sub1 {a : Nat} (h : 1 ≤ a) (hl : a ≤ 1000000) (t : Nat) (cx cy : Bool) (q : V → Prop) : (Pu EE).bin .sub t cx cy (.int .i64 a) (.int .i64 1) q ↔ q (.int .i64 ((a - 1 : Nat) : Int)) := by
  rw [pu_sub, show (a : Int) - 1 = ((a - 1 : Nat) : Int) by omega, w64 _ (by omega)]
theorem pu_ifaceQ (b : Nat) (q : V → Prop) : (Pu EE).iface 55 (.ptr b 0) q ↔ q (qV b) := by
  show (∃ v, ((EE.ty.get 55).bind fun i => ifaceV 55 (.ptr b 0) i) = some v ∧ q v) ↔ _
  have : ((EE.ty.get 55).bind fun i => ifaceV 55 (.ptr b 0) i) = some (qV b) := by kernel_rfl
  rw [this, ex_some]
/-- between the rounds of the queue -/
structure QSt (N2 N3 bL b : Nat) (F : List Spt) (g : Hp) (h : Hp) (c : Spt → Nat) (q : List Spt) (qb : Nat) (v2 : V) (done : List Spt) : Prop where
  mL : MapFn spV h bL (leftF F c)
  qa : QAt N3 h b qb q
  old : ∀ x, x < N3 → x ≠ bL → h.t.get x = g.t.get x
  n3 : N3 ≤ h.n
  out : OwnS N3 h v2 done
  sep : ∀ x, blkOf v2 = some x → x ≠ b ∧ x ≠ qb
  cl : ∀ s ∈ F, c s ≤ 100000
section
variable {N2 N3 bL b : Nat} {F : List Spt} {g : Hp}
theorem QSt.keep {h h' : Hp} {c : Spt → Nat} {q : List Spt} {qb : Nat} {v2 : V} {done : List Spt} (S : QSt N2 N3 bL b F g h c q qb v2 done) (hb : bL < N3) (x : Ext h.n h h') : QSt N2 N3 bL b F g h' c q qb v2 done := by
  have := x.n
  have := S.n3
  exact ⟨S.mL.keep (x.old bL (by omega)), S.qa.ext x, fun y hy hn => by rw [x.old y (by omega), S.old y hy hn], by omega, S.out.keep x.n fun y hy => x.old y (S.out.in_ y hy), S.sep, S.cl⟩
theorem QSt.push {h h' : Hp} {c : Spt → Nat} {q q' : List Spt} {qb qb' : Nat} {v2 : V} {done : List Spt} (S : QSt N2 N3 bL b F g h c q qb v2 done) (hb : bL < N3) (a : QAt N3 h' b qb' q') (f : QF b qb qb' h h') : QSt N2 N3 bL b F g h' c q' qb' v2 done := by
  have := f.n
  have h3 := S.n3
  have e1 := S.qa.nb
  have e2 := S.qa.nq
  refine ⟨S.mL.keep (f.keep bL (by omega) (by omega) (by omega)), a, fun y hy hn => by rw [f.keep y (by omega) (by omega) (by omega), S.old y hy hn], by omega, S.out.keep f.n fun y hy => f.keep y (S.out.in_ y hy) (S.sep y hy).1 (S.sep y hy).2, fun y hy => ⟨(S.sep y hy).1, fun e => ?_⟩, S.cl⟩
  rcases f.new with k | k
  · exact (S.sep y hy).2 (e.trans k)
  · have := S.out.in_ y hy; omega
theorem QSt.left {h h' : Hp} {c c' : Spt → Nat} {q : List Spt} {qb : Nat} {v2 : V} {done : List Spt} (S : QSt N2 N3 bL b F g h c q qb v2 done) (hb : bL < N3) {bl : Blk} (w : Wr h h' bL bl) (m : MapFn spV h' bL (leftF F c')) (hc : ∀ s ∈ F, c' s ≤ 100000) : QSt N2 N3 bL b F g h' c' q qb v2 done := by
  have := w.n
  have h3 := S.n3
  have e1 := S.qa.nb
  have e2 := S.qa.nq
  exact ⟨m, S.qa.keep (by omega) (w.other b (by omega)) (w.other qb (by omega)), fun y hy hn => by rw [w.other y hn, S.old y hy hn], by omega, S.out.keep (by omega) fun y hy => w.other y (by have := S.out.ge y hy; omega), S.sep, hc⟩
end
theorem relax_len (us : List Spt) : ∀ (c : Spt → Nat) (q : List Spt), Up q q.length → us.Nodup → (relax us c q).2.length ≤ q.length + us.length := fun c q hu hn => by
  have := (relax_ok us c q hn hu).2.2.length_eq
  rw [this, List.length_append]
  have := List.length_filter_le (fun u => decide (c u - 1 = 0)) us
  omega
theorem relax_loop6 (Q : V → Hp → Prop) {N2 N3 bL bU b : Nat} {F : List Spt} {g : Hp} {v4 v2 uv : V} {done us : List Spt} (hb : bL < N3) (hb2 : bL < N2) (hF : F.length ≤ 100000) (huF : ∀ u ∈ us, u ∈ F) (hun : us.Nodup) (huv : Sps g uv us) (hui : ∀ c, blkOf uv = some c → N2 ≤ c ∧ c < N3) (hul : us.length ≤ 100000)
    {c0 : Spt → Nat} {q0 : List Spt} (hpos : ∀ u ∈ us, 1 ≤ c0 u) (hup : Up q0 q0.length) (hql : q0.length ≤ 100000)
    (hq : ∀ h qb, QSt N2 N3 bL b F g h (relax us c0 q0).1 (relax us c0 q0).2 qb v2 done → L_deps_Order_5 Q v2 .nils v4 (.mp bL) (.mp bU) (.ptr b 0) h) :
    ∀ (j k : Nat), us.length - k = j → k ≤ us.length → ∀ (h : Hp) (qb : Nat), QSt N2 N3 bL b F g h (relax (us.take k) c0 q0).1 (relax (us.take k) c0 q0).2 qb v2 done →
      L_deps_Order_6 Q v2 .nils v4 (.mp bL) (.mp bU) (.ptr b 0) uv (.int .i64 us.length) (.int .i64 k) h := by
  intro j
  induction j with
  | zero =>
    intro k hj hk h qb S
    apply r_deps_Order_6
    unfold t_deps_Order_6
    rw [pu_lssN, decide_eq_false (by omega : ¬ k < us.length), pu_cond_f]
    rw [List.take_of_length_le (by omega)] at S
    exact hq h qb S
  | succ j ih =>
    intro k hj hk h qb S
    have hkk : k < us.length := by omega
    obtain ⟨u, hu⟩ : ∃ u, us[k]? = some u := ⟨_, List.getElem?_eq_getElem hkk⟩
    have hum : u ∈ us := List.mem_of_getElem? hu
    have huF := huF u hum
    have hn3 := S.n3
    apply r_deps_Order_6
    unfold t_deps_Order_6
    rw [pu_lssN, decide_eq_true hkk, pu_cond_t]
    have huvh : Sps h uv us := by
      refine ⟨huv.sized, huv.at_.imp id ?_⟩
      rintro ⟨y, off, vs, h1, h2, h3⟩
      have hy : blkOf uv = some y := by rcases h3 with ⟨c, rfl⟩ | ⟨lo, z, rfl⟩ <;> rfl
      obtain ⟨o1, o2⟩ := hui y hy
      refine ⟨y, off, vs, ?_, h2, h3⟩
      unfold rdCells at h1 ⊢
      rw [S.old y o2 (by omega)]
      exact h1
    obtain ⟨b2, o2, m1, m2, _⟩ := sps_get huvh s_sl_api_Spot l_api_Spot hu
    rw [m1, m2]
    refine pu_allocX l_api_Spot fun h1 t w1 => ?_
    refine pu_storeX l_api_Spot w1.at_ (x := spV u) rfl rfl (r := spC u) rfl fun h2 w2 => ?_
    have n1 := w1.n
    have n2 := w2.n
    have e1 := w1.b
    have x2 : Ext h.n h h2 := ⟨by omega, fun c hc => by rw [w2.other c (by omega), w1.old c hc]⟩
    have S2 := S.keep hb x2
    rw [pu_loadS l_api_Spot w2.at_ (l := spC u) rfl]
    show (Pu EE).look h2 _ (.mp bL) (spV u) false _
    obtain ⟨c, hc⟩ : ∃ c, c = (relax (us.take k) c0 q0).1 := ⟨_, rfl⟩
    obtain ⟨q, hqq⟩ : ∃ q, q = (relax (us.take k) c0 q0).2 := ⟨_, rfl⟩
    have hrel := relax_ok (us.take k) c0 q0 (hun.sublist (List.take_sublist _ _)) hup
    have hql2 := relax_len (us.take k) c0 q0 hup (hun.sublist (List.take_sublist _ _))
    have hsn : relax (us.take (k + 1)) c0 q0 = (decC c u, if decC c u u = 0 then hpushL q u else q) := by rw [take_snoc' hu, relax_snoc, hc, hqq]
    rw [← hc, ← hqq] at S S2
    rw [← hqq] at hql2
    have hcu : c u = c0 u := by rw [hc, hrel.1, if_neg (not_take hun hu)]
    have hcu1 : 1 ≤ c u := by rw [hcu]; exact hpos u hum
    have hcl := S.cl u huF
    have htl : (us.take k).length ≤ us.length := by rw [List.length_take]; omega
    rw [pu_look m_int k_spot S2.mL u (leftF_y huF), sub1 hcu1 (by omega)]
    show (Pu EE).mape h2 _ (.mp bL) (spV u) _
    obtain ⟨nb, k1, k2⟩ := pu_mape m_int k_spot S2.mL u (leftF_y huF)
    rw [k1]
    show (Pu EE).look h2 _ (.mp bL) (spV u) false _
    rw [pu_look m_int k_spot S2.mL u (leftF_y huF), same_int, pu_extr1]
    refine k2 _ _ _ fun h3 bl w3 mL3 => ?_
    have n3 := w3.n
    have hdec : decC c u u = c u - 1 := by unfold decC; rw [if_pos rfl]
    have mL3 := mL3.congr (g := leftF F (decC c u)) fun y => by
      unfold updF leftF decC
      by_cases e : y = u
      · subst e; simp [huF]
      · simp [e]
    have S3 := S2.left hb w3 mL3 fun s hs => by
      have := S.cl s hs
      unfold decC
      split <;> omega
    have ht3 : h3.t.get t = some (.cells (spC u) 26 false) := by rw [w3.other t (by omega)]; exact w2.at_
    rw [pu_loadS l_api_Spot ht3 (l := spC u) rfl]
    show (Pu EE).look h3 _ (.mp bL) (spV u) false _
    rw [pu_look m_int k_spot mL3 u (leftF_y huF), eql0]
    by_cases hz : decC c u u = 0
    · rw [decide_eq_true hz, pu_cond_t, pu_ifaceQ, pu_loadS l_api_Spot ht3 (l := spC u) rfl]
      show (Pu EE).iface _ (spV u) _
      rw [pu_ifaceS]
      refine (hpush_ok S3.qa u (by omega) S3.n3).mono ?_
      rintro y h4 ⟨qb', a4, f4⟩
      rw [pu_inc _ _ _ _ (by omega)]
      refine ih (k + 1) (by omega) (by omega) h4 qb' ?_
      rw [hsn, if_pos hz]
      exact S3.push hb a4 f4
    · rw [decide_eq_false hz, pu_cond_f, pu_inc _ _ _ _ (by omega)]
      refine ih (k + 1) (by omega) (by omega) h3 qb ?_
      rw [hsn, if_neg hz]
      exact S3
end
end Go.Proofs.YtlllhhjlfmhmlaaGreatDoor.VM
namespace Go.Proofs.YtlllhhjlfmhmlaaGreatDoor.VM
open Go
set_option linter.unusedVariables false
set_option linter.unusedSectionVars false
set_option linter.unusedSimpArgs false
set_option maxRecDepth 20000
noncomputable section
attribute [local instance] syZ
theorem uI_users (nd : Spt → List Spt) {F : List Spt} {x : Spt} (hx : x ∈ F) : uI nd F F.length x = usersR nd F x := by
  unfold uI usersR
  rw [if_pos hx, List.take_length]
theorem order_loop5 (Q : V → Hp → Prop) {nd : Spt → List Spt} {N2 N3 bL bU b : Nat} {F : List Spt} {g : Hp} {v4 : V} {fU : Spt → Option V} (hb : bL < N3) (hb2 : bL < N2) (hbU : bU < N3) (hbne : bU ≠ bL) (hF : F.length ≤ 100000) (hgn : g.n = N3) (U : UMap N2 g bU fU (uI nd F F.length)) (hall : Sps g v4 F) (hin : ∀ x, blkOf v4 = some x → x < bL)
    (hq : ∀ h c q qb v2 done R, (F.filter fun s => decide (0 < c s)) = R → orderR nd F.length F = (done, R) → QSt N2 N3 bL b F g h c q qb v2 done → L_deps_Order_7 Q v2 .nils (.mp bL) v4 (.int .i64 F.length) (.int .i64 (0 : Nat)) h) :
    ∀ (n : Nat) (R : List Spt), R.length = n → ∀ (h : Hp) (c : Spt → Nat) (q : List Spt) (qb : Nat) (v2 : V) (done : List Spt), OInv nd F R c q → QSt N2 N3 bL b F g h c q qb v2 done →
      orderR nd F.length F = (done ++ (orderR nd R.length R).1, (orderR nd R.length R).2) → done.length + R.length = F.length → L_deps_Order_5 Q v2 .nils v4 (.mp bL) (.mp bU) (.ptr b 0) h := by
  have stop : ∀ (R : List Spt) (h : Hp) (c : Spt → Nat) (qb : Nat) (v2 : V) (done : List Spt), OInv nd F R c [] → QSt N2 N3 bL b F g h c [] qb v2 done →
      orderR nd F.length F = (done ++ (orderR nd R.length R).1, (orderR nd R.length R).2) → L_deps_Order_5 Q v2 .nils v4 (.mp bL) (.mp bU) (.ptr b 0) h := by
    intro R h c qb v2 done I S ho
    apply r_deps_Order_5
    unfold t_deps_Order_5
    refine (qlen_ok S.qa).mono ?_
    rintro y h1 ⟨rfl, rfl⟩
    rw [show (([] : List Spt).length : Int) = ((0 : Nat) : Int) from rfl, gtr0, decide_eq_false (by omega : ¬ 0 < 0), pu_cond_f]
    obtain ⟨s1, s2⟩ := I.stop
    rw [orderR_none s1] at ho
    have hv4 : Sps h1 v4 F := by
      refine Rd.ext hall (N := bL) ⟨by rw [hgn]; exact S.n3, fun x hx => S.old x (by omega) (by omega)⟩ hin
    rw [pu_len hv4 s_sl_api_Spot]
    exact hq h1 c [] qb v2 done R s2 (by simpa using ho) S
  intro n
  induction n with
  | zero =>
    intro R hR h c q qb v2 done I S ho hdl
    have hR0 : R = [] := List.length_eq_zero_iff.1 hR
    subst hR0
    have hq0 : q = [] := List.Perm.eq_nil (by have := I.perm; simpa using this)
    subst hq0
    exact stop _ h c qb v2 done I S ho
  | succ n ih =>
    intro R hR h c q qb v2 done I S ho hdl
    cases hqq : q with
    | nil => subst hqq; exact stop _ h c qb v2 done I S ho
    | cons x q1 =>
      have hx : q[0]? = some x := by rw [hqq]; rfl
      obtain ⟨p1, p2, p3⟩ := I.pick hx
      have hxF : x ∈ F := I.sub.mem p2
      have hql : q.length ≤ F.length := by
        rw [I.perm.length_eq]
        exact Nat.le_trans (List.length_filter_le _ _) I.sub.length_le
      have hq0 : 0 < q.length := by rw [hqq]; simp
      have hn3 := S.n3
      apply r_deps_Order_5
      unfold t_deps_Order_5
      refine (qlen_ok S.qa).mono ?_
      rintro y h1 ⟨rfl, rfl⟩
      rw [gtr0, decide_eq_true hq0, pu_cond_t, pu_ifaceQ]
      refine (hpop_ok S.qa hx (by omega) hn3).mono ?_
      rintro y h2 ⟨rfl, a2, f2⟩
      have S2 := S.push hb a2 f2
      rw [pu_assertS, pu_extr0, pu_extr1]
      refine pu_allocX l_api_Spot fun h3 t w3 => ?_
      refine pu_storeX l_api_Spot w3.at_ (x := spV x) rfl rfl (r := spC x) rfl fun h4 w4 => ?_
      have n3 := w3.n
      have n4 := w4.n
      have e3 := w3.b
      have x4 : Ext h2.n h2 h4 := ⟨by omega, fun c hc => by rw [w4.other c (by omega), w3.old c hc]⟩
      have S4 := S2.keep hb x4
      have hn2 := S2.n3
      have hn4 := S4.n3
      rw [pu_loadS l_api_Spot w4.at_ (l := spC x) rfl]
      show (Pu EE).bsl h4 _ 1 [(0, spV x)] _
      refine append_spot S4.out x (by omega) hn4 _ fun v5 h5 o5 x5 k5 m5 => ?_
      have n5 := x5.n
      have ht5 : h5.t.get t = some (.cells (spC x) 26 false) := by
        rw [k5 t (by omega) (fun e => by have := S2.out.in_ t e; omega)]; exact w4.at_
      have S5 : QSt N2 N3 bL b F g h5 c (hpopL q) qb v5 (done ++ [x]) := by
        have e1 := S4.qa.nb
        have e2 := S4.qa.nq
        refine ⟨S4.mL.keep (x5.old bL hb), S4.qa.keep n5 (k5 b S4.qa.bn fun e => (S4.sep b e).1 rfl) (k5 qb S4.qa.qn fun e => (S4.sep qb e).2 rfl), fun y hy hn => by rw [x5.old y hy, S4.old y hy hn], by omega, o5, fun y hy => ?_, S4.cl⟩
        rcases m5 y hy with k | k
        · exact S4.sep y k
        · have := S4.qa.bn
          have := S4.qa.qn
          exact ⟨by omega, by omega⟩
      rw [pu_loadS l_api_Spot ht5 (l := spC x) rfl]
      show (Pu EE).look h5 _ (.mp bU) (spV x) false _
      have mU : MapFn spV h5 bU fU := U.map.keep (S5.old bU hbU hbne)
      have hus := uI_users nd hxF
      have hnext : ∀ h' qb', QSt N2 N3 bL b F g h' (relax (usersR nd F x) c (hpopL q)).1 (relax (usersR nd F x) c (hpopL q)).2 qb' v5 (done ++ [x]) → L_deps_Order_5 Q v5 .nils v4 (.mp bL) (.mp bU) (.ptr b 0) h' := by
        intro h' qb' S'
        have hl := List.length_erase_of_mem p2
        refine ih (R.erase x) (by omega) h' _ _ qb' v5 (done ++ [x]) (I.step hx) S' ?_ ?_
        · rw [ho, hR, orderR_some p1, orderR_more n (R.erase x).length (R.erase x) (by omega) (by omega)]
          simp
        · rw [List.length_append, hl]; simp; omega
      have hun : (usersR nd F x).Nodup := I.ris.nodup.filter _
      have huF : ∀ u ∈ usersR nd F x, u ∈ F := fun u hu => (List.mem_filter.1 hu).1
      have hpos : ∀ u ∈ usersR nd F x, 1 ≤ c u := fun u hu => by
        obtain ⟨k1, k2⟩ := List.mem_filter.1 hu
        rw [I.cnt u k1]
        unfold wantN
        have : x ∈ (nd u).filter fun n => R.contains n := by
          rw [List.mem_filter]
          exact ⟨by simpa using k2, by simpa using p2⟩
        exact List.length_pos_of_mem this
      have hul : (usersR nd F x).length ≤ 100000 := Nat.le_trans (List.length_filter_le _ _) hF
      obtain ⟨hup, hpp, _⟩ := hpop_heap I.up hx
      have hpl : (hpopL q).length ≤ 100000 := by have := hpp.length_eq; simp at this; omega
      have fin : ∀ uv, Sps g uv (usersR nd F x) → (∀ y, blkOf uv = some y → N2 ≤ y ∧ y < N3) → (Pu EE).lbui h5 #[29] .len [uv] fun x22 => L_deps_Order_6 Q v5 .nils v4 (.mp bL) (.mp bU) (.ptr b 0) uv x22 (.int .i64 0) h5 := by
        intro uv huv hui
        have huvh : Sps h5 uv (usersR nd F x) := by
          refine ⟨huv.sized, huv.at_.imp id ?_⟩
          rintro ⟨y, off, vs, h1, h2, h3⟩
          have hy : blkOf uv = some y := by rcases h3 with ⟨c, rfl⟩ | ⟨lo, z, rfl⟩ <;> rfl
          obtain ⟨o1, o2⟩ := hui y hy
          refine ⟨y, off, vs, ?_, h2, h3⟩
          unfold rdCells at h1 ⊢
          rw [S5.old y o2 (by omega)]
          exact h1
        rw [pu_len huvh s_sl_api_Spot]
        exact relax_loop6 Q hb hb2 hF huF hun huv hui hul hpos hup hpl hnext (usersR nd F x).length 0 (by omega) (Nat.zero_le _) h5 qb S5
      cases hfx : fU x with
      | none =>
        rw [pu_look_none m_users k_spot mU x hfx z_users]
        have := U.nones x hfx
        rw [hus] at this
        refine fin .nils (by rw [this]; exact Rd.nil _ _) fun y hy => (by cases hy)
      | some uv =>
        rw [pu_look m_users k_spot mU x hfx]
        have o := U.ats x uv hfx
        rw [hus] at o
        exact fin uv o.sps fun y hy => ⟨o.ge y hy, by have := o.in_ y hy; omega⟩
theorem cyc_loop7 (Q : V → Hp → Prop) {N N3 bL : Nat} {F : List Spt} {g : Hp} {v4 v2 : V} {c : Spt → Nat} {done : List Spt} (hb : bL < N3) (hF : F.length ≤ 100000) (hgn : N3 ≤ g.n) (hall : Sps g v4 F) (hin : In N3 v4) (m : MapFn spV g bL (leftF F c)) (hcl : ∀ s ∈ F, c s ≤ 100000) (hout : Sps g v2 done) (hi2 : In g.n v2)
    (hq : ∀ h v3, OwnS g.n h v3 (F.filter fun s => decide (0 < c s)) → Ext g.n g h → Q (.tup [v2, v3]) h) :
    ∀ (j i : Nat), F.length - i = j → i ≤ F.length → ∀ (h : Hp) (v3 : V), OwnS g.n h v3 ((F.take i).filter fun s => decide (0 < c s)) → Ext g.n g h →
      L_deps_Order_7 Q v2 v3 (.mp bL) v4 (.int .i64 F.length) (.int .i64 i) h := by
  intro j
  induction j with
  | zero =>
    intro i hj hi h v3 o e
    apply r_deps_Order_7
    unfold t_deps_Order_7
    rw [pu_lssN, decide_eq_false (by omega : ¬ i < F.length), pu_cond_f]
    rw [List.take_of_length_le (by omega)] at o
    exact hq h v3 o e
  | succ j ih =>
    intro i hj hi h v3 o e
    have hii : i < F.length := by omega
    have en := e.n
    obtain ⟨s, hs⟩ : ∃ s, F[i]? = some s := ⟨_, List.getElem?_eq_getElem hii⟩
    have hsF : s ∈ F := List.mem_of_getElem? hs
    apply r_deps_Order_7
    unfold t_deps_Order_7
    rw [pu_lssN, decide_eq_true hii, pu_cond_t]
    obtain ⟨b2, o2, m1, m2, _⟩ := sps_get (hall.ext (e.mono hgn) hin) s_sl_api_Spot l_api_Spot hs
    rw [m1, m2]
    refine pu_allocX l_api_Spot fun h1 t w1 => ?_
    refine pu_storeX l_api_Spot w1.at_ (x := spV s) rfl rfl (r := spC s) rfl fun h2 w2 => ?_
    have n1 := w1.n
    have n2 := w2.n
    have e1 := w1.b
    have x2 : Ext h.n h h2 := ⟨by omega, fun c hc => by rw [w2.other c (by omega), w1.old c hc]⟩
    rw [pu_loadS l_api_Spot w2.at_ (l := spC s) rfl]
    show (Pu EE).look h2 _ (.mp bL) (spV s) false _
    have m2' : MapFn spV h2 bL (leftF F c) := m.keep (by rw [x2.old bL (by omega), e.old bL (by omega)])
    have hcs := hcl s hsF
    rw [pu_look m_int k_spot m2' s (leftF_y hsF), gtr0]
    have o2 := o.keep x2.n fun y hy => x2.old y (o.in_ y hy)
    by_cases hz : 0 < c s
    · rw [decide_eq_true hz, pu_cond_t, pu_loadS l_api_Spot w2.at_ (l := spC s) rfl]
      show (Pu EE).bsl h2 _ 1 [(0, spV s)] _
      refine append_spot o2 s ?_ (by omega) _ fun v5 h5 o5 x5 k5 m5 => ?_
      · have := List.length_filter_le (fun s => decide (0 < c s)) (F.take i)
        have : (F.take i).length ≤ F.length := by rw [List.length_take]; omega
        omega
      · rw [pu_inc _ _ _ _ (by omega)]
        refine ih (i + 1) (by omega) (by omega) h5 v5 ?_ ((e.trans (x2.mono en)).trans x5)
        rw [take_snoc' hs, List.filter_append, List.filter_cons_of_pos (by simpa using hz)]
        exact o5
    · rw [decide_eq_false hz, pu_cond_f, pu_inc _ _ _ _ (by omega)]
      refine ih (i + 1) (by omega) (by omega) h2 v3 ?_ (e.trans (x2.mono en))
      rw [take_snoc' hs, List.filter_append, List.filter_cons_of_neg (by simpa using hz)]
      simpa using o2
end
end Go.Proofs.YtlllhhjlfmhmlaaGreatDoor.VM
namespace Go.Proofs.YtlllhhjlfmhmlaaGreatDoor.VM
open Go
set_option linter.unusedVariables false
set_option linter.unusedSectionVars false
set_option linter.unusedSimpArgs false
set_option maxRecDepth 20000
noncomputable section
attribute [local instance] syZ
theorem push_loop4 (Q : V → Hp → Prop) {N2 N3 bL bU b : Nat} {F : List Spt} {g : Hp} {v4 : V} {c : Spt → Nat} (hb : bL < N3) (hF : F.length ≤ 100000) (hgn : g.n = N3) (hall : Sps g v4 F) (hin : ∀ x, blkOf v4 = some x → x < bL)
    (hq : ∀ h q qb, QSt N2 N3 bL b F g h c q qb .nils [] → Up q q.length → q.Perm (F.filter fun s => decide (c s = 0)) → L_deps_Order_5 Q .nils .nils v4 (.mp bL) (.mp bU) (.ptr b 0) h) :
    ∀ (j i : Nat), F.length - i = j → i ≤ F.length → ∀ (h : Hp) (q : List Spt) (qb : Nat), QSt N2 N3 bL b F g h c q qb .nils [] → Up q q.length → q.Perm ((F.take i).filter fun s => decide (c s = 0)) →
      L_deps_Order_4 Q .nils .nils v4 (.mp bL) (.mp bU) (.ptr b 0) v4 (.int .i64 F.length) (.int .i64 i) h := by
  intro j
  induction j with
  | zero =>
    intro i hj hi h q qb S hu hp
    apply r_deps_Order_4
    unfold t_deps_Order_4
    rw [pu_lssN, decide_eq_false (by omega : ¬ i < F.length), pu_cond_f]
    rw [List.take_of_length_le (by omega)] at hp
    exact hq h q qb S hu hp
  | succ j ih =>
    intro i hj hi h q qb S hu hp
    have hii : i < F.length := by omega
    have hn3 := S.n3
    obtain ⟨s, hs⟩ : ∃ s, F[i]? = some s := ⟨_, List.getElem?_eq_getElem hii⟩
    have hsF : s ∈ F := List.mem_of_getElem? hs
    apply r_deps_Order_4
    unfold t_deps_Order_4
    rw [pu_lssN, decide_eq_true hii, pu_cond_t]
    have hv4 : Sps h v4 F := Rd.ext hall (N := bL) ⟨by omega, fun x hx => S.old x (by omega) (by omega)⟩ hin
    obtain ⟨b2, o2, m1, m2, _⟩ := sps_get hv4 s_sl_api_Spot l_api_Spot hs
    rw [m1, m2]
    refine pu_allocX l_api_Spot fun h1 t w1 => ?_
    refine pu_storeX l_api_Spot w1.at_ (x := spV s) rfl rfl (r := spC s) rfl fun h2 w2 => ?_
    have n1 := w1.n
    have n2 := w2.n
    have e1 := w1.b
    have x2 : Ext h.n h h2 := ⟨by omega, fun c hc => by rw [w2.other c (by omega), w1.old c hc]⟩
    have S2 := S.keep hb x2
    rw [pu_loadS l_api_Spot w2.at_ (l := spC s) rfl]
    show (Pu EE).look h2 _ (.mp bL) (spV s) false _
    have hql : q.length ≤ F.length := by
      rw [hp.length_eq]
      exact Nat.le_trans (List.length_filter_le _ _) (by rw [List.length_take]; omega)
    rw [pu_look m_int k_spot S2.mL s (leftF_y hsF), eql0]
    by_cases hz : c s = 0
    · rw [decide_eq_true hz, pu_cond_t, pu_ifaceQ, pu_loadS l_api_Spot w2.at_ (l := spC s) rfl]
      show (Pu EE).iface _ (spV s) _
      rw [pu_ifaceS]
      refine (hpush_ok S2.qa s (by omega) S2.n3).mono ?_
      rintro y h4 ⟨qb', a4, f4⟩
      rw [pu_inc _ _ _ _ (by omega)]
      obtain ⟨u1, u2⟩ := hpush_heap hu s
      refine ih (i + 1) (by omega) (by omega) h4 _ qb' (S2.push hb a4 f4) u1 ?_
      rw [take_snoc' hs, List.filter_append, List.filter_cons_of_pos (by simpa using hz)]
      exact u2.trans (hp.append_right _)
    · rw [decide_eq_false hz, pu_cond_f, pu_inc _ _ _ _ (by omega)]
      refine ih (i + 1) (by omega) (by omega) h2 q qb S2 hu ?_
      rw [take_snoc' hs, List.filter_append, List.filter_cons_of_neg (by simpa using hz)]
      simpa using hp
theorem q_new (h : Hp) : vbuildSlice EE 56 0 [] = some (.sl 0 0, .cells [] 26 false) := by kernel_rfl
theorem cI_all {nd : Spt → List Spt} {F : List Spt} : ∀ s ∈ F, cI nd F F.length s = wantN (nd s) F := fun s hs => by unfold cI; rw [List.take_length, if_pos hs]
theorem dorder_ok (M : Nat) (h : Hp) (v : V) (bk : Bok) (hv : BokAt M h v bk) (hM : M ≤ h.n) (gd : Good bk) (my : Mays bk) (few : ∀ s ∈ fCells bk, Few bk s) :
    Ans EE 9 [v] h fun x h' => ∃ ov cv, x = .tup [ov, cv] ∧ Sps h' ov (orderR (ndR bk) (fCells bk).length (fCells bk)).1 ∧ Sps h' cv (orderR (ndR bk) (fCells bk).length (fCells bk)).2 ∧ In h'.n ov ∧ In h'.n cv ∧ Ext h.n h h' := by
  have hv0 := hv
  obtain ⟨sv, rfl, hs⟩ := hv
  obtain ⟨cs, hrd⟩ := hs.rd
  have hcell : allCells [sv] = true := by have := hrd.c1; simp [allCells, this.2]
  have hFl := fCells_len gd
  have hris := fCells_ris gd
  apply a_deps_Order
  unfold t_deps_Order_0
  refine pu_boxX (cs := [sv]) hcell fun h1 b1 w1 => ?_
  have n1 := w1.n
  have e1 := w1.b
  rw [pu_loadS l_api_Book w1.at_ (l := [sv]) rfl]
  have hs1 : ShsAt M h1 sv bk := hs.ext (w1.ext hM)
  refine (pmay_ok M h1 _ bk ⟨sv, rfl, hs1⟩ (by omega) my).mono ?_
  rintro y h2 ⟨rfl, x2⟩
  have n2 := x2.n
  have hb2 : h2.t.get b1 = some (.cells [sv] 24 false) := by rw [x2.old b1 (by omega)]; exact w1.at_
  rw [pu_not, Bool.not_true, pu_cond_f, pu_loadS l_api_Book hb2 (l := [sv]) rfl]
  have hs2 : ShsAt M h2 sv bk := hs1.ext (x2.mono (by omega))
  refine (formulas_ok M h2 _ bk ⟨sv, rfl, hs2⟩ (by omega) gd).mono ?_
  rintro v4 h3 ⟨o3, x3⟩
  have n3 := x3.n
  refine pu_mkmapX fun h4 bL w4 => ?_
  have n4 := w4.n
  have e4 := w4.b
  have X4 : Ext h3.n h3 h4 := w4.ext (Nat.le_refl _)
  rw [pu_len (Sps.ext o3.sps X4 o3.in_) s_sl_api_Spot]
  have X3 : Ext h.n h h3 := ((w1.ext (Nat.le_refl _)).trans (x2.mono (by omega))).trans (x3.mono (by omega))
  refine left_loop1 _ rfl (by omega) gd o3.sps o3.in_ (fun h5 mL5 x5 hb5 => ?_) (fCells bk).length 0 (by omega) (Nat.zero_le _) h4 ((MapFn.empty w4.at_).congr fun y => by simp [leftF]) X4 (by omega)
  have n5 := x5.n
  apply r_deps_Order_1
  unfold t_deps_Order_1
  rw [pu_lssN, decide_eq_false (by omega : ¬ (fCells bk).length < (fCells bk).length), pu_cond_f]
  refine pu_mkmapX fun h6 bU w6 => ?_
  have n6 := w6.n
  have e6 := w6.b
  have X6 : Ext h3.n h3 h6 := x5.trans (w6.ext n5)
  rw [pu_len (Sps.ext o3.sps X6 o3.in_) s_sl_api_Spot]
  have S : OS bk M h3.n h6.n bL bU b1 h3 sv v4 := ⟨gd, by omega, rfl, by omega, by omega, by omega, by omega, by omega, by omega, by rw [x3.old b1 (by omega)]; exact hb2, hs2.ext (x3.mono (by omega)), o3.sps, o3.in_, few⟩
  have U6 : UMap h6.n h6 bU (fun _ => none) (uI (ndR bk) (fCells bk) 0) := ⟨MapFn.empty w6.at_, fun n _ => by unfold uI; simp, fun n v hm => (by cases hm), fun m n v w c hm => (by cases hm)⟩
  refine users_loop2 _ S (fun h7 fU mL7 U7 hn7 x7 => ?_) (fCells bk).length 0 (by omega) (Nat.zero_le _) h6 _ (mL5.keep (w6.old bL hb5)) U6 (Nat.le_refl _) X6
  have n7 := x7.n
  apply r_deps_Order_2
  unfold t_deps_Order_2
  rw [pu_lssN, decide_eq_false (by omega : ¬ (fCells bk).length < (fCells bk).length), pu_cond_f]
  refine ⟨_, q_new h7, ?_⟩
  obtain ⟨h8, hh8⟩ : ∃ h8, h8 = h7.new (.cells [] 26 false) := ⟨_, rfl⟩
  have w8 : New h7 h8 h7.n (.cells [] 26 false) := by rw [hh8]; exact New.mk' _ _
  have n8 := w8.n
  show (Pu EE).box (h7.new (.cells [] 26 false)) 56 (.sl h7.n 0 0 0) _
  rw [← hh8, pu_box (x := .sl h7.n 0 0 0) rfl]
  obtain ⟨h9, hh9⟩ : ∃ h9, h9 = h8.new (.cells [.sl h7.n 0 0 0] 56 false) := ⟨_, rfl⟩
  have w9 : New h8 h9 h8.n (.cells [.sl h7.n 0 0 0] 56 false) := by rw [hh9]; exact New.mk' _ _
  have n9 := w9.n
  have e9 : h8.new (.cells (V.sl h7.n 0 0 0).cells 56 false) = h9 := hh9.symm
  rw [e9]
  have X9 : Ext h7.n h7 h9 := ⟨by omega, fun c hc => by rw [w9.old c (by omega), w8.old c hc]⟩
  have hall7 : Sps h7 v4 (fCells bk) := Sps.ext o3.sps x7 o3.in_
  rw [pu_len (Sps.ext hall7 X9 (o3.in_.mono n7)) s_sl_api_Spot]
  have hbL : bL < h7.n := by have := S.l2; omega
  have hbU : bU < h7.n := by have := S.u2; omega
  have qa : QAt h7.n h9 h8.n h7.n [] := by
    refine ⟨⟨.sl h7.n 0 0 0, [], 0, ?_, ?_, rfl, Nat.le_refl _, rfl, .inr ⟨rfl, rfl⟩⟩, by omega, by omega, Nat.le_refl _, by omega, by omega⟩
    · exact w9.at_
    · rw [w9.old h7.n (by omega)]; exact w8.at_
  have hcl : ∀ s ∈ fCells bk, cI (ndR bk) (fCells bk) (fCells bk).length s ≤ 100000 := fun s hs => by
    rw [cI_all s hs]
    exact Nat.le_trans (want_le _ _) (ndR_len gd s)
  have S9 : QSt h6.n h7.n bL h8.n (fCells bk) h7 h9 (cI (ndR bk) (fCells bk) (fCells bk).length) [] h7.n .nils [] :=
    ⟨mL7.keep (X9.old bL hbL), qa, fun x hx _ => X9.old x hx, by omega, OwnS.nil _ _, fun x hx => (by cases hx), hcl⟩
  have hinb : ∀ x, blkOf v4 = some x → x < bL := fun x hx => by have := o3.in_ x hx; omega
  refine push_loop4 (N2 := h6.n) (c := cI (ndR bk) (fCells bk) (fCells bk).length) _ hbL hFl rfl hall7 hinb (fun h10 q qb S10 hup hpm => ?_) (fCells bk).length 0 (by omega) (Nat.zero_le _) h9 [] h7.n S9 (fun k h1 h2 => absurd h2 (by simp)) (by simp)
  have hpm2 : q.Perm ((fCells bk).filter fun s => decide (wantN (ndR bk s) (fCells bk) = 0)) := by
    have e : ((fCells bk).filter fun s => decide (cI (ndR bk) (fCells bk) (fCells bk).length s = 0)) = (fCells bk).filter fun s => decide (wantN (ndR bk s) (fCells bk) = 0) := by
      apply List.filter_congr
      intro s hs
      rw [cI_all s hs]
    rw [← e]; exact hpm
  have I0 := OInv.start (nd := ndR bk) hris (fun s _ => needsR_nodup gd.ris _) hup hpm2
  have I : OInv (ndR bk) (fCells bk) (fCells bk) (cI (ndR bk) (fCells bk) (fCells bk).length) q :=
    ⟨I0.sub, I0.ris, I0.nod, fun s hs => cI_all s hs, fun s hs hn => absurd hs hn, I0.up, hpm⟩
  refine order_loop5 _ hbL (by have := S.l2; omega) hbU (by omega) hFl rfl U7 hall7 hinb (fun h11 c q qb v2 done R hR ho S11 => ?_) (fCells bk).length (fCells bk) rfl h10 _ q qb .nils [] I S10 (by simp) (by simp)
  have n11 := S11.n3
  have X11 : Ext bL h7 h11 := ⟨by omega, fun x hx => S11.old x (by omega) (by omega)⟩
  refine cyc_loop7 (N := h3.n) _ hbL hFl n11 (Rd.ext hall7 X11 hinb) (o3.in_.mono n7) S11.mL S11.cl S11.out.sps S11.out.in_ (fun h12 v3 o12 x12 => ?_) (fCells bk).length 0 (by omega) (Nat.zero_le _) h11 .nils (OwnS.nil _ _) (Ext.refl _ _)
  refine ⟨v2, v3, rfl, ?_, ?_, S11.out.in_.mono x12.n, o12.in_, ?_⟩
  · rw [ho]
    exact Sps.ext S11.out.sps x12 S11.out.in_
  · rw [ho, ← hR]
    exact o12.sps
  · refine X3.trans ?_
    refine Ext.trans (x7.mono (by omega)) ?_
    exact Ext.trans (X11.mono (by omega)) (x12.mono (by omega))
end
end Go.Proofs.YtlllhhjlfmhmlaaGreatDoor.VM
namespace Go.Proofs.YtlllhhjlfmhmlaaGreatDoor.VM
open Go
set_option linter.unusedVariables false
set_option maxRecDepth 100000
noncomputable section
noncomputable def c_law13_DepsMade : Code := match Tryz.f4.body with | some c => c | none => .skip
theorem b_law13_DepsMade : Tryz.f4.body = some c_law13_DepsMade := by kernel_rfl
theorem e_law13_DepsMade : EE.fn.get 4 = some Tryz.f4 := by kernel_rfl
noncomputable def t_law13_DepsMade_0 (p : Pr) (Q : V → Hp → Prop) (v0 v1 v2 : V) (h : Hp) : Prop :=
  p.lbui h #[35] .len [v0] fun x1 =>
  p.bin .gtr 3 false true x1 (.int .i64 80) fun x2 =>
  p.cond x2
  (fun _ =>
   p.call 8 [] h fun x3 h4 =>
   Q x3 h4)
  (fun _ =>
   p.call 14 [v0, v1] h fun x5 h6 =>
   p.alloc h6 24 fun x7 h8 b9 =>
   p.store h8 24 x7 x5 fun h10 =>
   p.load h10 24 x7 fun x11 =>
   p.call 15 [x11] h10 fun x12 h13 =>
   p.lbui h13 #[29] .len [x12] fun x14 =>
   p.bin .eql 3 false true x14 (.int .i64 0) fun x15 =>
   p.cond x15
   (fun _ =>
    Q (.bool false) h13)
   (fun _ =>
    p.conv h13 5 3 v2 fun x16 =>
    p.lbui h13 #[29] .len [x12] fun x17 =>
    p.bin .rem 3 false false x16 x17 fun x18 =>
    p.iaddr 29 x12 x18 fun x19 =>
    p.load h13 26 x19 fun x20 =>
    p.alloc h13 26 fun x21 h22 b23 =>
    p.store h22 26 x21 x20 fun h24 =>
    p.load h24 24 x7 fun x25 =>
    p.call 9 [x25] h24 fun x26 h27 =>
    p.extr x26 0 fun x28 =>
    p.extr x26 1 fun x29 =>
    p.load h27 24 x7 fun x30 =>
    p.call 10 [x30] h27 fun x31 h32 =>
    p.extr x31 0 fun x33 =>
    p.extr x31 1 fun x34 =>
    p.load h32 24 x7 fun x35 =>
    p.load h32 26 x21 fun x36 =>
    p.load h32 24 x7 fun x37 =>
    p.load h32 26 x21 fun x38 =>
    p.call 12 [x35, x36] h32 fun x39 h40 =>
    p.load h40 26 x21 fun x41 =>
    p.same x41 x38 (
    p.load h40 24 x7 fun x42 =>
    p.same x42 x37 (
    p.call 13 [x37, x38] h40 fun x43 h44 =>
    p.call 11 [x39, x43] h44 fun x45 h46 =>
    p.gval x45 true (fun k47 =>
     k47 x28) fun x48 =>
    p.gval x45 true (fun k49 =>
     k49 x33) fun x50 =>
    p.geff x45 true (fun k51 =>
     p.call 11 [x48, x50] h46 fun x52 h53 =>
     k51 x52 h53) h46 fun x54 h55 =>
    p.pick x45 (some x54) (some (.bool false)) fun x56 =>
    p.gval x56 true (fun k57 =>
     k57 x29) fun x58 =>
    p.gval x56 true (fun k59 =>
     k59 x34) fun x60 =>
    p.geff x56 true (fun k61 =>
     p.call 11 [x58, x60] h55 fun x62 h63 =>
     k61 x62 h63) h55 fun x64 h65 =>
    p.pick x56 (some x64) (some (.bool false)) fun x66 =>
    p.geff x66 true (fun k67 =>
     p.call 8 [] h65 fun x68 h69 =>
     k67 x68 h69) h65 fun x70 h71 =>
    p.pick x66 (some x70) (some (.bool false)) fun x72 =>
    Q x72 h71))))
theorem q_law13_DepsMade_0 (p : Pr) (Q : V → Hp → Prop) (v0 v1 v2 : V) (h : Hp) : t_law13_DepsMade_0 p Q v0 v1 v2 h = KAt p EE (cutOf []) (fun _ _ _ _ => False) c_law13_DepsMade [] [] (finK p Tryz.f4 Q) ([v0, v1, v2] ++ List.replicate 61 u0) h [] := by kernel_rfl
theorem a_law13_DepsMade {Q : V → Hp → Prop} {v0 v1 v2 : V} {h : Hp} (H : t_law13_DepsMade_0 (Pu EE) Q v0 v1 v2 h) : Ans EE 4 [v0, v1, v2] h Q :=
  ans_of (by kernel_rfl) e_law13_DepsMade b_law13_DepsMade (by kernel_rfl) (lab_ofX (fun _ _ _ _ h => h.elim) [] (cast (q_law13_DepsMade_0 (Pu EE) Q v0 v1 v2 h) H))
end
end Go.Proofs.YtlllhhjlfmhmlaaGreatDoor.VM
namespace Go.Proofs.YtlllhhjlfmhmlaaGreatDoor.VM
open Go
set_option linter.unusedVariables false
set_option linter.unusedSectionVars false
set_option linter.unusedSimpArgs false
set_option maxRecDepth 20000
noncomputable section
attribute [local instance] syZ
theorem same_bok {h : Hp} {sz len : Nat} {v : V} {cs : List V} (r : Rd h sz v len cs) (k : Prop) : (Pu EE).same (.agg [v]) (.agg [v]) k ↔ k := by
  show (sameV _ _ = true ∧ k) ↔ k
  have : sameV (.agg [v]) (.agg [v]) = true := by
    show sameL [v] [v] = true
    rcases r.at_ with ⟨rfl | rfl, _⟩ | ⟨b, off, vs, _, _, ⟨c, rfl⟩ | ⟨lo, z, rfl⟩⟩ <;> simp [sameL, same1]
  simp [this]
theorem awake_any (h : Hp) : Ans EE 8 [] h fun v _ => v = .bool true := (awake_ok h).mono fun _ _ q => q.1
theorem book_pos (ns : List Nat) (sh : Nat) : 0 < (allSpots (bookT ns sh)).length := by
  have : (⟨nameT sh 0, 0, 0⟩ : Spt) ∈ allSpots (bookT ns sh) := by
    rw [allSpots_mem]
    refine ⟨shtT ns sh 0, ?_, rfl, rowT ns (nC sh) (0 * (nR sh * nC sh) + 0 * nC sh), ?_, ?_⟩
    · unfold bookT
      exact List.mem_map_of_mem (List.mem_range.2 (by unfold nS; omega))
    · show (rowsT ns (nC sh) (nR sh) (0 * (nR sh * nC sh)))[0]? = _
      unfold rowsT
      rw [List.getElem?_map, List.getElem?_range (by unfold nR; omega)]
      rfl
    · unfold rowT
      simp [nC]
      omega
  exact List.length_pos_of_mem this
theorem made_ok {h : Hp} {v0 : V} {ns : List Nat} {sh a : Nat} (rd : Rd h 1 v0 ns.length (ns.map fun (n : Nat) => V.int .u8 (n : Int))) (in_ : In h.n v0) (lt : ∀ n ∈ ns, n < 256) (hsh : sh < 256) (ha : a < 256) :
    Ans EE 4 [v0, .int .u8 sh, .int .u8 a] h fun x _ => x = .bool true := by
  apply a_law13_DepsMade
  unfold t_law13_DepsMade_0
  rw [pu_len rd s_sl_uint8, show (80 : Int) = ((80 : Nat) : Int) from rfl, gtrN, pu_cond_d]
  refine ⟨fun _ => awake_any h, fun hlen => ?_⟩
  have hg := book_good (sh := sh) lt
  have hfit := hg.fit.spots
  have hpos := book_pos ns sh
  refine (book_ok hsh ⟨rfl, rd, in_, lt, by omega⟩).mono ?_
  rintro bv h1 ⟨hb1, x1⟩
  obtain ⟨sv, rfl, hs1⟩ := hb1
  obtain ⟨cs, hrd1⟩ := hs1.rd
  have cS := hrd1.c1
  refine pu_allocX l_api_Book fun h2 b2 w2 => ?_
  refine pu_storeX l_api_Book w2.at_ (x := .agg [sv]) rfl (cells1 cS.2) (r := [sv]) rfl fun h3 w3 => ?_
  have n2 := w2.n
  have n3 := w3.n
  have e2 := w2.b
  have X3 : Ext h1.n h1 h3 := ⟨by omega, fun c hc => by rw [w3.other c (by omega), w2.old c hc]⟩
  have hs3 : ShsAt h1.n h3 sv (bookT ns sh) := hs1.ext X3
  rw [pu_loadS l_api_Book w3.at_ (l := [sv]) rfl]
  refine (all_ok h1.n h3 _ (bookT ns sh) ⟨sv, rfl, hs3⟩ (by omega) hg.fit).mono ?_
  rintro av h4 ⟨o4, x4⟩
  have n4 := x4.n
  rw [pu_len o4.sps s_sl_api_Spot, eql0, decide_eq_false (by omega), pu_cond_f, conv8 a ha, pu_len o4.sps s_sl_api_Spot, remN _ _ hpos]
  have hmod := Nat.mod_lt a hpos
  obtain ⟨s, hs⟩ : ∃ s, (allSpots (bookT ns sh))[a % (allSpots (bookT ns sh)).length]? = some s := ⟨_, List.getElem?_eq_getElem hmod⟩
  obtain ⟨b5, o5, g1, g2, _⟩ := sps_get o4.sps s_sl_api_Spot l_api_Spot hs
  rw [g1, g2]
  refine pu_allocX l_api_Spot fun h5 b5 w5 => ?_
  refine pu_storeX l_api_Spot w5.at_ (x := spV s) rfl rfl (r := spC s) rfl fun h6 w6 => ?_
  have n5 := w5.n
  have n6 := w6.n
  have e5 := w5.b
  have X6 : Ext h4.n h4 h6 := ⟨by omega, fun c hc => by rw [w6.other c (by omega), w5.old c hc]⟩
  have hb6 : h6.t.get b2 = some (.cells [sv] 24 false) := by rw [X6.old b2 (by omega), x4.old b2 (by omega)]; exact w3.at_
  have hs6 : ShsAt h1.n h6 sv (bookT ns sh) := (hs3.ext (x4.mono (by omega))).ext (X6.mono (by omega))
  rw [pu_loadS l_api_Book hb6 (l := [sv]) rfl]
  refine (dorder_ok h1.n h6 _ (bookT ns sh) ⟨sv, rfl, hs6⟩ (by omega) hg (book_mays lt hsh) fun s _ => book_few lt s).mono ?_
  rintro x h7 ⟨ov, cv, rfl, ho7, hc7, io7, ic7, x7⟩
  have n7 := x7.n
  rw [pu_extr0, pu_extr1]
  have hb7 : h7.t.get b2 = some (.cells [sv] 24 false) := by rw [x7.old b2 (by omega)]; exact hb6
  have hs7 : ShsAt h1.n h7 sv (bookT ns sh) := hs6.ext (x7.mono (by omega))
  rw [pu_loadS l_api_Book hb7 (l := [sv]) rfl]
  refine (rorder_ok h1.n h7 _ (bookT ns sh) ⟨sv, rfl, hs7⟩ (by omega) hg).mono ?_
  rintro x h8 ⟨pv, dv, rfl, hp8, hd8, ip8, id8, x8⟩
  have n8 := x8.n
  rw [pu_extr0, pu_extr1]
  have hb8 : h8.t.get b2 = some (.cells [sv] 24 false) := by rw [x8.old b2 (by omega)]; exact hb7
  have hs8 : ShsAt h1.n h8 sv (bookT ns sh) := hs7.ext (x8.mono (by omega))
  have ht8 : h8.t.get b5 = some (.cells (spC s) 26 false) := by rw [x8.old b5 (by omega), x7.old b5 (by omega)]; exact w6.at_
  obtain ⟨cs8, hrd8⟩ := hs8.rd
  rw [pu_loadS l_api_Book hb8 (l := [sv]) rfl, pu_loadS l_api_Spot ht8 (l := spC s) rfl, pu_loadS l_api_Book hb8 (l := [sv]) rfl, pu_loadS l_api_Spot ht8 (l := spC s) rfl]
  refine (dneeds_ok h1.n h8 _ (bookT ns sh) s ⟨sv, rfl, hs8⟩ (by omega) hg (book_few lt s)).mono ?_
  rintro nv h9 ⟨o9, x9⟩
  have n9 := x9.n
  have hb9 : h9.t.get b2 = some (.cells [sv] 24 false) := by rw [x9.old b2 (by omega)]; exact hb8
  have ht9 : h9.t.get b5 = some (.cells (spC s) 26 false) := by rw [x9.old b5 (by omega)]; exact ht8
  have hs9 : ShsAt h1.n h9 sv (bookT ns sh) := hs8.ext (x9.mono (by omega))
  rw [pu_loadS l_api_Spot ht9 (l := spC s) rfl]
  show (Pu EE).same (spV s) (spV s) _
  rw [same_spt, pu_loadS l_api_Book hb9 (l := [sv]) rfl, same_bok hrd8]
  refine (rneeds_ok h1.n h9 _ (bookT ns sh) s ⟨sv, rfl, hs9⟩ (by omega) hg).mono ?_
  rintro mv h10 ⟨o10, x10⟩
  have n10 := x10.n
  have hnl := ndR_len hg s
  have hol : (orderR (ndR (bookT ns sh)) (fCells (bookT ns sh)).length (fCells (bookT ns sh))).1.length + (orderR (ndR (bookT ns sh)) (fCells (bookT ns sh)).length (fCells (bookT ns sh))).2.length ≤ 100000 := by
    have := (orderR_perm (nd := ndR (bookT ns sh)) (fCells (bookT ns sh)).length (fCells (bookT ns sh)) (Nat.le_refl _)).length_eq
    rw [List.length_append] at this
    have := fCells_len hg
    omega
  refine (spots_ok h10 nv mv _ _ (o9.sps.ext x10 o9.in_) o10.sps (by omega)).mono ?_
  rintro x h11 ⟨rfl, rfl⟩
  rw [decide_eq_true rfl]
  simp only [pu_gval_y, pu_geff_y]
  have ho : Sps h11 ov _ := ((ho7.ext (x8) io7).ext (x9.mono n8) io7).ext (x10.mono (by omega)) io7
  have hp : Sps h11 pv _ := (hp8.ext x9 ip8).ext (x10.mono (by omega)) ip8
  have hc : Sps h11 cv _ := ((hc7.ext (x8) ic7).ext (x9.mono n8) ic7).ext (x10.mono (by omega)) ic7
  have hd : Sps h11 dv _ := (hd8.ext x9 id8).ext (x10.mono (by omega)) id8
  refine (spots_ok h11 ov pv _ _ ho hp (by omega)).mono ?_
  rintro x h12 ⟨rfl, rfl⟩
  rw [decide_eq_true rfl, pu_pick_t]
  simp only [pu_gval_y, pu_geff_y]
  refine (spots_ok h12 cv dv _ _ hc hd (by omega)).mono ?_
  rintro x h13 ⟨rfl, rfl⟩
  rw [decide_eq_true rfl, pu_pick_t]
  simp only [pu_geff_y]
  refine (awake_any h13).mono ?_
  rintro x h14 rfl
  rw [pu_pick_t]
end
end Go.Proofs.YtlllhhjlfmhmlaaGreatDoor.VM
namespace Go.Proofs.YtlllhhjlfmhmlaaGreatDoor.VM
open Go
set_option linter.unusedVariables false
set_option maxRecDepth 100000
noncomputable section
noncomputable def c_law13_DepsOrder : Code := match Tryz.f5.body with | some c => c | none => .skip
theorem b_law13_DepsOrder : Tryz.f5.body = some c_law13_DepsOrder := by kernel_rfl
theorem e_law13_DepsOrder : EE.fn.get 5 = some Tryz.f5 := by kernel_rfl
noncomputable def L_law13_DepsOrder_1 (Q : V → Hp → Prop) (v5 v6 v7 v8 v9 v10 : V) (h : Hp) : Prop := ∀ s : List V, s.length = (Tryz.f5).ntmps → nth s 5 = v5 ∧ nth s 6 = v6 ∧ nth s 7 = v7 ∧ nth s 8 = v8 ∧ nth s 9 = v9 ∧ nth s 10 = v10 → Lab EE Tryz.f5 c_law13_DepsOrder Q [false, true, false, true, true, true, true, true, true] s h []
noncomputable def L_law13_DepsOrder_2 (Q : V → Hp → Prop) (v5 v6 v7 v13 : V) (h : Hp) : Prop := ∀ s : List V, s.length = (Tryz.f5).ntmps → nth s 5 = v5 ∧ nth s 6 = v6 ∧ nth s 7 = v7 ∧ nth s 13 = v13 → Lab EE Tryz.f5 c_law13_DepsOrder Q [false, true, false, true, true, true, true, true, true, true, true] s h []
noncomputable def L_law13_DepsOrder_3 (Q : V → Hp → Prop) (v5 v6 v7 v13 v16 v17 : V) (h : Hp) : Prop := ∀ s : List V, s.length = (Tryz.f5).ntmps → nth s 5 = v5 ∧ nth s 6 = v6 ∧ nth s 7 = v7 ∧ nth s 13 = v13 ∧ nth s 16 = v16 ∧ nth s 17 = v17 → Lab EE Tryz.f5 c_law13_DepsOrder Q [false, true, true, true, false, false, true, false, false, true, false, true, true, true, true, true, true, true, true] s h []
noncomputable def L_law13_DepsOrder_4 (Q : V → Hp → Prop) (v5 v7 v20 : V) (h : Hp) : Prop := ∀ s : List V, s.length = (Tryz.f5).ntmps → nth s 5 = v5 ∧ nth s 7 = v7 ∧ nth s 20 = v20 → Lab EE Tryz.f5 c_law13_DepsOrder Q [false, true, false, true, true, true, true, true, true, true, true, true] s h []
noncomputable def L_law13_DepsOrder_5 (Q : V → Hp → Prop) (v5 v7 v20 v21 v22 v23 : V) (h : Hp) : Prop := ∀ s : List V, s.length = (Tryz.f5).ntmps → nth s 5 = v5 ∧ nth s 7 = v7 ∧ nth s 20 = v20 ∧ nth s 21 = v21 ∧ nth s 22 = v22 ∧ nth s 23 = v23 → Lab EE Tryz.f5 c_law13_DepsOrder Q [false, true, false, true, true, false, false, true, false, false, true, false, true, true, true, true, true, true, true, true, true] s h []
noncomputable def X_law13_DepsOrder (l1 : V → V → V → V → V → V → Hp → Prop) (l2 : V → V → V → V → Hp → Prop) (l3 : V → V → V → V → V → V → Hp → Prop) (l4 : V → V → V → Hp → Prop) (l5 : V → V → V → V → V → V → Hp → Prop) : Lb := fun π s h d => match d with
  | [] => bif eqB [false, true, false, true, true, true, true, true, true] π then l1 (nth s 5) (nth s 6) (nth s 7) (nth s 8) (nth s 9) (nth s 10) h else bif eqB [false, true, false, true, true, true, true, true, true, true, true] π then l2 (nth s 5) (nth s 6) (nth s 7) (nth s 13) h else bif eqB [false, true, true, true, false, false, true, false, false, true, false, true, true, true, true, true, true, true, true] π then l3 (nth s 5) (nth s 6) (nth s 7) (nth s 13) (nth s 16) (nth s 17) h else bif eqB [false, true, false, true, true, true, true, true, true, true, true, true] π then l4 (nth s 5) (nth s 7) (nth s 20) h else bif eqB [false, true, false, true, true, false, false, true, false, false, true, false, true, true, true, true, true, true, true, true, true] π then l5 (nth s 5) (nth s 7) (nth s 20) (nth s 21) (nth s 22) (nth s 23) h else False
  | _ => False
theorem o_law13_DepsOrder (Q : V → Hp → Prop) : ∀ π s h d, X_law13_DepsOrder (L_law13_DepsOrder_1 Q) (L_law13_DepsOrder_2 Q) (L_law13_DepsOrder_3 Q) (L_law13_DepsOrder_4 Q) (L_law13_DepsOrder_5 Q) π s h d → s.length = (Tryz.f5).ntmps → Lab EE Tryz.f5 c_law13_DepsOrder Q π s h d := by
  intro π s h d hx hl
  cases d with
  | cons _ _ => exact hx.elim
  | nil =>
    simp only [X_law13_DepsOrder] at hx
    cases hk : eqB [false, true, false, true, true, true, true, true, true] π with
    | true => rw [hk, cond_true] at hx; rw [← eqB_eq hk]; exact hx s hl ⟨rfl, rfl, rfl, rfl, rfl, rfl⟩
    | false =>
    rw [hk, cond_false] at hx
    cases hk : eqB [false, true, false, true, true, true, true, true, true, true, true] π with
    | true => rw [hk, cond_true] at hx; rw [← eqB_eq hk]; exact hx s hl ⟨rfl, rfl, rfl, rfl⟩
    | false =>
    rw [hk, cond_false] at hx
    cases hk : eqB [false, true, true, true, false, false, true, false, false, true, false, true, true, true, true, true, true, true, true] π with
    | true => rw [hk, cond_true] at hx; rw [← eqB_eq hk]; exact hx s hl ⟨rfl, rfl, rfl, rfl, rfl, rfl⟩
    | false =>
    rw [hk, cond_false] at hx
    cases hk : eqB [false, true, false, true, true, true, true, true, true, true, true, true] π with
    | true => rw [hk, cond_true] at hx; rw [← eqB_eq hk]; exact hx s hl ⟨rfl, rfl, rfl⟩
    | false =>
    rw [hk, cond_false] at hx
    cases hk : eqB [false, true, false, true, true, false, false, true, false, false, true, false, true, true, true, true, true, true, true, true, true] π with
    | true => rw [hk, cond_true] at hx; rw [← eqB_eq hk]; exact hx s hl ⟨rfl, rfl, rfl, rfl, rfl, rfl⟩
    | false =>
    rw [hk, cond_false] at hx
    exact hx.elim
noncomputable def t_law13_DepsOrder_0 (p : Pr) (l1 : V → V → V → V → V → V → Hp → Prop) (l2 : V → V → V → V → Hp → Prop) (l3 : V → V → V → V → V → V → Hp → Prop) (l4 : V → V → V → Hp → Prop) (l5 : V → V → V → V → V → V → Hp → Prop) (Q : V → Hp → Prop) (v0 v1 : V) (h : Hp) : Prop :=
  p.lbui h #[35] .len [v0] fun x1 =>
  p.bin .gtr 3 false true x1 (.int .i64 80) fun x2 =>
  p.cond x2
  (fun _ =>
   p.call 8 [] h fun x3 h4 =>
   Q x3 h4)
  (fun _ =>
   p.call 14 [v0, v1] h fun x5 h6 =>
   p.alloc h6 24 fun x7 h8 b9 =>
   p.store h8 24 x7 x5 fun h10 =>
   p.load h10 24 x7 fun x11 =>
   p.call 9 [x11] h10 fun x12 h13 =>
   p.extr x12 0 fun x14 =>
   p.extr x12 1 fun x15 =>
   p.load h13 24 x7 fun x16 =>
   p.call 15 [x16] h13 fun x17 h18 =>
   l1 x7 x14 x15 x17 (.int .i64 0) (.int .i64 0) h18)
theorem q_law13_DepsOrder_0 (p : Pr) (l1 : V → V → V → V → V → V → Hp → Prop) (l2 : V → V → V → V → Hp → Prop) (l3 : V → V → V → V → V → V → Hp → Prop) (l4 : V → V → V → Hp → Prop) (l5 : V → V → V → V → V → V → Hp → Prop) (Q : V → Hp → Prop) (v0 v1 : V) (h : Hp) : t_law13_DepsOrder_0 p l1 l2 l3 l4 l5 Q v0 v1 h = KAt p EE (cutOf [[false, true, false, true, true, true, true, true, true], [false, true, false, true, true, true, true, true, true, true, true], [false, true, true, true, false, false, true, false, false, true, false, true, true, true, true, true, true, true, true], [false, true, false, true, true, true, true, true, true, true, true, true], [false, true, false, true, true, false, false, true, false, false, true, false, true, true, true, true, true, true, true, true, true]]) (X_law13_DepsOrder l1 l2 l3 l4 l5) c_law13_DepsOrder [] [] (finK p Tryz.f5 Q) ([v0, v1] ++ List.replicate 180 u0) h [] := by kernel_rfl
theorem a_law13_DepsOrder {Q : V → Hp → Prop} {v0 v1 : V} {h : Hp} (H : t_law13_DepsOrder_0 (Pu EE) (L_law13_DepsOrder_1 Q) (L_law13_DepsOrder_2 Q) (L_law13_DepsOrder_3 Q) (L_law13_DepsOrder_4 Q) (L_law13_DepsOrder_5 Q) Q v0 v1 h) : Ans EE 5 [v0, v1] h Q :=
  ans_of (by kernel_rfl) e_law13_DepsOrder b_law13_DepsOrder (by kernel_rfl) (lab_ofX (o_law13_DepsOrder Q) [] (cast (q_law13_DepsOrder_0 (Pu EE) (L_law13_DepsOrder_1 Q) (L_law13_DepsOrder_2 Q) (L_law13_DepsOrder_3 Q) (L_law13_DepsOrder_4 Q) (L_law13_DepsOrder_5 Q) Q v0 v1 h) H))
noncomputable def t_law13_DepsOrder_1 (p : Pr) (l1 : V → V → V → V → V → V → Hp → Prop) (l2 : V → V → V → V → Hp → Prop) (l3 : V → V → V → V → V → V → Hp → Prop) (l4 : V → V → V → Hp → Prop) (l5 : V → V → V → V → V → V → Hp → Prop) (Q : V → Hp → Prop) (v5 v6 v7 v8 v9 v10 : V) (h : Hp) : Prop :=
  p.lbui h #[29] .len [v8] fun x1 =>
  p.bin .lss 3 false false v10 x1 fun x2 =>
  p.cond x2
  (fun _ =>
   p.load h 24 v5 fun x3 =>
   p.iaddr 29 v8 v10 fun x4 =>
   p.load h 26 x4 fun x5 =>
   p.call 17 [x3, x5] h fun x6 h7 =>
   p.call 16 [x6] h7 fun x8 h9 =>
   p.extr x8 0 fun x10 =>
   p.extr x8 1 fun x11 =>
   p.cond x11
   (fun _ =>
    p.bin .add 3 false true v9 (.int .i64 1) fun x12 =>
    p.bin .add 3 false true v10 (.int .i64 1) fun x13 =>
    l1 v5 v6 v7 v8 x12 x13 h9)
   (fun _ =>
    p.bin .add 3 false true v10 (.int .i64 1) fun x14 =>
    l1 v5 v6 v7 v8 v9 x14 h9))
  (fun _ =>
   p.lbui h #[29] .len [v6] fun x15 =>
   p.lbui h #[29] .len [v7] fun x16 =>
   p.bin .add 3 false false x15 x16 fun x17 =>
   p.bin .neq 3 false false x17 v9 fun x18 =>
   p.cond x18
   (fun _ =>
    Q (.bool false) h)
   (fun _ =>
    l2 v5 v6 v7 (.int .i64 0) h))
theorem q_law13_DepsOrder_1 (p : Pr) (l1 : V → V → V → V → V → V → Hp → Prop) (l2 : V → V → V → V → Hp → Prop) (l3 : V → V → V → V → V → V → Hp → Prop) (l4 : V → V → V → Hp → Prop) (l5 : V → V → V → V → V → V → Hp → Prop) (Q : V → Hp → Prop) (s : List V) (h : Hp) : t_law13_DepsOrder_1 p l1 l2 l3 l4 l5 Q (nth s 5) (nth s 6) (nth s 7) (nth s 8) (nth s 9) (nth s 10) h = KAt p EE (cutOf [[false, true, false, true, true, true, true, true, true], [false, true, false, true, true, true, true, true, true, true, true], [false, true, true, true, false, false, true, false, false, true, false, true, true, true, true, true, true, true, true], [false, true, false, true, true, true, true, true, true, true, true, true], [false, true, false, true, true, false, false, true, false, false, true, false, true, true, true, true, true, true, true, true, true]]) (X_law13_DepsOrder l1 l2 l3 l4 l5) c_law13_DepsOrder [] [true, true, true, true, true, true, false, true, false] (finK p Tryz.f5 Q) (nths s 182 0) h [] := by kernel_rfl
theorem r_law13_DepsOrder_1 {Q : V → Hp → Prop} {v5 v6 v7 v8 v9 v10 : V} {h : Hp} (H : t_law13_DepsOrder_1 (Pu EE) (L_law13_DepsOrder_1 Q) (L_law13_DepsOrder_2 Q) (L_law13_DepsOrder_3 Q) (L_law13_DepsOrder_4 Q) (L_law13_DepsOrder_5 Q) Q v5 v6 v7 v8 v9 v10 h) : L_law13_DepsOrder_1 Q v5 v6 v7 v8 v9 v10 h := by
  intro s hl ⟨e5, e6, e7, e8, e9, e10⟩
  subst e5 e6 e7 e8 e9 e10
  have hl : s.length = 182 := hl
  rw [nth_all hl]
  exact lab_ofX (o_law13_DepsOrder Q) [true, true, true, true, true, true, false, true, false] (cast (q_law13_DepsOrder_1 (Pu EE) (L_law13_DepsOrder_1 Q) (L_law13_DepsOrder_2 Q) (L_law13_DepsOrder_3 Q) (L_law13_DepsOrder_4 Q) (L_law13_DepsOrder_5 Q) Q s h) H)
noncomputable def t_law13_DepsOrder_2 (p : Pr) (l1 : V → V → V → V → V → V → Hp → Prop) (l2 : V → V → V → V → Hp → Prop) (l3 : V → V → V → V → V → V → Hp → Prop) (l4 : V → V → V → Hp → Prop) (l5 : V → V → V → V → V → V → Hp → Prop) (Q : V → Hp → Prop) (v5 v6 v7 v13 : V) (h : Hp) : Prop :=
  p.lbui h #[29] .len [v6] fun x1 =>
  p.bin .lss 3 false false v13 x1 fun x2 =>
  p.cond x2
  (fun _ =>
   p.load h 24 v5 fun x3 =>
   p.iaddr 29 v6 v13 fun x4 =>
   p.load h 26 x4 fun x5 =>
   p.call 17 [x3, x5] h fun x6 h7 =>
   p.call 16 [x6] h7 fun x8 h9 =>
   p.extr x8 0 fun x10 =>
   p.extr x8 1 fun x11 =>
   p.un .not x11 fun x12 =>
   p.gval x12 false (fun k13 =>
    k13 v6) fun x14 =>
   p.gval x12 false (fun k15 =>
    k15 v6) fun x16 =>
   p.gval x12 false (fun k17 =>
    k17 v13) fun x18 =>
   p.gval x12 false (fun k19 =>
    p.iaddr 29 x16 x18 fun x20 =>
    k19 x20) fun x21 =>
   p.gval x12 false (fun k22 =>
    p.load h9 26 x21 fun x23 =>
    k22 x23) fun x24 =>
   p.geff x12 false (fun k25 =>
    p.call 18 [x14, x24] h9 fun x26 h27 =>
    k25 x26 h27) h9 fun x28 h29 =>
   p.gval x12 false (fun k30 =>
    k30 v13) fun x31 =>
   p.gval x12 false (fun k32 =>
    p.bin .neq 3 false false x28 x31 fun x33 =>
    k32 x33) fun x34 =>
   p.pick x12 (some (.bool true)) (some x34) fun x35 =>
   p.cond x35
   (fun _ =>
    Q (.bool false) h29)
   (fun _ =>
    p.load h29 24 v5 fun x36 =>
    p.iaddr 29 v6 v13 fun x37 =>
    p.load h29 26 x37 fun x38 =>
    p.call 12 [x36, x38] h29 fun x39 h40 =>
    l3 v5 v6 v7 v13 x39 (.int .i64 0) h40))
  (fun _ =>
   l4 v5 v7 (.int .i64 0) h)
theorem q_law13_DepsOrder_2 (p : Pr) (l1 : V → V → V → V → V → V → Hp → Prop) (l2 : V → V → V → V → Hp → Prop) (l3 : V → V → V → V → V → V → Hp → Prop) (l4 : V → V → V → Hp → Prop) (l5 : V → V → V → V → V → V → Hp → Prop) (Q : V → Hp → Prop) (s : List V) (h : Hp) : t_law13_DepsOrder_2 p l1 l2 l3 l4 l5 Q (nth s 5) (nth s 6) (nth s 7) (nth s 13) h = KAt p EE (cutOf [[false, true, false, true, true, true, true, true, true], [false, true, false, true, true, true, true, true, true, true, true], [false, true, true, true, false, false, true, false, false, true, false, true, true, true, true, true, true, true, true], [false, true, false, true, true, true, true, true, true, true, true, true], [false, true, false, true, true, false, false, true, false, false, true, false, true, true, true, true, true, true, true, true, true]]) (X_law13_DepsOrder l1 l2 l3 l4 l5) c_law13_DepsOrder [] [true, true, true, true, true, true, true, true, false, true, false] (finK p Tryz.f5 Q) (nths s 182 0) h [] := by kernel_rfl
theorem r_law13_DepsOrder_2 {Q : V → Hp → Prop} {v5 v6 v7 v13 : V} {h : Hp} (H : t_law13_DepsOrder_2 (Pu EE) (L_law13_DepsOrder_1 Q) (L_law13_DepsOrder_2 Q) (L_law13_DepsOrder_3 Q) (L_law13_DepsOrder_4 Q) (L_law13_DepsOrder_5 Q) Q v5 v6 v7 v13 h) : L_law13_DepsOrder_2 Q v5 v6 v7 v13 h := by
  intro s hl ⟨e5, e6, e7, e13⟩
  subst e5 e6 e7 e13
  have hl : s.length = 182 := hl
  rw [nth_all hl]
  exact lab_ofX (o_law13_DepsOrder Q) [true, true, true, true, true, true, true, true, false, true, false] (cast (q_law13_DepsOrder_2 (Pu EE) (L_law13_DepsOrder_1 Q) (L_law13_DepsOrder_2 Q) (L_law13_DepsOrder_3 Q) (L_law13_DepsOrder_4 Q) (L_law13_DepsOrder_5 Q) Q s h) H)
noncomputable def t_law13_DepsOrder_3 (p : Pr) (l1 : V → V → V → V → V → V → Hp → Prop) (l2 : V → V → V → V → Hp → Prop) (l3 : V → V → V → V → V → V → Hp → Prop) (l4 : V → V → V → Hp → Prop) (l5 : V → V → V → V → V → V → Hp → Prop) (Q : V → Hp → Prop) (v5 v6 v7 v13 v16 v17 : V) (h : Hp) : Prop :=
  p.lbui h #[29] .len [v16] fun x1 =>
  p.bin .lss 3 false false v17 x1 fun x2 =>
  p.cond x2
  (fun _ =>
   p.load h 24 v5 fun x3 =>
   p.iaddr 29 v16 v17 fun x4 =>
   p.load h 26 x4 fun x5 =>
   p.call 17 [x3, x5] h fun x6 h7 =>
   p.call 16 [x6] h7 fun x8 h9 =>
   p.extr x8 0 fun x10 =>
   p.extr x8 1 fun x11 =>
   p.gval x11 true (fun k12 =>
    k12 v6) fun x13 =>
   p.gval x11 true (fun k14 =>
    k14 v16) fun x15 =>
   p.gval x11 true (fun k16 =>
    k16 v17) fun x17 =>
   p.gval x11 true (fun k18 =>
    p.iaddr 29 x15 x17 fun x19 =>
    k18 x19) fun x20 =>
   p.gval x11 true (fun k21 =>
    p.load h9 26 x20 fun x22 =>
    k21 x22) fun x23 =>
   p.geff x11 true (fun k24 =>
    p.call 18 [x13, x23] h9 fun x25 h26 =>
    k24 x25 h26) h9 fun x27 h28 =>
   p.gval x11 true (fun k29 =>
    p.bin .lss 3 false true x27 (.int .i64 0) fun x30 =>
    k29 x30) fun x31 =>
   p.gval x11 true (fun k32 =>
    k32 x31) fun x33 =>
   p.gval x33 false (fun k34 =>
    k34 v6) fun x35 =>
   p.gval x33 false (fun k36 =>
    k36 v16) fun x37 =>
   p.gval x33 false (fun k38 =>
    k38 v17) fun x39 =>
   p.gval x33 false (fun k40 =>
    p.iaddr 29 x37 x39 fun x41 =>
    k40 x41) fun x42 =>
   p.gval x33 false (fun k43 =>
    p.load h28 26 x42 fun x44 =>
    k43 x44) fun x45 =>
   p.geff x33 false (fun k46 =>
    p.call 18 [x35, x45] h28 fun x47 h48 =>
    k46 x47 h48) h28 fun x49 h50 =>
   p.gval x33 false (fun k51 =>
    k51 v13) fun x52 =>
   p.gval x33 false (fun k53 =>
    p.bin .geq 3 false false x49 x52 fun x54 =>
    k53 x54) fun x55 =>
   p.gval x11 true (fun k56 =>
    p.pick x33 (some (.bool true)) (some x55) fun x57 =>
    k56 x57) fun x58 =>
   p.pick x11 (some x58) (some (.bool false)) fun x59 =>
   p.cond x59
   (fun _ =>
    Q (.bool false) h50)
   (fun _ =>
    p.bin .add 3 false true v17 (.int .i64 1) fun x60 =>
    l3 v5 v6 v7 v13 v16 x60 h50))
  (fun _ =>
   p.bin .add 3 false true v13 (.int .i64 1) fun x61 =>
   l2 v5 v6 v7 x61 h)
theorem q_law13_DepsOrder_3 (p : Pr) (l1 : V → V → V → V → V → V → Hp → Prop) (l2 : V → V → V → V → Hp → Prop) (l3 : V → V → V → V → V → V → Hp → Prop) (l4 : V → V → V → Hp → Prop) (l5 : V → V → V → V → V → V → Hp → Prop) (Q : V → Hp → Prop) (s : List V) (h : Hp) : t_law13_DepsOrder_3 p l1 l2 l3 l4 l5 Q (nth s 5) (nth s 6) (nth s 7) (nth s 13) (nth s 16) (nth s 17) h = KAt p EE (cutOf [[false, true, false, true, true, true, true, true, true], [false, true, false, true, true, true, true, true, true, true, true], [false, true, true, true, false, false, true, false, false, true, false, true, true, true, true, true, true, true, true], [false, true, false, true, true, true, true, true, true, true, true, true], [false, true, false, true, true, false, false, true, false, false, true, false, true, true, true, true, true, true, true, true, true]]) (X_law13_DepsOrder l1 l2 l3 l4 l5) c_law13_DepsOrder [] [true, true, true, true, true, true, true, true, false, true, false, false, true, false, false, true, true, true, false] (finK p Tryz.f5 Q) (nths s 182 0) h [] := by kernel_rfl
theorem r_law13_DepsOrder_3 {Q : V → Hp → Prop} {v5 v6 v7 v13 v16 v17 : V} {h : Hp} (H : t_law13_DepsOrder_3 (Pu EE) (L_law13_DepsOrder_1 Q) (L_law13_DepsOrder_2 Q) (L_law13_DepsOrder_3 Q) (L_law13_DepsOrder_4 Q) (L_law13_DepsOrder_5 Q) Q v5 v6 v7 v13 v16 v17 h) : L_law13_DepsOrder_3 Q v5 v6 v7 v13 v16 v17 h := by
  intro s hl ⟨e5, e6, e7, e13, e16, e17⟩
  subst e5 e6 e7 e13 e16 e17
  have hl : s.length = 182 := hl
  rw [nth_all hl]
  exact lab_ofX (o_law13_DepsOrder Q) [true, true, true, true, true, true, true, true, false, true, false, false, true, false, false, true, true, true, false] (cast (q_law13_DepsOrder_3 (Pu EE) (L_law13_DepsOrder_1 Q) (L_law13_DepsOrder_2 Q) (L_law13_DepsOrder_3 Q) (L_law13_DepsOrder_4 Q) (L_law13_DepsOrder_5 Q) Q s h) H)
noncomputable def t_law13_DepsOrder_4 (p : Pr) (l1 : V → V → V → V → V → V → Hp → Prop) (l2 : V → V → V → V → Hp → Prop) (l3 : V → V → V → V → V → V → Hp → Prop) (l4 : V → V → V → Hp → Prop) (l5 : V → V → V → V → V → V → Hp → Prop) (Q : V → Hp → Prop) (v5 v7 v20 : V) (h : Hp) : Prop :=
  p.lbui h #[29] .len [v7] fun x1 =>
  p.bin .lss 3 false false v20 x1 fun x2 =>
  p.cond x2
  (fun _ =>
   p.load h 24 v5 fun x3 =>
   p.iaddr 29 v7 v20 fun x4 =>
   p.load h 26 x4 fun x5 =>
   p.call 12 [x3, x5] h fun x6 h7 =>
   l5 v5 v7 v20 x6 (.bool false) (.int .i64 0) h7)
  (fun _ =>
   p.call 8 [] h fun x8 h9 =>
   Q x8 h9)
theorem q_law13_DepsOrder_4 (p : Pr) (l1 : V → V → V → V → V → V → Hp → Prop) (l2 : V → V → V → V → Hp → Prop) (l3 : V → V → V → V → V → V → Hp → Prop) (l4 : V → V → V → Hp → Prop) (l5 : V → V → V → V → V → V → Hp → Prop) (Q : V → Hp → Prop) (s : List V) (h : Hp) : t_law13_DepsOrder_4 p l1 l2 l3 l4 l5 Q (nth s 5) (nth s 7) (nth s 20) h = KAt p EE (cutOf [[false, true, false, true, true, true, true, true, true], [false, true, false, true, true, true, true, true, true, true, true], [false, true, true, true, false, false, true, false, false, true, false, true, true, true, true, true, true, true, true], [false, true, false, true, true, true, true, true, true, true, true, true], [false, true, false, true, true, false, false, true, false, false, true, false, true, true, true, true, true, true, true, true, true]]) (X_law13_DepsOrder l1 l2 l3 l4 l5) c_law13_DepsOrder [] [true, true, true, true, true, true, true, true, true, false, true, false] (finK p Tryz.f5 Q) (nths s 182 0) h [] := by kernel_rfl
theorem r_law13_DepsOrder_4 {Q : V → Hp → Prop} {v5 v7 v20 : V} {h : Hp} (H : t_law13_DepsOrder_4 (Pu EE) (L_law13_DepsOrder_1 Q) (L_law13_DepsOrder_2 Q) (L_law13_DepsOrder_3 Q) (L_law13_DepsOrder_4 Q) (L_law13_DepsOrder_5 Q) Q v5 v7 v20 h) : L_law13_DepsOrder_4 Q v5 v7 v20 h := by
  intro s hl ⟨e5, e7, e20⟩
  subst e5 e7 e20
  have hl : s.length = 182 := hl
  rw [nth_all hl]
  exact lab_ofX (o_law13_DepsOrder Q) [true, true, true, true, true, true, true, true, true, false, true, false] (cast (q_law13_DepsOrder_4 (Pu EE) (L_law13_DepsOrder_1 Q) (L_law13_DepsOrder_2 Q) (L_law13_DepsOrder_3 Q) (L_law13_DepsOrder_4 Q) (L_law13_DepsOrder_5 Q) Q s h) H)
noncomputable def t_law13_DepsOrder_5 (p : Pr) (l1 : V → V → V → V → V → V → Hp → Prop) (l2 : V → V → V → V → Hp → Prop) (l3 : V → V → V → V → V → V → Hp → Prop) (l4 : V → V → V → Hp → Prop) (l5 : V → V → V → V → V → V → Hp → Prop) (Q : V → Hp → Prop) (v5 v7 v20 v21 v22 v23 : V) (h : Hp) : Prop :=
  p.lbui h #[29] .len [v21] fun x1 =>
  p.bin .lss 3 false false v23 x1 fun x2 =>
  p.cond x2
  (fun _ =>
   p.gval v22 false (fun k3 =>
    k3 v7) fun x4 =>
   p.gval v22 false (fun k5 =>
    k5 v21) fun x6 =>
   p.gval v22 false (fun k7 =>
    k7 v23) fun x8 =>
   p.gval v22 false (fun k9 =>
    p.iaddr 29 x6 x8 fun x10 =>
    k9 x10) fun x11 =>
   p.gval v22 false (fun k12 =>
    p.load h 26 x11 fun x13 =>
    k12 x13) fun x14 =>
   p.geff v22 false (fun k15 =>
    p.call 18 [x4, x14] h fun x16 h17 =>
    k15 x16 h17) h fun x18 h19 =>
   p.gval v22 false (fun k20 =>
    p.bin .geq 3 false true x18 (.int .i64 0) fun x21 =>
    k20 x21) fun x22 =>
   p.pick v22 (some (.bool true)) (some x22) fun x23 =>
   p.bin .add 3 false true v23 (.int .i64 1) fun x24 =>
   l5 v5 v7 v20 v21 x23 x24 h19)
  (fun _ =>
   p.un .not v22 fun x25 =>
   p.gval x25 false (fun k26 =>
    k26 v20) fun x27 =>
   p.gval x25 false (fun k28 =>
    p.bin .gtr 3 false true x27 (.int .i64 0) fun x29 =>
    k28 x29) fun x30 =>
   p.gval x25 false (fun k31 =>
    k31 x30) fun x32 =>
   p.gval x32 true (fun k33 =>
    k33 v7) fun x34 =>
   p.gval x32 true (fun k35 =>
    k35 v20) fun x36 =>
   p.gval x32 true (fun k37 =>
    p.bin .sub 3 false true x36 (.int .i64 1) fun x38 =>
    k37 x38) fun x39 =>
   p.gval x32 true (fun k40 =>
    p.iaddr 29 x34 x39 fun x41 =>
    k40 x41) fun x42 =>
   p.gval x32 true (fun k43 =>
    p.load h 26 x42 fun x44 =>
    k43 x44) fun x45 =>
   p.gval x32 true (fun k46 =>
    k46 v7) fun x47 =>
   p.gval x32 true (fun k48 =>
    k48 v20) fun x49 =>
   p.gval x32 true (fun k50 =>
    p.iaddr 29 x47 x49 fun x51 =>
    k50 x51) fun x52 =>
   p.gval x32 true (fun k53 =>
    p.load h 26 x52 fun x54 =>
    k53 x54) fun x55 =>
   p.geff x32 true (fun k56 =>
    p.call 19 [x45, x55] h fun x57 h58 =>
    k56 x57 h58) h fun x59 h60 =>
   p.gval x32 true (fun k61 =>
    p.bin .geq 3 false true x59 (.int .i64 0) fun x62 =>
    k61 x62) fun x63 =>
   p.gval x25 false (fun k64 =>
    p.pick x32 (some x63) (some (.bool false)) fun x65 =>
    k64 x65) fun x66 =>
   p.pick x25 (some (.bool true)) (some x66) fun x67 =>
   p.cond x67
   (fun _ =>
    Q (.bool false) h60)
   (fun _ =>
    p.bin .add 3 false true v20 (.int .i64 1) fun x68 =>
    l4 v5 v7 x68 h60))
theorem q_law13_DepsOrder_5 (p : Pr) (l1 : V → V → V → V → V → V → Hp → Prop) (l2 : V → V → V → V → Hp → Prop) (l3 : V → V → V → V → V → V → Hp → Prop) (l4 : V → V → V → Hp → Prop) (l5 : V → V → V → V → V → V → Hp → Prop) (Q : V → Hp → Prop) (s : List V) (h : Hp) : t_law13_DepsOrder_5 p l1 l2 l3 l4 l5 Q (nth s 5) (nth s 7) (nth s 20) (nth s 21) (nth s 22) (nth s 23) h = KAt p EE (cutOf [[false, true, false, true, true, true, true, true, true], [false, true, false, true, true, true, true, true, true, true, true], [false, true, true, true, false, false, true, false, false, true, false, true, true, true, true, true, true, true, true], [false, true, false, true, true, true, true, true, true, true, true, true], [false, true, false, true, true, false, false, true, false, false, true, false, true, true, true, true, true, true, true, true, true]]) (X_law13_DepsOrder l1 l2 l3 l4 l5) c_law13_DepsOrder [] [true, true, true, true, true, true, true, true, true, false, true, false, false, true, false, false, true, true, false, true, false] (finK p Tryz.f5 Q) (nths s 182 0) h [] := by kernel_rfl
theorem r_law13_DepsOrder_5 {Q : V → Hp → Prop} {v5 v7 v20 v21 v22 v23 : V} {h : Hp} (H : t_law13_DepsOrder_5 (Pu EE) (L_law13_DepsOrder_1 Q) (L_law13_DepsOrder_2 Q) (L_law13_DepsOrder_3 Q) (L_law13_DepsOrder_4 Q) (L_law13_DepsOrder_5 Q) Q v5 v7 v20 v21 v22 v23 h) : L_law13_DepsOrder_5 Q v5 v7 v20 v21 v22 v23 h := by
  intro s hl ⟨e5, e7, e20, e21, e22, e23⟩
  subst e5 e7 e20 e21 e22 e23
  have hl : s.length = 182 := hl
  rw [nth_all hl]
  exact lab_ofX (o_law13_DepsOrder Q) [true, true, true, true, true, true, true, true, true, false, true, false, false, true, false, false, true, true, false, true, false] (cast (q_law13_DepsOrder_5 (Pu EE) (L_law13_DepsOrder_1 Q) (L_law13_DepsOrder_2 Q) (L_law13_DepsOrder_3 Q) (L_law13_DepsOrder_4 Q) (L_law13_DepsOrder_5 Q) Q s h) H)
end
end Go.Proofs.YtlllhhjlfmhmlaaGreatDoor.VM
