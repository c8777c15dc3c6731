/- DpR DpS DpT DpU CmV2 CmV3 CmV4 CmTy3 CmA2 CmF CmG CmH CmI -/
import Derived.Test.YtbchdlelmkmagaaGreatDoorMg11
namespace Go.Proofs.YtbchdlelmkmagaaGreatDoor.VM
open Go
set_option linter.unusedVariables false
set_option linter.unusedSectionVars false
set_option linter.unusedSimpArgs false
set_option maxRecDepth 20000
noncomputable section
attribute [local instance] syZ
def QS (h : Hp) (v : V) (qb : Nat) (l : List Spt) : Prop := ∃ (rest : List V) (lo : Nat), h.t.get qb = some (.cells (spCs l ++ rest) 42 false) ∧ rest.length = (lo - l.length) * 3 ∧ l.length ≤ lo ∧ allCells rest = true ∧
  (v = .slo qb 0 l.length lo 3 ∨ v = .sl qb 0 0 0 ∧ lo = 0)
theorem QAt.qs {N : Nat} {h : Hp} {b qb : Nat} {l : List Spt} (a : QAt N h b qb l) : ∃ v, h.t.get b = some (.cells [v] 61 false) ∧ QS h v qb l := by
 obtain ⟨⟨v, rest, lo, h1, h2⟩, _⟩ := a
 exact ⟨v, h1, rest, lo, h2⟩
theorem QS.keep {h h' : Hp} {v : V} {qb : Nat} {l : List Spt} (a : QS h v qb l) (hq : h'.t.get qb = h.t.get qb) : QS h' v qb l := by
 obtain ⟨rest, lo, h1, h2⟩ := a
 exact ⟨rest, lo, by rw [hq]; exact h1, h2⟩
theorem same_spt (a : Spt) (k : Prop) : (Pu EE).same (spV a) (spV a) k ↔ k := by
 show (sameV _ _ = true ∧ k) ↔ k
 have : sameV (spV a) (spV a) = true := by
  show sameL (spC a) (spC a) = true
  simp [spC, sameL, same1, keq_refl, ieq_dec, seq_dec]
 simp [this]
theorem noIntQ : ∃ iu, EE.ty.get 61 = some iu ∧ ∀ k, iu.k ≠ .int k := by
 obtain ⟨i, h1, h2⟩ := s_queue; exact ⟨i, h1, fun k => by rw [h2]; simp⟩
theorem q_append {h : Hp} {v y : V} {qb : Nat} {l : List Spt} (a : QS h v qb l) (x : Spt) (hy : elemsV h 3 y = some (spC x, 1)) (hst : isStr y = false) (hlen : l.length + 1 ≤ 1048576) (hq : qb < h.n) :
  ∃ v' h' qb', (∀ q, (Pu EE).ebui h #[61, 61] .append [v, y] q ↔ q v' h') ∧ QS h' v' qb' (l ++ [x]) ∧ h.n ≤ h'.n ∧ (∀ c, c < h.n → c ≠ qb → h'.t.get c = h.t.get c) ∧ (qb' = qb ∨ h.n ≤ qb') ∧ qb' < h'.n := by
 obtain ⟨ti, h1, h2⟩ := s_queue
 obtain ⟨iu, h3, h4⟩ := noIntQ
 obtain ⟨⟨j, h5, h6, h7, h8, _⟩, h9⟩ := l_api_Spot
 have hss : (!isStr y || Nat.beq j.size 1) = true := by rw [hst]; rfl
 have hred : vappend EE h #[61, 61] v y = appTo h 42 j v (spC x) 1 := by
  rw [← h6] at hy
  have ht0 : (#[61, 61] : Array TypeId)[0]? = some 61 := rfl
  have ht1 : (#[61, 61] : Array TypeId)[1]? = some 61 := rfl
  have hi : iu = ti := by rw [h1] at h3; cases h3; rfl
  subst hi
  simp only [vappend, ht0, ht1, Option.bind_some, h1, h2]
  simp only [h5, Option.bind_some, hss, cond_true, elemsW_of hy]
 have fin : ∀ {v' : V} {h' : Hp}, appTo h 42 j v (spC x) 1 = some (v', h') → ∀ q : V → Hp → Prop, (Pu EE).ebui h #[61, 61] .append [v, y] q ↔ q v' h' := by
  intro v' h' ha q
  show (∃ r, ebuiV EE h #[61, 61] .append [v, y] = some r ∧ q r.1 r.2) ↔ _
  have : ebuiV EE h #[61, 61] .append [v, y] = some (v', h') := hred.trans ha
  rw [this]
  simp
 have hok := appOK_of (need := l.length + 1) h7 h6 h8 h9 hlen
 obtain ⟨rest, lo, r1, r2, r3, r4, r5⟩ := a
 have hcs : spCs (l ++ [x]) = spCs l ++ spC x := by rw [spCs_app]; simp [spCs]
 have hll : (l ++ [x]).length = l.length + 1 := by simp
 rcases r5 with rfl | ⟨rfl, r6⟩
 ·by_cases hlo : l.length + 1 ≤ lo
  ·have hw : wrCells h qb (0 + l.length * 3) (spC x) = some (h.set qb (.cells (spCs l ++ (spC x ++ rest.drop 3)) 42 false)) := by
    unfold wrCells
    rw [r1]
    have hs := spl_at (spCs l) (rest.take 3) (spC x) (rest.drop 3) (by rw [List.length_take]; simp [spC]; omega)
    rw [List.take_append_drop, spCs_len] at hs
    rw [Nat.zero_add]
    have hc : allCells (spC x) = true := rfl
    simp only [hc, cond_true, hs, Option.bind_some]
   have hle : Nat.ble (l.length + 1) lo = true := by rw [Nat.ble_eq]; exact hlo
   refine ⟨.slo qb 0 (l.length + 1) lo 3, h.set qb (.cells (spCs l ++ (spC x ++ rest.drop 3)) 42 false), qb, fin ?_, ⟨rest.drop 3, lo, ?_, ?_, ?_, ?_, ?_⟩, Nat.le_refl _, fun c _ hc => ?_, .inl rfl, hq⟩
   ·simp only [appTo, h6, Nat.beq_refl, hle, cond_true, hw, Option.bind_some]
   ·rw [Hp.get_set, if_pos rfl, hcs, List.append_assoc]
   ·rw [List.length_drop, hll]; omega
   ·rw [hll]; exact hlo
   ·exact allCells_iff.2 fun u hu => allCells_iff.1 r4 u (List.mem_of_mem_drop hu)
   ·rw [hll]; exact .inl rfl
   ·rw [Hp.get_set, if_neg hc]
  ·have hr : rest = [] := List.length_eq_zero_iff.1 (by omega)
   subst hr
   rw [List.append_nil] at r1
   have hle : Nat.ble (l.length + 1) lo = false := by rw [Bool.eq_false_iff]; simp [Nat.ble_eq]; omega
   have hc : allCells (spC x) = true := rfl
   have hgr : grow h 42 qb j.size l.length 1 (spC x) = some (.slo h.n 0 (l.length + 1) (l.length + 1) j.size, (h.new (.cells (spCs l ++ spC x) 42 false)).set qb .dead) := by
    unfold grow
    rw [r1]
    simp only [spCs_len, h6, Nat.beq_refl, hc, Bool.and_self, cond_true]
   rw [h6] at hgr
   refine ⟨.slo h.n 0 (l.length + 1) (l.length + 1) 3, (h.new (.cells (spCs l ++ spC x) 42 false)).set qb .dead, h.n, fin ?_, ⟨[], l.length + 1, ?_, ?_, ?_, ?_, ?_⟩, Nat.le_succ _, fun c hc hne => ?_, .inr (Nat.le_refl _), Nat.lt_succ_self _⟩
   ·simp only [appTo, h6, Nat.beq_refl, hle, cond_true, cond_false, hok, Bool.and_self, hgr]
   ·rw [Hp.get_set, if_neg (by omega), Hp.get_new, if_pos rfl, hcs, List.append_nil]
   ·rw [hll]; simp
   ·rw [hll]; exact Nat.le_refl _
   ·rfl
   ·rw [hll]; exact .inl rfl
   ·rw [Hp.get_set, if_neg hne, Hp.get_new, if_neg (by omega)]
 ·have hl0 : l = [] := List.length_eq_zero_iff.1 (by omega)
  subst hl0
  subst r6
  have hr : rest = [] := List.length_eq_zero_iff.1 (by simpa using r2)
  subst hr
  have hrd : rdCells h qb = some [] := by unfold rdCells; rw [r1]; rfl
  refine ⟨.slo h.n 0 1 1 3, h.new (.cells (spC x) 42 false), h.n, fin ?_, ⟨[], 1, ?_, ?_, ?_, ?_, ?_⟩, Nat.le_succ _, fun c hc hne => ?_, .inr (Nat.le_refl _), Nat.lt_succ_self _⟩
  ·have hok1 : appOK j (0 + 1) = true := hok
   have hle : Nat.ble (0 + 1) 0 = false := rfl
   have hsb : sub ([] : List V) 0 (0 * 3) = some [] := rfl
   simp only [appTo, hle, cond_false, hok1, cond_true, hrd, Option.bind_some, h6, hsb, List.nil_append]
  ·rw [Hp.get_new, if_pos rfl]; simp [spCs]
  ·rfl
  ·exact Nat.le_refl _
  ·rfl
  ·exact .inl rfl
  ·rw [Hp.get_new, if_neg (by omega)]
theorem pu_assertS (x : Spt) (q : V → Prop) : (Pu EE).assert (.iface 42 (spV x)) 42 true q ↔ q (.tup [spV x, .bool true]) := by
 show (∃ v, vtypeAssert EE (.iface 42 (spV x)) 42 true = some v ∧ q v) ↔ _
 have : vtypeAssert EE (.iface 42 (spV x)) 42 true = some (.tup [spV x, .bool true]) := by kernel_rfl
 rw [this, ex_some]
theorem pu_ifaceS (x : Spt) (q : V → Prop) : (Pu EE).iface 42 (spV x) q ↔ q (.iface 42 (spV x)) := by
 show (∃ v, ((EE.ty.get 42).bind fun i => ifaceV 42 (spV x) i) = some v ∧ q v) ↔ _
 have : ((EE.ty.get 42).bind fun i => ifaceV 42 (spV x) i) = some (.iface 42 (spV x)) := by kernel_rfl
 rw [this, ex_some]
theorem qpush_ok {N : Nat} {h : Hp} {b qb : Nat} {l : List Spt} (a : QAt N h b qb l) (x : Spt) (hlen : l.length + 1 ≤ 1048576) (hN : N ≤ h.n) : Ans EE 323 [.ptr b 0, .iface 42 (spV x)] h fun _ h' => ∃ qb', QAt N h' b qb' (l ++ [x]) ∧ QF b qb qb' h h' := by
 have e1 := a.ne
 have e2 := a.nb
 have e3 := a.nq
 have e4 := a.bn
 have e5 := a.qn
 obtain ⟨v, g1, g2⟩ := a.qs
 apply a_deps_queue_Push
 unfold t_deps_queue_Push_0
 rw [pu_assertS, pu_extr0, pu_extr1]
 refine pu_allocX l_api_Spot fun h1 t w1 => ?_
 refine pu_storeX l_api_Spot w1.at_ (x := spV x) rfl rfl (r := spC x) rfl fun h2 w2 => ?_
 have n1 := w1.n
 have n2 := w2.n
 have t1 := w1.b
 have hb2 : h2.t.get b = some (.cells [v] 61 false) := by rw [w2.other b (by omega), w1.old b e4]; exact g1
 have hq2 : h2.t.get qb = h.t.get qb := by rw [w2.other qb (by omega), w1.old qb e5]
 rw [pu_cond_t, pu_nilc, pu_load1 l_queue hb2 rfl, pu_loadS l_api_Spot w2.at_ (l := spC x) rfl]
 show (Pu EE).bsl _ _ 1 [(0, spV x)] _
 rw [pu_lit1 s_queue l_api_Spot _ rfl (by omega)]
 obtain ⟨h3, hh3⟩ : ∃ h3, h3 = h2.new (.cells (spV x).cells 42 false) := ⟨_, rfl⟩
 have w3 : New h2 h3 h2.n (.cells (spC x) 42 false) := by rw [hh3]; exact New.mk' _ _
 have hel := elems_rd (rd_lit (h := h2) (e := 42) (ws := spC x) (sz := 3) rfl).rd
 rw [show h2.new (.cells (spC x) 42 false) = h3 from hh3.symm] at hel
 rw [← hh3]
 have n3 := w3.n
 have hb3 : h3.t.get b = some (.cells [v] 61 false) := by rw [w3.old b (by omega)]; exact hb2
 have ht3 : h3.t.get t = some (.cells (spC x) 42 false) := by rw [w3.old t (by omega)]; exact w2.at_
 have hq3 : h3.t.get qb = h.t.get qb := by rw [w3.old qb (by omega)]; exact hq2
 rw [pu_loadS l_api_Spot ht3 (l := spC x) rfl]
 show (Pu EE).same (spV x) (spV x) _
 rw [same_spt, pu_load1 l_queue hb3 rfl]
 obtain ⟨s0, s1, s2, _⟩ := a.sps
 rw [g1] at s1
 have hs0 : s0 = v := by cases s1; rfl
 subst hs0
 rw [same_rd s2]
 obtain ⟨v', h4, qb', k1, k2, k3, k4, k5, k6⟩ := q_append (g2.keep hq3) x hel.1 hel.2 hlen (by omega)
 rw [k1, pu_nilc]
 have hb4 : h4.t.get b = some (.cells [s0] 61 false) := by rw [k4 b (by omega) e1]; exact hb3
 have hc : v'.cells = [v'] := by
  obtain ⟨_, _, _, _, _, _, rfl | ⟨rfl, _⟩⟩ := k2 <;> rfl
 refine pu_storeX l_queue hb4 (x := v') (by rw [hc]; rfl) (by rw [hc]; obtain ⟨_, _, _, _, _, _, rfl | ⟨rfl, _⟩⟩ := k2 <;> rfl) (r := [v']) (by rw [hc]; rfl) fun h5 w5 => ?_
 have n5 := w5.n
 have hne : qb' ≠ b := by rcases k5 with e | e <;> omega
 obtain ⟨rest, lo, r1, r2⟩ := k2
 refine ⟨qb', ⟨⟨v', rest, lo, w5.at_, by rw [w5.other qb' hne]; exact r1, r2⟩, fun e => hne e.symm, e2, by rcases k5 with e | e <;> omega, by omega, by omega⟩, by omega, fun c hc h1 h2 => ?_, by rcases k5 with e | e <;> omega⟩
 rw [w5.other c h1, k4 c (by omega) h2, w3.old c (by omega), w2.other c (by omega), w1.old c hc]
end
end Go.Proofs.YtbchdlelmkmagaaGreatDoor.VM
namespace Go.Proofs.YtbchdlelmkmagaaGreatDoor.VM
open Go
set_option linter.unusedVariables false
set_option linter.unusedSectionVars false
set_option linter.unusedSimpArgs false
set_option maxRecDepth 20000
noncomputable section
attribute [local instance] syZ
theorem pu_qslice {h : Hp} {v : V} {qb : Nat} {l : List Spt} {lo n : Nat} (hv : v = .slo qb 0 l.length lo 3) (hn : n ≤ lo) (q : V → Prop) : (Pu EE).slice 61 v none (some (.int .i64 n)) none q ↔ q (.slo qb 0 n lo 3) := by
 subst hv
 obtain ⟨ti, h1, h2⟩ := s_queue
 obtain ⟨⟨j, h5, h6, h7, h8, _⟩, h9⟩ := l_api_Spot
 show (∃ u, vslice EE 61 (.slo qb 0 l.length lo 3) none (some (.int .i64 n)) none = some u ∧ q u) ↔ _
 have : vslice EE 61 (.slo qb 0 l.length lo 3) none (some (.int .i64 n)) none = some (.slo qb 0 n lo 3) := by
  simp only [vslice, h1, Option.bind_some, h2, h5, h6, Nat.beq_refl, cond_true, bounds_to n l.length lo .i64 hn, sloOf, Bool.true_or, Nat.zero_mul, Nat.add_zero, Nat.sub_zero]
 rw [this, ex_some]
theorem spCs_last (l : List Spt) (h : 0 < l.length) : spCs l = spCs (l.take (l.length - 1)) ++ spC (l.getD (l.length - 1) sp0) := by
 have : l = l.take (l.length - 1) ++ [l.getD (l.length - 1) sp0] := by
  have h1 : l.length - 1 < l.length := by omega
  have h2 := List.take_succ_eq_append_getElem h1
  rw [show l.length - 1 + 1 = l.length by omega, List.take_length] at h2
  rw [List.getD_eq_getElem?_getD, List.getElem?_eq_getElem h1]
  exact h2
 conv => lhs; rw [this]
 rw [spCs_app]
 simp [spCs]
theorem qpop_ok {N : Nat} {h : Hp} {b qb : Nat} {l : List Spt} (a : QAt N h b qb l) (hl : 0 < l.length) (hlen : l.length ≤ 1000000) (hN : N ≤ h.n) : Ans EE 322 [.ptr b 0] h fun y h' => y = .iface 42 (spV (l.getD (l.length - 1) sp0)) ∧ QAt N h' b qb (l.take (l.length - 1)) ∧ QF b qb qb h h' := by
 have e1 := a.ne
 have e2 := a.nb
 have e3 := a.nq
 have e4 := a.bn
 have e5 := a.qn
 obtain ⟨v, g1, g2, g3⟩ := a.sps
 apply a_deps_queue_Pop
 unfold t_deps_queue_Pop_0
 have hlast := getD_some (L := l) (i := l.length - 1) (by omega)
 obtain ⟨b1, o1, m1, m2, m3, _⟩ := sps_get g2 s_queue l_api_Spot hlast
 have hz : IntKind.i64.wrap ((l.length : Int) - 1) = ((l.length - 1 : Nat) : Int) := by
  rw [show (l.length : Int) - 1 = ((l.length - 1 : Nat) : Int) by omega]
  exact w64 _ (by omega)
 rw [pu_nilc, pu_load1 l_queue g1 rfl, pu_nilc, pu_load1 l_queue g1 rfl, pu_len g2 s_queue, pu_sub, hz, m1, m2]
 refine pu_allocX l_api_Spot fun h1 t w1 => ?_
 have n1 := w1.n
 have t1 := w1.b
 have a1 : QAt N h1 b qb l := a.keep (by omega) (w1.old b e4) (w1.old qb e5)
 obtain ⟨v1, f1, f2, f3⟩ := a1.sps
 have hv1 : v1 = v := by
  rw [w1.old b e4, g1] at f1
  cases f1; rfl
 subst hv1
 obtain ⟨b2, o2, m4, m5, m6, _⟩ := sps_get f2 s_queue l_api_Spot hlast
 have hbb : V.ptr b2 o2 = V.ptr b1 o1 := by
  have q1 := (m1 .i64 (fun u => u = V.ptr b2 o2)).1 ((m4 .i64 (fun u => u = V.ptr b2 o2)).2 rfl)
  exact q1.symm
 cases hbb
 rw [m5, same_spt, pu_len f2 s_queue, same_int, pu_load1 l_queue f1 rfl, same_rd f2, pu_load1 l_queue f1 rfl, same_rd f2]
 refine pu_storeX l_api_Spot w1.at_ (x := spV (l.getD (l.length - 1) sp0)) rfl rfl (r := spC (l.getD (l.length - 1) sp0)) rfl fun h2 w2 => ?_
 have n2 := w2.n
 have hb2 : h2.t.get b = some (.cells [v1] 61 false) := by rw [w2.other b (by omega)]; exact f1
 rw [pu_nilc, pu_load1 l_queue hb2 rfl, pu_nilc, pu_load1 l_queue hb2 rfl, pu_len f2 s_queue, pu_sub, hz]
 obtain ⟨⟨u, rest, lo, r1, r2, r3, r4, r5, r6⟩, _⟩ := a
 have hu : u = v1 := by rw [g1] at r1; cases r1; rfl
 subst hu
 have hu2 : u = .slo qb 0 l.length lo 3 := by
  rcases r6 with e | ⟨_, e⟩
  ·exact e
  ·omega
 rw [pu_qslice (l := l) (lo := lo) (h := h2) hu2 (by omega), pu_nilc]
 refine pu_storeX l_queue hb2 (x := .slo qb 0 (l.length - 1) lo 3) rfl rfl (r := [.slo qb 0 (l.length - 1) lo 3]) rfl fun h3 w3 => ?_
 have n3 := w3.n
 have ht3 : h3.t.get t = some (.cells (spC (l.getD (l.length - 1) sp0)) 42 false) := by rw [w3.other t (by omega)]; exact w2.at_
 rw [pu_loadS l_api_Spot ht3 (l := spC (l.getD (l.length - 1) sp0)) rfl]
 show (Pu EE).iface _ (spV _) _
 rw [pu_ifaceS]
 have htl : (l.take (l.length - 1)).length = l.length - 1 := by rw [List.length_take]; omega
 refine ⟨rfl, ⟨⟨_, spC (l.getD (l.length - 1) sp0) ++ rest, lo, w3.at_, ?_, ?_, ?_, ?_, ?_⟩, e1, e2, e3, by omega, by omega⟩, by omega, fun c hc h1 h2 => ?_, .inl rfl⟩
 ·rw [w3.other qb (fun e => e1 e.symm), w2.other qb (by omega), w1.old qb e5, r2, spCs_last l hl, List.append_assoc]
 ·rw [htl, List.length_append, r3]; simp [spC]; omega
 ·rw [htl]; omega
 ·refine allCells_iff.2 fun u hu => ?_
  rcases List.mem_append.1 hu with hu | hu
  ·exact allCells_iff.1 (show allCells (spC (l.getD (l.length - 1) sp0)) = true from rfl) u hu
  ·exact allCells_iff.1 r5 u hu
 ·rw [htl]; exact .inl rfl
 ·rw [w3.other c h1, w2.other c (by omega), w1.old c hc]
end
end Go.Proofs.YtbchdlelmkmagaaGreatDoor.VM
namespace Go.Proofs.YtbchdlelmkmagaaGreatDoor.VM
open Go
set_option linter.unusedVariables false
set_option linter.unusedSectionVars false
set_option linter.unusedSimpArgs false
set_option maxRecDepth 20000
noncomputable section
attribute [local instance] syZ
def qV (b : Nat) : V := .iface 60 (.ptr b 0)
theorem inv_len {b : Nat} {h : Hp} {k : V → Hp → Prop} (H : Ans EE 29 [.ptr b 0] h k) : (Pu EE).invk (qV b) "Len" [] h k := ⟨(29, [.ptr b 0]), by kernel_rfl, H⟩
theorem inv_less {b : Nat} {h : Hp} {x y : V} {k : V → Hp → Prop} (H : Ans EE 321 [.ptr b 0, x, y] h k) : (Pu EE).invk (qV b) "Less" [x, y] h k := ⟨(321, [.ptr b 0, x, y]), by kernel_rfl, H⟩
theorem inv_swap {b : Nat} {h : Hp} {x y : V} {k : V → Hp → Prop} (H : Ans EE 324 [.ptr b 0, x, y] h k) : (Pu EE).invk (qV b) "Swap" [x, y] h k := ⟨(324, [.ptr b 0, x, y]), by kernel_rfl, H⟩
theorem inv_push {b : Nat} {h : Hp} {x : V} {k : V → Hp → Prop} (H : Ans EE 323 [.ptr b 0, x] h k) : (Pu EE).invk (qV b) "Push" [x] h k := ⟨(323, [.ptr b 0, x]), by kernel_rfl, H⟩
theorem inv_pop {b : Nat} {h : Hp} {k : V → Hp → Prop} (H : Ans EE 322 [.ptr b 0] h k) : (Pu EE).invk (qV b) "Pop" [] h k := ⟨(322, [.ptr b 0]), by kernel_rfl, H⟩
theorem upL_0 (L : List Spt) : upL L 0 = L := by rw [upL]; simp
theorem upL_y {L : List Spt} {j : Nat} (h : 0 < j) (hl : lessL L j ((j - 1) / 2) = true) : upL L j = upL (swapL L ((j - 1) / 2) j) ((j - 1) / 2) := by rw [upL, if_neg (by omega), if_pos hl]
theorem upL_n {L : List Spt} {j : Nat} (h : 0 < j) (hl : lessL L j ((j - 1) / 2) = false) : upL L j = L := by rw [upL, if_neg (by omega), if_neg (by rw [hl]; decide)]
theorem half {j : Nat} (h : 0 < j) (hj : j < 1000000) : IntKind.i64.wrap ((IntKind.i64.wrap ((j : Int) - 1)).tdiv 2) = (((j - 1) / 2 : Nat) : Int) := by
 rw [show (j : Int) - 1 = ((j - 1 : Nat) : Int) by omega, w64 _ (by omega)]
 have : (((j - 1 : Nat) : Int)).tdiv 2 = (((j - 1) / 2 : Nat) : Int) := by
  rw [Int.tdiv_eq_ediv_of_nonneg (by omega)]
  omega
 rw [this, w64 _ (by omega)]
theorem half0 : IntKind.i64.wrap ((IntKind.i64.wrap (((0 : Nat) : Int) - 1)).tdiv 2) = ((0 : Nat) : Int) := by decide
theorem up_ok (Q : V → Hp → Prop) (N b : Nat) : ∀ (f j : Nat), j ≤ f → ∀ (L : List Spt) (h : Hp) (qb : Nat), QAt N h b qb L → j < L.length → L.length < 1000000 →
  (∀ h', QAt N h' b qb (upL L j) → QF b qb qb h h' → Q u0 h') → L_container_heap_up_1 Q (qV b) (.int .i64 j) h := by
 intro f
 induction f with
 | zero =>
  intro j hj L h qb a hjl hL hq
  have e : j = 0 := by omega
  subst e
  apply r_container_heap_up_1
  unfold t_container_heap_up_1
  rw [pu_sub, pu_quo _ _ _ _ _ _ (by decide), half0, eqlN, decide_eq_true rfl]
  simp only [pu_gval_tf, pu_geff_tf, pu_pick_t, pu_cond_t]
  exact hq h (by rw [upL_0]; exact a) (QF.refl _ _ _)
 | succ f ih =>
  intro j hj L h qb a hjl hL hq
  by_cases e : j = 0
  ·exact ih j (by omega) L h qb a hjl hL hq
  ·apply r_container_heap_up_1
   unfold t_container_heap_up_1
   rw [pu_sub, pu_quo _ _ _ _ _ _ (by decide), half (by omega) (by omega), eqlN, decide_eq_false (by omega : ¬ (j - 1) / 2 = j)]
   simp only [pu_gval_y, pu_geff_y]
   refine inv_less ((qless_ok a hjl (by omega)).mono ?_)
   rintro x h1 ⟨rfl, hx⟩
   have n1 := hx.n
   have a1 := a.ext hx
   rw [pu_not, pu_pick_f]
   cases hl : lessL L j ((j - 1) / 2) with
   | false =>
    simp only [Bool.not_false, pu_cond_t]
    exact hq h1 (by rw [upL_n (by omega) hl]; exact a1) (QF.of_ext hx)
   | true =>
    simp only [Bool.not_true, pu_cond_f]
    refine inv_swap ((qswap_ok a1 (by omega) hjl).mono ?_)
    rintro y h2 ⟨a2, f2⟩
    refine ih _ (by omega) _ h2 qb a2 (by rw [swapL_len]; omega) (by rw [swapL_len]; exact hL) fun h' a' f' => hq h' (by rw [upL_y (by omega) hl]; exact a') (((QF.of_ext hx).trans f2).trans f')
theorem hpush_ok {N b qb : Nat} {h : Hp} {l : List Spt} (a : QAt N h b qb l) (x : Spt) (hlen : l.length + 1 < 1000000) (hN : N ≤ h.n) : Ans EE 28 [qV b, .iface 42 (spV x)] h fun _ h' => ∃ qb', QAt N h' b qb' (hpushL l x) ∧ QF b qb qb' h h' := by
 apply a_container_heap_Push
 unfold t_container_heap_Push_0
 refine inv_push ((qpush_ok a x (by omega) hN).mono ?_)
 rintro y h1 ⟨q1, a1, f1⟩
 refine inv_len ((qlen_ok a1).mono ?_)
 rintro y h2 ⟨rfl, rfl⟩
 have hll : (l ++ [x]).length = l.length + 1 := by simp
 rw [pu_sub, hll, show ((l.length + 1 : Nat) : Int) - 1 = (l.length : Int) by omega, w64 _ (by omega)]
 refine Ans.mono (Q := fun _ h' => QAt N h' b q1 (hpushL l x) ∧ QF b q1 q1 h2 h') ?_ (fun y h3 q => ⟨q1, q.1, f1.trans q.2⟩)
 apply a_container_heap_up
 unfold t_container_heap_up_0
 exact up_ok _ N b l.length l.length (Nat.le_refl _) (l ++ [x]) h2 q1 a1 (by rw [hll]; omega) (by rw [hll]; omega) fun h' a' f' => ⟨a', f'⟩
theorem downL_e {L : List Spt} {i n : Nat} (h : n ≤ 2 * i + 1) : downL L i n = L := by rw [downL, if_pos h]
theorem downL_y {L : List Spt} {i n : Nat} (h : ¬ n ≤ 2 * i + 1) (hl : lessL L (downJ L i n) i = true) : downL L i n = downL (swapL L i (downJ L i n)) (downJ L i n) n := by rw [downL, if_neg h, if_pos hl]
theorem downL_n {L : List Spt} {i n : Nat} (h : ¬ n ≤ 2 * i + 1) (hl : lessL L (downJ L i n) i = false) : downL L i n = L := by rw [downL, if_neg h, if_neg (by rw [hl]; decide)]
theorem down_ok (Q : V → Hp → Prop) (N b n i0 : Nat) (hn : n < 1000000) : ∀ (f i : Nat), n - i ≤ f → ∀ (L : List Spt) (h : Hp) (qb : Nat), QAt N h b qb L → i < n ∨ n ≤ 2 * i + 1 → n ≤ L.length → i < 1000000 →
  (∀ x h', QAt N h' b qb (downL L i n) → QF b qb qb h h' → Q x h') → L_container_heap_down_1 Q (qV b) (.int .i64 i0) (.int .i64 n) (.int .i64 i) h := by
 intro f
 induction f with
 | zero =>
  intro i hi L h qb a hin hL him hq
  apply r_container_heap_down_1
  unfold t_container_heap_down_1
  rw [pu_mul, show (2 : Int) * (i : Int) = ((2 * i : Nat) : Int) by omega, w64 _ (by omega), pu_inc _ _ _ _ (by omega), geqN, decide_eq_true (by omega : n ≤ 2 * i + 1)]
  simp only [pu_gval_tf, pu_pick_t, pu_cond_t]
  rw [pu_gtr]
  exact hq _ h (by rw [downL_e (by omega)]; exact a) (QF.refl _ _ _)
 | succ f ih =>
  intro i hi L h qb a hin hL him hq
  apply r_container_heap_down_1
  unfold t_container_heap_down_1
  rw [pu_mul, show (2 : Int) * (i : Int) = ((2 * i : Nat) : Int) by omega, w64 _ (by omega), pu_inc _ _ _ _ (by omega), geqN]
  by_cases hend : n ≤ 2 * i + 1
  ·rw [decide_eq_true hend]
   simp only [pu_gval_tf, pu_pick_t, pu_cond_t]
   rw [pu_gtr]
   exact hq _ h (by rw [downL_e hend]; exact a) (QF.refl _ _ _)
  ·rw [decide_eq_false hend]
   simp only [pu_gval_y]
   rw [pu_lss, decide_eq_false (by omega : ¬ ((2 * i + 1 : Nat) : Int) < 0)]
   simp only [pu_pick_f, pu_cond_f]
   rw [pu_inc _ _ _ _ (by omega), pu_lssN]
   obtain ⟨hj1, _, hj3, _⟩ := downJ_spec (L := L) hend
   have step : ∀ (h1 : Hp), QAt N h1 b qb L → QF b qb qb h h1 → L_container_heap_down_2 Q (qV b) (.int .i64 i0) (.int .i64 n) (.int .i64 i) (.int .i64 (downJ L i n)) h1 := by
    intro h1 a1 f1
    apply r_container_heap_down_2
    unfold t_container_heap_down_2
    refine inv_less ((qless_ok a1 (by omega) (by omega)).mono ?_)
    rintro x h2 ⟨rfl, hx⟩
    have a2 := a1.ext hx
    have f2 := f1.trans (QF.of_ext hx)
    rw [pu_not]
    cases hl : lessL L (downJ L i n) i with
    | false =>
     simp only [Bool.not_false, pu_cond_t]
     rw [pu_gtr]
     exact hq _ h2 (by rw [downL_n hend hl]; exact a2) f2
    | true =>
     simp only [Bool.not_true, pu_cond_f]
     refine inv_swap ((qswap_ok a2 (by omega) (by omega)).mono ?_)
     rintro y h3 ⟨a3, f3⟩
     exact ih _ (by omega) _ h3 qb a3 (.inl hj1) (by rw [swapL_len]; exact hL) (by omega) fun x h' a' f' => hq x h' (by rw [downL_y hend hl]; exact a') ((f2.trans f3).trans f')
   by_cases hr : 2 * i + 1 + 1 < n
   ·rw [decide_eq_true hr]
    simp only [pu_gval_y, pu_geff_y]
    refine inv_less ((qless_ok a (by omega) (by omega)).mono ?_)
    rintro x h1 ⟨rfl, hx⟩
    have a1 := a.ext hx
    rw [pu_pick_t]
    cases hl : lessL L (2 * i + 1 + 1) (2 * i + 1) with
    | true =>
     rw [pu_cond_t]
     have : downJ L i n = 2 * i + 1 + 1 := by unfold downJ; rw [if_pos ⟨hr, hl⟩]
     rw [← this]
     exact step h1 a1 (QF.of_ext hx)
    | false =>
     rw [pu_cond_f]
     have : downJ L i n = 2 * i + 1 := by unfold downJ; rw [if_neg (by rw [hl]; simp)]
     rw [← this]
     exact step h1 a1 (QF.of_ext hx)
   ·rw [decide_eq_false hr]
    simp only [pu_gval_ft, pu_geff_ft, pu_pick_f, pu_cond_f]
    have : downJ L i n = 2 * i + 1 := by unfold downJ; rw [if_neg (by omega)]
    rw [← this]
    exact step h a (QF.refl _ _ _)
theorem hpop_ok {N b qb : Nat} {h : Hp} {l : List Spt} (a : QAt N h b qb l) {x : Spt} (hx : l[0]? = some x) (hlen : l.length < 1000000) (hN : N ≤ h.n) : Ans EE 30 [qV b] h fun y h' => y = .iface 42 (spV x) ∧ QAt N h' b qb (hpopL l) ∧ QF b qb qb h h' := by
 have hl0 : 0 < l.length := (List.getElem?_eq_some_iff.1 hx).1
 apply a_container_heap_Pop
 unfold t_container_heap_Pop_0
 refine inv_len ((qlen_ok a).mono ?_)
 rintro y h1 ⟨rfl, rfl⟩
 rw [pu_sub, show (l.length : Int) - 1 = ((l.length - 1 : Nat) : Int) by omega, w64 _ (by omega)]
 rw [show (0 : Int) = ((0 : Nat) : Int) from rfl]
 refine inv_swap ((qswap_ok a hl0 (by omega)).mono ?_)
 rintro y h2 ⟨a2, f2⟩
 have hsl : (swapL l 0 (l.length - 1)).length = l.length := swapL_len _ _ _
 refine Ans.mono (Q := fun _ h' => QAt N h' b qb (downL (swapL l 0 (l.length - 1)) 0 (l.length - 1)) ∧ QF b qb qb h2 h') ?_ ?_
 ·apply a_container_heap_down
  unfold t_container_heap_down_0
  exact down_ok _ N b (l.length - 1) 0 (by omega) (l.length - 1) 0 (by omega) _ h2 qb a2 (by omega) (by rw [hsl]; omega) (by omega) fun x h' a' f' => ⟨a', f'⟩
 ·rintro y h3 ⟨a3, f3⟩
  have hdl : (downL (swapL l 0 (l.length - 1)) 0 (l.length - 1)).length = l.length := by rw [downL_len (l.length - 1) (l.length - 1) _ 0 (by omega), hsl]
  have n2 := f2.n
  have n3 := f3.n
  refine inv_pop ((qpop_ok a3 (by rw [hdl]; exact hl0) (by rw [hdl]; omega) (by omega)).mono ?_)
  rintro y h4 ⟨rfl, a4, f4⟩
  rw [hdl] at a4
  refine ⟨?_, a4, (f2.trans f3).trans f4⟩
  rw [hdl]
  have h1 := downL_get (l.length - 1) (swapL l 0 (l.length - 1)) 0 (Nat.zero_le _)
  rw [swap_last rfl hl0 hx] at h1
  rw [List.getD_eq_getElem?_getD, h1]
  rfl
end
end Go.Proofs.YtbchdlelmkmagaaGreatDoor.VM
namespace Go.Proofs.YtbchdlelmkmagaaGreatDoor.VM
open Go
set_option linter.unusedVariables false
set_option linter.unusedSectionVars false
set_option linter.unusedSimpArgs false
set_option maxRecDepth 20000
noncomputable section
attribute [local instance] syZ
section
variable {E : Env} {K : Type} [DecidableEq K] {key : K → V}
theorem findE_snoc {k : K} {z : V} {c : Nat} : ∀ {es : Es K} (n : Nat), k ∉ es.map (·.1) → findE k (es ++ [(k, z, c)]) n = some (n + es.length, z, c)
 | [], n, _ => by simp [findE]
 | (a, u, d) :: r, n, h => by
  simp only [List.map_cons, List.mem_cons, not_or] at h
  rw [List.cons_append, findE, if_neg h.1, findE_snoc (n + 1) h.2, List.length_cons]
  congr 2
  omega
theorem MapIs.snoc {h h1 : Hp} {b : Nat} {f : K → Option V} {es : Es K} {c : Nat} (m : MapIs key h b f es c) {k : K} (hf : f k = none) (v : V) (hb : h1.t.get b = some (.map (esV key (es ++ [(k, v, c)])) (c + 1))) : MapIs key h1 b (updF f k v) (es ++ [(k, v, c)]) (c + 1) := by
 obtain ⟨h5, h6⟩ := m.find_none hf
 refine ⟨hb, ?_, ?_, ?_, fun y => ?_⟩
 ·rw [List.map_append]
  refine List.nodup_append.2 ⟨m.keys, by simp, fun a ha d hd e => ?_⟩
  simp at hd; subst hd; subst e; exact h6 ha
 ·rw [List.map_append]
  refine List.nodup_append.2 ⟨m.borns, by simp, fun a ha d hd e => ?_⟩
  simp at hd; subst hd; subst e
  obtain ⟨x, hx, e2⟩ := List.mem_map.1 ha
  have := m.lt x hx; omega
 ·intro x hx
  rcases List.mem_append.1 hx with hx | hx
  ·have := m.lt x hx; omega
  ·simp at hx; subst hx; simp
 ·rw [lookE_snoc y h6, m.look]; rfl
theorem pu_mapeX {h : Hp} {b t q e : Nat} (ht : IsMap E t q e) (hq : KeyOf E q key) {f : K → Option V} (m : MapFn key h b f) (k : K) {z : V} (hz : vzero E e = some z) :
  ∃ (n : Nat) (v : V) (h1 : Hp), v = (f k).getD z ∧ h1.n = h.n ∧ (∀ c, c ≠ b → h1.t.get c = h.t.get c) ∧
   (∀ qq : V → Hp → Prop, (Pu E).mape h t (.mp b) (key k) qq ↔ qq (.tup [v, .int .i64 n]) h1) ∧
   ∀ (h2 : Hp), h2.t.get b = h1.t.get b → ∀ (x : V) (kd : IntKind) (qq : Hp → Prop), (∀ h3 bl, Wr h2 h3 b bl → MapFn key h3 b (updF f k x) → qq h3) → (Pu E).ests h2 (.mp b) (.int kd n) x qq := by
 obtain ⟨i, h1, h2⟩ := ht
 obtain ⟨j, h3, h4⟩ := hq
 obtain ⟨es, c, m⟩ := m
 cases hf : f k with
 | some v =>
  obtain ⟨p, n, h5⟩ := m.find_some hf
  refine ⟨n, v, h, rfl, rfl, fun _ _ => rfl, fun qq => ?_, fun g hg x kd qq hqq => ?_⟩
  ·have : vmapEntry E h t (.mp b) (key k) = some (.tup [v, .int .i64 n], h) := by
    simp only [vmapEntry, h1, Option.bind_some, h2, h3, keyOK_of h4, cond_true, mapOf, m.at_, findM_es (q := q) h4, h5]
    rfl
   show (∃ r, vmapEntry E h t (.mp b) (key k) = some r ∧ qq r.1 r.2) ↔ _
   rw [this, ex_some]
  ·have hs := setBorn_upd (key := key) x m.keys m.borns h5
   have m2 : MapIs key g b f es c := ⟨hg.trans m.at_, m.keys, m.borns, m.lt, m.look⟩
   refine ⟨g.set b (.map (esV key (updE es k x)) c), ?_, hqq _ _ ⟨by rw [Hp.get_set, if_pos rfl], rfl, fun d hd => by rw [Hp.get_set, if_neg hd]⟩ (m2.upd hf x (by rw [Hp.get_set, if_pos rfl]))⟩
   simp only [ventryStore, natOf_nat, Option.bind_some, mapOf, m2.at_, hs]
 | none =>
  obtain ⟨h5, h6⟩ := m.find_none hf
  have e1 : esV key es ++ [(key k, z, c)] = esV key (es ++ [(k, z, c)]) := by simp [esV]
  refine ⟨c, z, h.set b (.map (esV key (es ++ [(k, z, c)])) (c + 1)), rfl, rfl, fun d hd => by rw [Hp.get_set, if_neg hd], fun qq => ?_, fun g hg x kd qq hqq => ?_⟩
  ·have : vmapEntry E h t (.mp b) (key k) = some (.tup [z, .int .i64 c], h.set b (.map (esV key (es ++ [(k, z, c)])) (c + 1))) := by
    simp only [vmapEntry, h1, Option.bind_some, h2, h3, keyOK_of h4, cond_true, mapOf, m.at_, findM_es (q := q) h4, h5, hz, e1]
    rfl
   show (∃ r, vmapEntry E h t (.mp b) (key k) = some r ∧ qq r.1 r.2) ↔ _
   rw [this, ex_some]
  ·have m2 : MapIs key g b (updF f k z) (es ++ [(k, z, c)]) (c + 1) := m.snoc hf z (by rw [hg, Hp.get_set, if_pos rfl])
   have hs := setBorn_upd (key := key) x m2.keys m2.borns (findE_snoc (z := z) (c := c) 0 h6)
   refine ⟨g.set b (.map (esV key (updE (es ++ [(k, z, c)]) k x)) (c + 1)), ?_, hqq _ _ ⟨by rw [Hp.get_set, if_pos rfl], rfl, fun d hd => by rw [Hp.get_set, if_neg hd]⟩ ((m2.upd (k := k) (u := z) (by simp [updF]) x (by rw [Hp.get_set, if_pos rfl])).congr fun y => ?_)⟩
   ·simp only [ventryStore, natOf_nat, Option.bind_some, mapOf, m2.at_, hs]
   ·unfold updF; split <;> rfl
theorem pu_mkmapX {h : Hp} {q : V → Hp → Blk → Prop} (hq : ∀ h1 b, New h h1 b (.map [] 0) → q (.mp b) h1 (.map [] 0)) : (Pu E).mkmap h true q := ⟨rfl, hq _ _ (New.mk' _ _)⟩
end
theorem m_int : IsMap EE 56 42 3 := isMap (by kernel_rfl)
theorem m_users : IsMap EE 57 42 32 := isMap (by kernel_rfl)
theorem k_spot : KeyOf EE 42 spV := keyOf3 (fun s => s.s) (fun s => s.r) (fun s => s.c) (fun _ => rfl) (fun a b => by cases a; cases b; simp) (by kernel_rfl)
theorem z_users : vzero EE 32 = some .nils := by kernel_rfl
theorem z_int : vzero EE 3 = some (.int .i64 0) := by kernel_rfl
structure UMap (N : Nat) (h : Hp) (b : Nat) (f : Spt → Option V) (us : Spt → List Spt) : Prop where
 map : MapFn spV h b f
 nones : ∀ n, f n = none → us n = []
 ats : ∀ n v, f n = some v → OwnS N h v (us n)
 sep : ∀ m n v w c, f m = some v → f n = some w → blkOf v = some c → blkOf w = some c → m = n
def addU (us : Spt → List Spt) (n s : Spt) : Spt → List Spt := fun m => if m = n then us n ++ [s] else us m
structure UF (bL bU : Nat) (f f' : Spt → Option V) (h h' : Hp) : Prop where
 n : h.n ≤ h'.n
 keep : ∀ c, c < h.n → c ≠ bL → c ≠ bU → (∀ m v, f m = some v → blkOf v ≠ some c) → h'.t.get c = h.t.get c
 new : ∀ m v c, f' m = some v → blkOf v = some c → (∃ m' v', f m' = some v' ∧ blkOf v' = some c) ∨ h.n ≤ c
theorem UF.refl (bL bU : Nat) (f : Spt → Option V) (h : Hp) : UF bL bU f f h h := ⟨Nat.le_refl _, fun _ _ _ _ _ => rfl, fun m v c h1 h2 => .inl ⟨m, v, h1, h2⟩⟩
theorem UF.trans {bL bU : Nat} {f1 f2 f3 : Spt → Option V} {h1 h2 h3 : Hp} (x : UF bL bU f1 f2 h1 h2) (y : UF bL bU f2 f3 h2 h3) : UF bL bU f1 f3 h1 h3 := by
 have a := x.n
 have b := y.n
 refine ⟨by omega, fun c hc e1 e2 hn => ?_, fun m v c hm hv => ?_⟩
 ·rw [y.keep c (by omega) e1 e2 fun m v hm hv => ?_, x.keep c hc e1 e2 hn]
  rcases x.new m v c hm hv with ⟨m', v', h1, h2⟩ | h
  ·exact hn m' v' h1 h2
  ·omega
 ·rcases y.new m v c hm hv with ⟨m', v', h1, h2⟩ | h
  ·exact x.new m' v' c h1 h2
  ·exact .inr (by omega)
theorem UMap.keep {N bU : Nat} {h h' : Hp} {f : Spt → Option V} {us : Spt → List Spt} (U : UMap N h bU f us) (hn : h.n ≤ h'.n) (hb : h'.t.get bU = h.t.get bU) (hk : ∀ m v c, f m = some v → blkOf v = some c → h'.t.get c = h.t.get c) : UMap N h' bU f us :=
 ⟨U.map.keep hb, U.nones, fun m v hm => (U.ats m v hm).keep hn fun c hc => hk m v c hm hc, U.sep⟩
theorem UMap.congr {N bU : Nat} {h : Hp} {f : Spt → Option V} {us us' : Spt → List Spt} (U : UMap N h bU f us) (e : ∀ n, us n = us' n) : UMap N h bU f us' := by
 have : us = us' := funext e
 subst this; exact U
theorem users_add {N bU bL : Nat} {h : Hp} {f : Spt → Option V} {us : Spt → List Spt} (U : UMap N h bU f us) (hb : bU < N) (hN : N ≤ h.n) (n s : Spt) (hlen : (us n).length + 1 ≤ 1048576) {q : Hp → Prop}
  (hq : ∀ h' f', UMap N h' bU f' (addU us n s) → UF bL bU f f' h h' → Ext (min N bU) h h' → (∀ c, c < N → c ≠ bU → h'.t.get c = h.t.get c) → q h') :
  (Pu EE).bsl h 32 1 [(0, spV s)] fun x22 h23 _ => (Pu EE).mape h23 57 (.mp bU) (spV n) fun x25 h26 => (Pu EE).extr x25 0 fun x27 =>
   (Pu EE).ebui h26 #[32, 32] .append [x27, x22] fun x28 h29 => (Pu EE).extr x25 1 fun x30 => (Pu EE).ests h29 (.mp bU) x30 x28 q := by
 rw [pu_lit1 s_sl_api_Spot l_api_Spot _ rfl (by omega)]
 obtain ⟨hA, hhA⟩ : ∃ hA, hA = h.new (.cells (spC s) 42 false) := ⟨_, rfl⟩
 have wA : New h hA h.n (.cells (spC s) 42 false) := by rw [hhA]; exact New.mk' _ _
 have oA : Own h.n hA (.sl h.n 0 1 1) 42 3 1 (spC s) := by rw [hhA]; exact rd_lit rfl
 show (Pu EE).mape (h.new (.cells (spC s) 42 false)) _ _ _ _
 rw [← hhA]
 have nA := wA.n
 have mA : MapFn spV hA bU f := U.map.keep (wA.old bU (by omega))
 obtain ⟨nb, v, h1, hv, n1, k1, g1, g2⟩ := pu_mapeX m_users k_spot mA n z_users
 rw [g1, pu_extr0]
 have hV : ∀ c, blkOf v = some c → ∃ w, f n = some w ∧ blkOf w = some c := fun c hc => by
  cases hf : f n with
  | none => rw [hv, hf] at hc; cases hc
  | some w => rw [hv, hf] at hc; exact ⟨w, rfl, hc⟩
 have o1 : OwnS N h1 v (us n) := by
  cases hf : f n with
  | none => rw [hv, hf, U.nones n hf]; exact OwnS.nil _ _
  | some w =>
   have o := U.ats n w hf
   rw [hv, hf]
   refine o.keep (by omega) fun c hc => ?_
   have := o.ge c hc
   have := o.in_ c hc
   rw [k1 c (by omega), wA.old c (by omega)]
 have oA1 : Own h.n h1 (.sl h.n 0 1 1) 42 3 1 (spC s) := oA.keep (by omega) fun c hc => by cases hc; rw [k1 _ (by omega)]
 obtain ⟨v', h', a1, a2, a3, a4, a5⟩ := own_append (ts := #[32, 32]) o1 rfl rfl s_sl_api_Spot noIntS l_api_Spot (elems_rd oA1.rd).1 (fun e => by cases e) rfl hlen (by omega)
 rw [a1, pu_extr1]
 have hvb : blkOf v ≠ some bU := fun e => by have := o1.ge _ e; omega
 have n3 := a3.n
 refine g2 h' (a4 bU (by omega) hvb) _ _ _ fun h3 bl w3 m3 => ?_
 have n4 := w3.n
 have chain : ∀ c, c < h.n → c ≠ bU → blkOf v ≠ some c → h3.t.get c = h.t.get c := fun c h1 h2 h3 => by
  rw [w3.other c h2, a4 c (by omega) h3, k1 c h2, wA.old c h1]
 refine hq h3 (updF f n v') ⟨m3, fun m hm => ?_, fun m w hm => ?_, fun m1 m2 u w c e1 e2 c1 c2 => ?_⟩ ⟨by omega, fun c hc _ e2 hn => ?_, fun m w c hm hc => ?_⟩ ⟨by omega, fun c hc => ?_⟩ (fun c hc e => ?_)
 ·unfold updF at hm
  unfold addU
  split at hm
  ·cases hm
  ·rename_i e; rw [if_neg e]; exact U.nones m hm
 ·unfold updF at hm
  unfold addU
  split at hm
  ·rename_i e
   subst e
   cases hm
   rw [if_pos rfl]
   have e : spCs (us m ++ [s]) = spCs (us m) ++ spC s := by rw [spCs_app]; simp [spCs]
   show Own _ _ _ _ _ (us m ++ [s]).length _
   rw [List.length_append, e]
   exact a2.keep (by omega) fun c hc => by
    have := a2.ge c hc
    rw [w3.other c (by omega)]
  ·rename_i e
   rw [if_neg e]
   have o := U.ats m w hm
   refine o.keep (by omega) fun c hc => ?_
   have g1 := o.ge c hc
   have g2 := o.in_ c hc
   refine chain c g2 (by omega) fun hvc => ?_
   obtain ⟨w0, k1, k2⟩ := hV c hvc
   exact e (U.sep m n w w0 c hm k1 hc k2)
 ·unfold updF at e1 e2
  by_cases q1 : m1 = n
  ·by_cases q2 : m2 = n
   ·rw [q1, q2]
   ·rw [if_pos q1] at e1
    rw [if_neg q2] at e2
    cases e1
    rcases a5 c c1 with k | k
    ·obtain ⟨w0, k1, k2⟩ := hV c k
     exact absurd (U.sep m2 n w w0 c e2 k1 c2 k2) q2
    ·have := (U.ats m2 w e2).in_ c c2; omega
  ·by_cases q2 : m2 = n
   ·rw [if_neg q1] at e1
    rw [if_pos q2] at e2
    cases e2
    rcases a5 c c2 with k | k
    ·obtain ⟨w0, k1, k2⟩ := hV c k
     exact absurd (U.sep m1 n u w0 c e1 k1 c1 k2) q1
    ·have := (U.ats m1 u e1).in_ c c1; omega
   ·rw [if_neg q1] at e1
    rw [if_neg q2] at e2
    exact U.sep m1 m2 u w c e1 e2 c1 c2
 ·refine chain c hc e2 fun k => ?_
  obtain ⟨w0, k1, k2⟩ := hV c k
  exact hn n w0 k1 k2
 ·unfold updF at hm
  split at hm
  ·cases hm
   rcases a5 c hc with k | k
   ·obtain ⟨w0, k1, k2⟩ := hV c k
    exact .inl ⟨n, w0, k1, k2⟩
   ·exact .inr (by omega)
  ·exact .inl ⟨m, w, hm, hc⟩
 ·refine chain c (by omega) (by omega) fun k => ?_
  have := o1.ge c k; omega
 ·refine chain c (by omega) e fun k => ?_
  have := o1.ge c k; omega
end
end Go.Proofs.YtbchdlelmkmagaaGreatDoor.VM
namespace Go.Proofs.YtbchdlelmkmagaaGreatDoor.VM
open Go
set_option linter.unusedVariables false
set_option linter.unusedSectionVars false
set_option linter.unusedSimpArgs false
set_option maxRecDepth 20000
noncomputable section
attribute [local instance] syZ
theorem pu_gval_u (w : Bool) (f : (V → Prop) → Prop) (k : V → Prop) : (Pu EE).gval undefV w f k ↔ k undefV := by
 show (∃ c, wantV undefV w = some c ∧ (c = true → f k) ∧ (c = false → k undefV)) ↔ _
 simp [wantV, undefV]
theorem pu_gchk_u (w : Bool) (f : Prop → Prop) (k : Prop) : (Pu EE).gchk undefV w f k ↔ k := by
 show (∃ c, wantV undefV w = some c ∧ (c = true → f k) ∧ (c = false → k)) ↔ _
 simp [wantV, undefV]
theorem pu_beql (cx cy : Bool) (a b : Bool) (q : V → Prop) : (Pu EE).bin .eql 4 cx cy (.bool a) (.bool b) q ↔ q (.bool (a == b)) := by
 show (∃ v, vbinB EE .eql 4 cx cy (.bool a) (.bool b) = some v ∧ q v) ↔ _
 have : vbinB EE .eql 4 cx cy (.bool a) (.bool b) = some (.bool (a == b)) := by cases a <;> cases b <;> cases cx <;> cases cy <;> kernel_rfl
 rw [this, ex_some]
theorem same_str (s : List Nat) (k : Prop) : (Pu EE).same (.str s) (.str s) k ↔ k := by
 show (sameV _ _ = true ∧ k) ↔ k
 have : sameV (.str s) (.str s) = true := by simp [sameV, same1, seq_dec]
 simp [this]
theorem same_val (a : Vl) (k : Prop) : (Pu EE).same (valV a) (valV a) k ↔ k := by
 show (sameV _ _ = true ∧ k) ↔ k
 have : sameV (valV a) (valV a) = true := by
  show sameL (vlC a) (vlC a) = true
  simp [vlC, sameL, same1, keq_refl, ieq_dec, seq_dec]
 simp [this]
def icmpJ (a b : Int) : Int := if a < b then -1 else if b < a then 1 else 0
theorem nanJ (a : Int) (h : Hp) : Ans EE 206 [.int .i64 a] h fun x h' => x = .bool false ∧ h' = h := by
 apply a_cmp_isNaN_int
 unfold t_cmp_isNaN_int_0
 rw [pu_neq]
 exact ⟨by simp, rfl⟩
theorem cmpJ_ok (a b : Int) (h : Hp) : Ans EE 145 [.int .i64 a, .int .i64 b] h fun x h' => x = .int .i64 (icmpJ a b) ∧ h' = h := by
 apply a_cmp_Compare_int
 unfold t_cmp_Compare_int_0
 refine (nanJ a h).mono ?_
 rintro x h1 ⟨rfl, rfl⟩
 refine (nanJ b h1).mono ?_
 rintro x h2 ⟨rfl, rfl⟩
 rw [pu_cond_f, pu_cond_f, pu_lss, pu_cond_d]
 unfold icmpJ
 refine ⟨fun e => ⟨by rw [if_pos e], rfl⟩, fun e => ?_⟩
 rw [pu_gtr, pu_cond_d, if_neg e]
 exact ⟨fun e2 => ⟨by rw [if_pos e2], rfl⟩, fun e2 => ⟨by rw [if_neg e2], rfl⟩⟩
def likeV (v o : Vl) : Vl := if v.k = 0 then ⟨o.k, 0, []⟩ else v
theorem like_ok (v o : Vl) (h : Hp) : Ans EE 238 [valV v, valV o] h fun x h' => x = valV (likeV v o) ∧ Ext h.n h h' := by
 apply a_val_like
 unfold t_val_like_0
 refine boxVal v fun h1 b1 w1 => ?_
 refine boxVal o fun h2 b2 w2 => ?_
 refine pu_allocX l_api_Val fun h3 b3 w3 => ?_
 have n1 := w1.n
 have n2 := w2.n
 have n3 := w3.n
 have e1 := w1.b
 have e2 := w2.b
 have g1 : h3.t.get b1 = some (.cells (vlC v) 48 false) := by rw [w3.old b1 (by omega), w2.old b1 (by omega)]; exact w1.at_
 have g2 : h3.t.get b2 = some (.cells (vlC o) 48 false) := by rw [w3.old b2 (by omega)]; exact w2.at_
 have X : Ext h.n h h2 := (w1.ext (Nat.le_refl _)).trans (w2.ext (by omega))
 rw [fa_api_Val_0, pu_load1 l_int g1 rfl, eqlK _ 0 0 rfl, pu_cond_d]
 unfold likeV
 refine ⟨fun hk => ?_, fun hk => ?_⟩
 ·rw [fa_api_Val_0, pu_load1 l_int g2 rfl, pu_build so_api_Val _ (fun p hp => by
   simp only [List.mem_cons, List.not_mem_nil, or_false] at hp
   rcases hp with rfl; exact c1_int _ _) rfl, if_pos hk]
  exact outV ⟨o.k, 0, []⟩ w3 fun h' x => ⟨rfl, X.trans (x.mono (by omega))⟩
 ·rw [pu_loadS l_api_Val g1 (l := vlC v) rfl, if_neg hk]
  exact outV v w3 fun h' x => ⟨rfl, X.trans (x.mono (by omega))⟩
def cmpV (a b : Vl) : Int := orZ [icmpJ (likeV a b).k (likeV b a).k, icmpJ (likeV a b).n (likeV b a).n, scmpZ (likeV a b).s (likeV b a).s]
theorem vcmp_ok (a b : Vl) (h : Hp) : Ans EE 165 [valV a, valV b] h fun x h' => x = .int .i64 (cmpV a b) ∧ Ext h.n h h' := by
 apply a_val_Cmp
 unfold t_val_Cmp_0
 refine boxVal a fun h1 b1 w1 => ?_
 refine boxVal b fun h2 b2 w2 => ?_
 have n1 := w1.n
 have n2 := w2.n
 have e1 := w1.b
 have e2 := w2.b
 have g1 : h2.t.get b1 = some (.cells (vlC a) 48 false) := by rw [w2.old b1 (by omega)]; exact w1.at_
 have X2 : Ext h.n h h2 := (w1.ext (Nat.le_refl _)).trans (w2.ext (by omega))
 rw [pu_loadS l_api_Val g1 (l := vlC a) rfl, pu_loadS l_api_Val w2.at_ (l := vlC b) rfl, pu_loadS l_api_Val w2.at_ (l := vlC b) rfl, pu_loadS l_api_Val g1 (l := vlC a) rfl]
 refine (like_ok a b h2).mono ?_
 rintro x h3 ⟨rfl, x3⟩
 have n3 := x3.n
 have g13 : h3.t.get b1 = some (.cells (vlC a) 48 false) := by rw [x3.old b1 (by omega)]; exact g1
 have g23 : h3.t.get b2 = some (.cells (vlC b) 48 false) := by rw [x3.old b2 (by omega)]; exact w2.at_
 rw [pu_loadS l_api_Val g13 (l := vlC a) rfl]
 show (Pu EE).same (valV a) (valV a) _
 rw [same_val, pu_loadS l_api_Val g23 (l := vlC b) rfl]
 show (Pu EE).same (valV b) (valV b) _
 rw [same_val]
 refine (like_ok b a h3).mono ?_
 rintro x h4 ⟨rfl, x4⟩
 have n4 := x4.n
 have X4 := (X2.trans (x3.mono (by omega))).trans (x4.mono (by omega))
 have hs : ∀ (u v : Vl), spl (vlC u) 0 (vlC v) = some (vlC v) := fun u v => by simp [vlC, spl]
 refine pu_storeX l_api_Val (by rw [x4.old b1 (by omega)]; exact g13) (x := valV (likeV a b)) rfl rfl (hs _ _) fun h5 w5 => ?_
 have n5 := w5.n
 refine pu_storeX l_api_Val (by rw [w5.other b2 (by omega), x4.old b2 (by omega)]; exact g23) (x := valV (likeV b a)) rfl rfl (hs _ _) fun h6 w6 => ?_
 have n6 := w6.n
 have k1 : h6.t.get b1 = some (.cells (vlC (likeV a b)) 48 false) := by rw [w6.other b1 (by omega)]; exact w5.at_
 have k2 := w6.at_
 rw [fa_api_Val_0, pu_load1 l_int k1 rfl, fa_api_Val_0, pu_load1 l_int k2 rfl, fa_api_Val_1, pu_load1 l_int k1 rfl, fa_api_Val_1, pu_load1 l_int k2 rfl, fa_api_Val_2, pu_load1 l_string k1 rfl, fa_api_Val_2, pu_load1 l_string k2 rfl]
 refine (cmpJ_ok _ _ h6).mono ?_
 rintro x h7 ⟨rfl, rfl⟩
 rw [pu_load1 l_string k2 rfl, same_str, pu_load1 l_string k1 rfl, same_str, pu_load1 l_int k2 rfl, same_int, pu_load1 l_int k1 rfl, same_int]
 refine (cmpJ_ok _ _ h7).mono ?_
 rintro x h8 ⟨rfl, rfl⟩
 rw [pu_load1 l_string k2 rfl, same_str, pu_load1 l_string k1 rfl, same_str]
 refine (cmpS_ok _ _ h8).mono ?_
 rintro x h9 ⟨rfl, rfl⟩
 refine pu_bslX s_sl_int l_int _ (fun p hp => by
  simp only [List.mem_cons, List.not_mem_nil, or_false] at hp
  rcases hp with rfl | rfl | rfl <;> exact c1_int _ _) rfl (by omega) fun h10 b10 w10 => ?_
 have n10 := w10.n
 refine (or_ok h10 _ [icmpJ (likeV a b).k (likeV b a).k, icmpJ (likeV a b).n (likeV b a).n, scmpZ (likeV a b).s (likeV b a).s] ⟨rfl, .inr ⟨b10, 0, _, rdCells_of w10.at_, rfl, .inl ⟨3, rfl⟩⟩⟩ (by simp)).mono ?_
 rintro x h11 ⟨rfl, rfl⟩
 refine ⟨rfl, by omega, fun c hc => ?_⟩
 rw [w10.old c (by omega), w6.other c (by omega), w5.other c (by omega), X4.old c hc]
theorem icmp_lt {a b : Int} (h : a < b) : icmpJ a b = -1 := by unfold icmpJ; rw [if_pos h]
theorem icmp_gt {a b : Int} (h : b < a) : icmpJ a b = 1 := by unfold icmpJ; rw [if_neg (by omega), if_pos h]
theorem icmp_eq {a b : Int} (h : a = b) : icmpJ a b = 0 := by unfold icmpJ; rw [if_neg (by omega), if_neg (by omega)]
theorem cmp_gt {a b : Vl} (ma : MayV a) (mb : MayV b) : decide (0 < cmpV a b) = gtV a b := by
 have ha : (likeV a b).k = (if a.k = 0 then b.k else a.k) ∧ (likeV a b).n = a.n ∧ (likeV a b).s = a.s := by
  unfold likeV
  split
  ·rename_i h
   exact ⟨rfl, (ma.n (by omega) (by omega) (by omega)).symm, (ma.s (by omega)).symm⟩
  ·exact ⟨rfl, rfl, rfl⟩
 have hb : (likeV b a).k = (if b.k = 0 then a.k else b.k) ∧ (likeV b a).n = b.n ∧ (likeV b a).s = b.s := by
  unfold likeV
  split
  ·rename_i h
   exact ⟨rfl, (mb.n (by omega) (by omega) (by omega)).symm, (mb.s (by omega)).symm⟩
  ·exact ⟨rfl, rfl, rfl⟩
 unfold cmpV gtV
 rw [ha.1, ha.2.1, ha.2.2, hb.1, hb.2.1, hb.2.2]
 generalize (if a.k = 0 then b.k else a.k) = ka
 generalize (if b.k = 0 then a.k else b.k) = kb
 simp only [orZ]
 rcases (by omega : ka < kb ∨ ka = kb ∨ kb < ka) with h | h | h
 ·rw [icmp_lt (by omega : (ka : Int) < kb)]
  simp; omega
 ·rw [icmp_eq (by omega : (ka : Int) = kb)]
  rcases (by omega : a.n < b.n ∨ a.n = b.n ∨ b.n < a.n) with k | k | k
  ·rw [icmp_lt k]
   simp [h]; omega
  ·rw [icmp_eq k]
   subst h
   simp only [k, if_true, decide_true, Bool.true_and, Nat.lt_irrefl, decide_false, Bool.false_or, Int.lt_irrefl]
   rcases slt_tri a.s b.s with q | q | q
   ·have : slt b.s a.s = false := slt_asym q
    unfold scmpZ
    rw [q, this]; rfl
   ·unfold scmpZ
    rw [q, slt_irr]; rfl
   ·have : slt a.s b.s = false := slt_asym q
    unfold scmpZ
    rw [q, this]; rfl
  ·rw [icmp_gt k]
   simp [h, k]
 ·rw [icmp_gt (by omega : (kb : Int) < ka)]
  simp [h]
end
end Go.Proofs.YtbchdlelmkmagaaGreatDoor.VM
namespace Go.Proofs.YtbchdlelmkmagaaGreatDoor.VM
open Go
set_option linter.unusedVariables false
set_option linter.unusedSectionVars false
set_option linter.unusedSimpArgs false
set_option maxRecDepth 20000
noncomputable section
attribute [local instance] syZ
theorem wrap_def (z : Int) : IntKind.i64.wrap z = (z + 9223372036854775808) % 18446744073709551616 - 9223372036854775808 := by
 unfold IntKind.wrap
 simp [IntKind.bits, IntKind.signed]
 omega
theorem add_fit {x y : Int} (hx : Fit64 x) (hy : Fit64 y) : (decide (x < IntKind.i64.wrap (x + y)) == decide (0 < y)) = decide (Fit64 (x + y)) ∧ (Fit64 (x + y) → IntKind.i64.wrap (x + y) = x + y) := by
 refine ⟨?_, fun h => by unfold Fit64 at *; rw [wrap_def]; omega⟩
 rw [Bool.eq_iff_iff, beq_iff_eq, decide_eq_true_iff, decide_eq_decide, wrap_def]
 unfold Fit64 at *
 omega
theorem dbl_fit {x : Int} (hx : Fit64 x) : (Fit64 (x * 2) ↔ (IntKind.i64.wrap (x * 2)).tdiv 2 = x) ∧ (Fit64 (x * 2) → IntKind.i64.wrap (x * 2) = x * 2) := by
 unfold Fit64 at *
 rw [wrap_def]
 refine ⟨?_, fun h => by omega⟩
 constructor
 ·intro h
  have : (x * 2 + 9223372036854775808) % 18446744073709551616 - 9223372036854775808 = x * 2 := by omega
  rw [this]
  exact Int.mul_tdiv_cancel x (by decide)
 ·intro h
  have h1 := Int.mul_tdiv_add_tmod ((x * 2 + 9223372036854775808) % 18446744073709551616 - 9223372036854775808) 2
  rw [h] at h1
  have h2 := Int.tmod_lt_of_pos ((x * 2 + 9223372036854775808) % 18446744073709551616 - 9223372036854775808) (b := 2) (by omega)
  have h3 : -2 < Int.tmod ((x * 2 + 9223372036854775808) % 18446744073709551616 - 9223372036854775808) 2 := by
   have := Int.lt_tmod_of_pos ((x * 2 + 9223372036854775808) % 18446744073709551616 - 9223372036854775808) (b := 2) (by omega)
   omega
  omega
def numB (x y : Int) : V := .agg [.int .i64 x, .int .i64 y]
theorem boxNum (x y : Int) {h : Hp} {q : V → Hp → Blk → Prop} (hq : ∀ h1 b, New h h1 b (.cells [.int .i64 x, .int .i64 y] 235 false) → q (.ptr b 0) h1 (.cells [.int .i64 x, .int .i64 y] 235 false)) : (Pu EE).box h 235 (numB x y) q := pu_boxX (cs := [.int .i64 x, .int .i64 y]) rfl hq
theorem nadd_ok {x y : Int} (hx : Fit64 x) (hy : Fit64 y) (h : Hp) : Ans EE 234 [numB x y] h fun r h' => (∃ z, r = .tup [.int .i64 z, .bool (decide (Fit64 (x + y)))] ∧ (Fit64 (x + y) → z = x + y)) ∧ Ext h.n h h' := by
 apply a_val_number_add
 unfold t_val_number_add_0
 refine boxNum x y fun h1 b w => ?_
 obtain ⟨f1, f2⟩ := add_fit hx hy
 rw [fa_val_number_0, pu_load1 l_int w.at_ rfl, fa_val_number_1, pu_load1 l_int w.at_ rfl, pu_add, fa_val_number_0, pu_load1 l_int w.at_ rfl, pu_gtr, fa_val_number_1, pu_load1 l_int w.at_ rfl, pu_gtr, pu_beql, pu_load1 l_int w.at_ rfl, same_int, pu_load1 l_int w.at_ rfl, same_int, f1]
 exact ⟨⟨_, rfl, f2⟩, w.ext (Nat.le_refl _)⟩
theorem nmul_ok {x : Int} (hx : Fit64 x) (h : Hp) : Ans EE 236 [numB x 2] h fun r h' => (∃ z, r = .tup [.int .i64 z, .bool (decide (Fit64 (x * 2)))] ∧ (Fit64 (x * 2) → z = x * 2)) ∧ Ext h.n h h' := by
 apply a_val_number_mul
 unfold t_val_number_mul_0
 refine boxNum x 2 fun h1 b w => ?_
 have e := w.ext (Nat.le_refl _)
 obtain ⟨f1, f2⟩ := dbl_fit hx
 rw [fa_val_number_0, pu_load1 l_int w.at_ rfl, pu_eql]
 by_cases h0 : x = 0
 ·subst h0
  rw [decide_eq_true rfl]
  simp only [pu_gval_tf]
  rw [pu_pick_t, pu_cond_t]
  exact ⟨⟨0, rfl, fun _ => rfl⟩, e⟩
 ·rw [decide_eq_false h0]
  simp only [pu_gval_y]
  rw [fa_val_number_1, pu_load1 l_int w.at_ rfl, pu_eql, decide_eq_false (by decide : ¬ (2 : Int) = 0), pu_pick_f, pu_cond_f]
  rw [fa_val_number_0, pu_load1 l_int w.at_ rfl, fa_val_number_1, pu_load1 l_int w.at_ rfl, pu_mul, fa_val_number_1, pu_load1 l_int w.at_ rfl, pu_quo _ _ _ _ _ _ (by decide), fa_val_number_0, pu_load1 l_int w.at_ rfl, pu_eql]
  have hw : IntKind.i64.wrap ((IntKind.i64.wrap (x * 2)).tdiv 2) = (IntKind.i64.wrap (x * 2)).tdiv 2 := by
   have h1 : Fit64 ((IntKind.i64.wrap (x * 2)).tdiv 2) := by
    have h2 := Int.mul_tdiv_add_tmod (IntKind.i64.wrap (x * 2)) 2
    have h3 := Int.tmod_lt_of_pos (IntKind.i64.wrap (x * 2)) (b := 2) (by omega)
    have h4 := Int.lt_tmod_of_pos (IntKind.i64.wrap (x * 2)) (b := 2) (by omega)
    have h5 : Fit64 (IntKind.i64.wrap (x * 2)) := by rw [wrap_def]; unfold Fit64; omega
    unfold Fit64 at *
    omega
   rw [wrap_def ((IntKind.i64.wrap (x * 2)).tdiv 2)]
   unfold Fit64 at h1
   omega
  rw [hw]
  by_cases hf : Fit64 (x * 2)
  ·rw [decide_eq_true (f1.1 hf), decide_eq_true hf, f2 hf]
   simp only [pu_gval_y]
   rw [fa_val_number_0, pu_load1 l_int w.at_ rfl, pu_eql]
   by_cases hm : x = -1
   ·rw [decide_eq_true hm]
    simp only [pu_gval_y]
    rw [fa_val_number_1, pu_load1 l_int w.at_ rfl, pu_eql, decide_eq_false (by decide : ¬ (2 : Int) = -9223372036854775808), pu_pick_t, pu_not, Bool.not_false, pu_pick_t]
    simp only [pu_gval_y]
    rw [fa_val_number_1, pu_load1 l_int w.at_ rfl, pu_eql, decide_eq_false (by decide : ¬ (2 : Int) = -1)]
    simp only [pu_gval_ft]
    rw [pu_pick_f, pu_not, Bool.not_false, pu_pick_t, pu_gchk_ft]
    exact ⟨⟨_, rfl, fun _ => rfl⟩, e⟩
   ·rw [decide_eq_false hm]
    simp only [pu_gval_ft]
    rw [pu_pick_f, pu_not, Bool.not_false, pu_pick_t]
    simp only [pu_gval_y]
    rw [fa_val_number_1, pu_load1 l_int w.at_ rfl, pu_eql, decide_eq_false (by decide : ¬ (2 : Int) = -1)]
    simp only [pu_gval_ft]
    rw [pu_pick_f, pu_not, Bool.not_false, pu_pick_t, pu_gchk_ft]
    exact ⟨⟨_, rfl, fun _ => rfl⟩, e⟩
  ·rw [decide_eq_false (fun q => hf (f1.2 q)), decide_eq_false hf]
   simp only [pu_gval_ft, pu_gval_u]
   rw [pu_pick_f]
   simp only [pu_gval_ft, pu_gval_u]
   rw [pu_pick_f, pu_gchk_u]
   exact ⟨⟨_, rfl, fun q => absurd q hf⟩, e⟩
theorem ndiv_ok (h : Hp) : Ans EE 237 [numB 1 1] h fun r h' => r = .tup [.int .i64 1, .bool true] ∧ Ext h.n h h' := by
 apply a_val_number_div
 unfold t_val_number_div_0
 refine boxNum 1 1 fun h1 b w => ?_
 have e := w.ext (Nat.le_refl _)
 rw [fa_val_number_0, pu_load1 l_int w.at_ rfl, pu_eql, decide_eq_false (by decide : ¬ (1 : Int) = -9223372036854775808)]
 simp only [pu_gval_ft]
 rw [pu_pick_f, pu_cond_f, fa_val_number_0, pu_load1 l_int w.at_ rfl, fa_val_number_1, pu_load1 l_int w.at_ rfl, pu_quo _ _ _ _ _ _ (by decide)]
 exact ⟨rfl, e⟩
def keyI (z : Int) : V := .int .i64 z
theorem k_int : KeyOf EE 3 keyI := by
 obtain ⟨j, h1, h2⟩ := i_int
 refine ⟨j, h1, fun a b => ?_⟩
 unfold veqK keyI
 rw [h2]
 simp only [keq_refl, Bool.and_self, cond_true, ieq_dec]
theorem m_fns : IsMap EE 236 3 232 := isMap (by kernel_rfl)
def OpOK (k : Nat) (a b : Vl) : Prop := k = 16 ∨ (k = 18 ∧ b = vlN 2) ∨ (k = 19 ∧ a = vlN 1 ∧ (b = vlN 0 ∨ b = vlN 1))
def numsS (k : Nat) (a b : Vl) : Vl := match intV a, intV b with
 | some x, some y => if k = 16 then numS (x + y) else if k = 18 then numS (x * y) else if y = 0 then vlE 3 else vlN (x.tdiv y)
 | _, _ => vlE 1
theorem intV_fit {v : Vl} (m : MayV v) {x : Int} (h : intV v = some x) : Fit64 x := by
 unfold intV at h
 split at h
 ·cases h; exact m.f
 ·cases h
theorem numEnd {h h9 : Hp} {b3 : Nat} {cs : List V} (hb : h9.t.get b3 = some (.cells cs 48 false)) (hl : cs.length = 3) (h3 : h.n ≤ b3) (h3' : b3 < h9.n) (x9 : Ext h.n h h9) {f : Nat} {n : V} {r : Int} (H : Ans EE f [n] h9 fun y h' => (∃ z, y = .tup [.int .i64 z, .bool (decide (Fit64 r))] ∧ (Fit64 r → z = r)) ∧ Ext h9.n h9 h')
  {Q : V → Hp → Prop} (hq : ∀ h', Ext h.n h h' → Q (valV (numS r)) h') :
  (Pu EE).callv (.fn (.func f) [] []) [n] h9 fun x51 h52 => (Pu EE).extr x51 0 fun x53 => (Pu EE).extr x51 1 fun x54 => (Pu EE).un .not x54 fun x55 => (Pu EE).cond x55
   (fun _ => (Pu EE).call 18 [(.int .i64 2)] h52 fun x56 h57 => (Pu EE).store h57 48 (.ptr b3 0) x56 fun h58 => (Pu EE).load h58 48 (.ptr b3 0) fun x59 => Q x59 h58)
   (fun _ => (Pu EE).call 44 [x53] h52 fun x60 h61 => (Pu EE).store h61 48 (.ptr b3 0) x60 fun h62 => (Pu EE).load h62 48 (.ptr b3 0) fun x63 => Q x63 h62) := by
 refine pu_callv (H.mono ?_)
 rintro y h10 ⟨⟨z, rfl, hz⟩, x10⟩
 have n9 := x9.n
 have n10 := x10.n
 rw [pu_extr0, pu_extr1, pu_not]
 have fin : ∀ (h' : Hp) (v : Vl), v = numS r → Ext h10.n h10 h' → (Pu EE).store h' 48 (.ptr b3 0) (valV v) fun h58 => (Pu EE).load h58 48 (.ptr b3 0) fun x59 => Q x59 h58 := by
  intro h' v e x'
  subst e
  have n' := x'.n
  refine retV ((x'.old b3 (by omega)).trans ((x10.old b3 h3').trans hb)) hl _ fun h2 w => hq h2 ⟨by have := w.n; omega, fun c hc => ?_⟩
  rw [w.other c (by omega), x'.old c (by omega), x10.old c (by omega), x9.old c hc]
 by_cases hf : Fit64 r
 ·rw [decide_eq_true hf, Bool.not_true, pu_cond_f]
  refine (num_ok z h10).mono ?_
  rintro y h11 ⟨rfl, x11⟩
  exact fin h11 _ (by rw [numS, if_pos hf, hz hf]) x11
 ·rw [decide_eq_false hf, Bool.not_false, pu_cond_t]
  refine (err_ok 2 2 rfl h10).mono ?_
  rintro y h11 ⟨rfl, x11⟩
  exact fin h11 _ (by rw [numS, if_neg hf]) x11
theorem numbers_ok (k : Nat) (a b : Vl) (ma : MayV a) (mb : MayV b) (ho : OpOK k a b) (h : Hp) : Ans EE 163 [.int .i64 (k : Int), valV a, valV b] h fun x h' => x = valV (numsS k a b) ∧ Ext h.n h h' := by
 apply a_val_numbers
 unfold t_val_numbers_0
 refine boxVal a fun h1 b1 w1 => ?_
 refine boxVal b fun h2 b2 w2 => ?_
 refine pu_allocX l_api_Val fun h3 b3 w3 => ?_
 have n1 := w1.n
 have e1 := w1.b
 have n2 := w2.n
 have e2 := w2.b
 have n3 := w3.n
 have e3 := w3.b
 have hb1 : h3.t.get b1 = some (.cells (vlC a) 48 false) := by rw [w3.old b1 (by omega), w2.old b1 (by omega)]; exact w1.at_
 have hb2 : h3.t.get b2 = some (.cells (vlC b) 48 false) := by rw [w3.old b2 (by omega)]; exact w2.at_
 rw [pu_loadS l_api_Val hb1 (l := vlC a) rfl]
 refine (int_ok a ma h3).mono ?_
 rintro y h4 ⟨rfl, x4⟩
 have n4 := x4.n
 have hb2' : h4.t.get b2 = some (.cells (vlC b) 48 false) := by rw [x4.old b2 (by omega)]; exact hb2
 rw [pu_extr0, pu_extr1, pu_loadS l_api_Val hb2' (l := vlC b) rfl]
 refine (int_ok b mb h4).mono ?_
 rintro y h5 ⟨rfl, x5⟩
 have n5 := x5.n
 have hb3 : h5.t.get b3 = some (.cells [.int .i64 0, .int .i64 0, .str []] 48 false) := by rw [x5.old b3 (by omega), x4.old b3 (by omega)]; exact w3.at_
 have xh : Ext h.n h h5 := ⟨by omega, fun c hc => by rw [x5.old c (by omega), x4.old c (by omega), w3.old c (by omega), w2.old c (by omega), w1.old c (by omega)]⟩
 rw [pu_extr0, pu_extr1, pu_not]
 have fin : ∀ (h' : Hp) (v : Vl), v = numsS k a b → Ext h5.n h5 h' → (Pu EE).store h' 48 (.ptr b3 0) (valV v) fun h58 => (Pu EE).load h58 48 (.ptr b3 0) fun x59 => x59 = valV (numsS k a b) ∧ Ext h.n h h58 := by
  intro h' v e x'
  subst e
  have n' := x'.n
  refine retV ((x'.old b3 (by omega)).trans hb3) rfl _ fun h2 w => ⟨rfl, by have := w.n; omega, fun c hc => ?_⟩
  rw [w.other c (by omega), x'.old c (by omega), xh.old c hc]
 cases hx : intV a with
 | none =>
  simp only [Option.isSome_none, Bool.not_false, pu_gval_tf]
  rw [pu_pick_t, pu_cond_t]
  refine (err_ok 1 1 rfl h5).mono ?_
  rintro y h6 ⟨rfl, x6⟩
  exact fin h6 _ (by unfold numsS; rw [hx]) x6
 | some x =>
  simp only [Option.isSome_some, Bool.not_true, pu_gval_y, Option.getD_some]
  cases hy : intV b with
  | none =>
   simp only [Option.isSome_none, pu_not, Bool.not_false]
   rw [pu_pick_f, pu_cond_t]
   refine (err_ok 1 1 rfl h5).mono ?_
   rintro y h6 ⟨rfl, x6⟩
   exact fin h6 _ (by unfold numsS; rw [hx, hy]) x6
  | some y =>
   simp only [Option.isSome_some, pu_not, Bool.not_true, Option.getD_some]
   rw [pu_pick_f, pu_cond_f]
   have hk : k ≤ 19 := by rcases ho with h | h | h <;> omega
   have hk19 : decide (((k : Nat) : Int) = 19) = decide (k = 19) := by rw [decide_eq_decide]; omega
   rw [eqlK k 19 19 rfl]
   have tail : (¬ (k = 19 ∧ y = 0)) → (Pu EE).mkmap h5 true fun x42 h43 b44 =>
     (Pu EE).mapu h43 236 x42 (.int .i64 16) (.fn (.func 234) [] []) fun h45 =>
     (Pu EE).mapu h45 236 x42 (.int .i64 17) (.fn (.func 235) [] []) fun h46 =>
     (Pu EE).mapu h46 236 x42 (.int .i64 18) (.fn (.func 236) [] []) fun h47 =>
     (Pu EE).mapu h47 236 x42 (.int .i64 19) (.fn (.func 237) [] []) fun h48 =>
     (Pu EE).look h48 236 x42 (.int .i64 (k : Int)) false fun x49 =>
     (Pu EE).build 235 [(0, .int .i64 x), (1, .int .i64 y)] fun x50 =>
     (Pu EE).callv x49 [x50] h48 fun x51 h52 => (Pu EE).extr x51 0 fun x53 => (Pu EE).extr x51 1 fun x54 => (Pu EE).un .not x54 fun x55 => (Pu EE).cond x55
     (fun _ => (Pu EE).call 18 [(.int .i64 2)] h52 fun x56 h57 => (Pu EE).store h57 48 (.ptr b3 0) x56 fun h58 => (Pu EE).load h58 48 (.ptr b3 0) fun x59 => x59 = valV (numsS k a b) ∧ Ext h.n h h58)
     (fun _ => (Pu EE).call 44 [x53] h52 fun x60 h61 => (Pu EE).store h61 48 (.ptr b3 0) x60 fun h62 => (Pu EE).load h62 48 (.ptr b3 0) fun x63 => x63 = valV (numsS k a b) ∧ Ext h.n h h62) := by
    intro hnd
    refine pu_mkmapX fun h6 b6 w6 => ?_
    have n6 := w6.n
    have e6 := w6.b
    refine pu_mapu m_fns k_int (key := keyI) (k := 16) (MapFn.empty w6.at_) _ fun h7 bl7 w7 m7 => ?_
    refine pu_mapu m_fns k_int (key := keyI) (k := 17) m7 _ fun h8 bl8 w8 m8 => ?_
    refine pu_mapu m_fns k_int (key := keyI) (k := 18) m8 _ fun h9 bl9 w9 m9 => ?_
    refine pu_mapu m_fns k_int (key := keyI) (k := 19) m9 _ fun hA blA wA mA => ?_
    have n7 := w7.n
    have n8 := w8.n
    have n9 := w9.n
    have nA := wA.n
    have xA : Ext h5.n h5 hA := ⟨by omega, fun c hc => by rw [wA.other c (by omega), w9.other c (by omega), w8.other c (by omega), w7.other c (by omega), w6.old c (by omega)]⟩
    have hbA : hA.t.get b3 = some (.cells [.int .i64 0, .int .i64 0, .str []] 48 false) := (xA.old b3 (by omega)).trans hb3
    have xhA : Ext h.n h hA := ⟨by omega, fun c hc => by rw [xA.old c (by omega), xh.old c hc]⟩
    have hfx := intV_fit ma hx
    have hfy := intV_fit mb hy
    have bld : ∀ q : V → Prop, (Pu EE).build 235 [(0, .int .i64 x), (1, .int .i64 y)] q ↔ q (numB x y) := fun q => pu_build so_val_number _ (fun p hp => by
      simp only [List.mem_cons, List.not_mem_nil, or_false] at hp
      rcases hp with rfl | rfl <;> exact c1_int _ _) rfl q
    rcases ho with rfl | ⟨rfl, rfl⟩ | ⟨rfl, rfl, hb⟩
    ·show (Pu EE).look hA 236 (.mp b6) (keyI 16) false _
     rw [pu_look m_fns k_int mA 16 (v := .fn (.func 234) [] []) (by simp [updF]), bld]
     refine numEnd (h := h) (r := x + y) hbA rfl (by omega) (by omega) xhA (nadd_ok hfx hfy hA) fun h' x' => ⟨?_, x'⟩
     unfold numsS; rw [hx, hy]; rfl
    ·cases hy
     show (Pu EE).look hA 236 (.mp b6) (keyI 18) false _
     rw [pu_look m_fns k_int mA 18 (v := .fn (.func 236) [] []) (by simp [updF]), bld]
     refine numEnd (h := h) (r := x * 2) hbA rfl (by omega) (by omega) xhA (nmul_ok hfx hA) fun h' x' => ⟨?_, x'⟩
     unfold numsS; rw [hx]; rfl
    ·cases hx
     have hy1 : y = 1 := by
      rcases hb with rfl | rfl
      ·cases hy; exact absurd ⟨rfl, rfl⟩ hnd
      ·cases hy; rfl
     subst hy1
     show (Pu EE).look hA 236 (.mp b6) (keyI 19) false _
     rw [pu_look m_fns k_int mA 19 (v := .fn (.func 237) [] []) (by simp [updF]), bld]
     refine numEnd (h := h) (r := 1) hbA rfl (by omega) (by omega) xhA ((ndiv_ok hA).mono fun y h' q => ⟨⟨1, ?_, fun _ => rfl⟩, q.2⟩) fun h' x' => ⟨?_, x'⟩
     ·rw [q.1, decide_eq_true (by unfold Fit64; omega : Fit64 1)]
     ·unfold numsS; rw [hy]; rfl
   by_cases hk9 : k = 19
   ·rw [decide_eq_true hk9]
    simp only [pu_gval_y, pu_eql]
    rw [pu_pick_t]
    by_cases hy0 : y = 0
    ·rw [decide_eq_true hy0, pu_cond_t]
     refine (err_ok 3 3 rfl h5).mono ?_
     rintro z h6 ⟨rfl, x6⟩
     exact fin h6 _ (by unfold numsS; rw [hx, hy]; simp [hk9, hy0]) x6
    ·rw [decide_eq_false hy0, pu_cond_f]
     exact tail fun q => hy0 q.2
   ·rw [decide_eq_false hk9]
    simp only [pu_gval_ft]
    rw [pu_pick_f, pu_cond_f]
    exact tail fun q => hk9 q.1
end
end Go.Proofs.YtbchdlelmkmagaaGreatDoor.VM
namespace Go.Proofs.YtbchdlelmkmagaaGreatDoor.VM
open Go
set_option linter.unusedVariables false
set_option linter.unusedSectionVars false
set_option linter.unusedSimpArgs false
set_option maxRecDepth 20000
noncomputable section
attribute [local instance] syZ
theorem mayE {e : Nat} (h1 : 1 ≤ e) (h2 : e ≤ 6) : MayV (vlE e) := ⟨by simp [vlE], fun _ => rfl, fun _ h => absurd rfl h, fun h => (by cases h), fun _ => ⟨by show (1 : Int) ≤ (e : Int); omega, by show (e : Int) ≤ 6; omega⟩, by unfold Fit64; show -9223372036854775808 ≤ (e : Int) ∧ (e : Int) ≤ 9223372036854775807; omega, by simp [vlE], fun x h => (by cases h)⟩
theorem mayN {n : Int} (h : Fit64 n) : MayV (vlN n) := ⟨by simp [vlN], fun _ => rfl, fun h => absurd rfl h, fun h => (by cases h), fun h => (by cases h), h, by simp [vlN], fun x h => (by cases h)⟩
theorem may0 : MayV vl0 := ⟨by simp [vl0], fun _ => rfl, fun _ _ _ => rfl, fun h => (by cases h), fun h => (by cases h), (by unfold Fit64 vl0; simp), by simp [vl0], fun x h => (by cases h)⟩
theorem mayB (c : Bool) : MayV (vlB c) := ⟨by simp [vlB], fun _ => rfl, fun _ _ h => absurd rfl h, fun _ => (by cases c <;> simp [vlB]), fun h => (by cases h), (by cases c <;> simp [vlB, Fit64]), by simp [vlB], fun x h => (by cases h)⟩
theorem mayT {s : List Nat} (h : ∀ x ∈ s, x < 256) : MayV (vlT s) := by
 unfold vlT
 split
 ·rename_i hl
  exact ⟨by simp, fun h => absurd rfl h, fun _ _ _ => rfl, fun h => (by cases h), fun h => (by cases h), by simp [Fit64], hl, h⟩
 ·exact mayE (by omega) (by omega)
theorem mayS (z : Int) : MayV (numS z) := by
 unfold numS
 split
 ·rename_i h; exact mayN h
 ·exact mayE (by omega) (by omega)
theorem textV_lt {v : Vl} (m : MayV v) : ∀ x ∈ textV v, x < 256 := by
 unfold textV
 intro x hx
 split at hx
 ·unfold digL at hx
  obtain ⟨b, _, rfl⟩ := List.mem_map.1 hx
  exact b.toNat_lt
 ·split at hx
  ·exact m.c x hx
  ·split at hx
   ·split at hx <;> simp at hx <;> omega
   ·simp at hx
theorem textV_len {v : Vl} (m : MayV v) : (textV v).length ≤ 300 := by
 unfold textV
 split
 ·unfold digL; rw [List.length_map]; have := Lib.itoa_length_le v.n m.f.1 m.f.2; omega
 ·split
  ·have := m.l; omega
  ·split
   ·split <;> simp
   ·simp
theorem may_numsS {k : Nat} {a b : Vl} (ma : MayV a) (mb : MayV b) (ho : OpOK k a b) : MayV (numsS k a b) := by
 unfold numsS
 split
 ·rename_i x y hx hy
  rcases ho with rfl | ⟨rfl, rfl⟩ | ⟨rfl, rfl, hb⟩
  ·exact mayS _
  ·exact mayS _
  ·cases hx
   rcases hb with rfl | rfl <;> cases hy
   ·exact mayE (by omega) (by omega)
   ·exact mayN (n := 1) (by simp [Fit64])
 ·exact mayE (by omega) (by omega)
def TwoOK (k : Nat) (a b : Vl) : Prop := k = 13 ∨ k = 15 ∨ OpOK k a b
theorem twoS_num {k : Nat} {a b : Vl} (ho : OpOK k a b) (ha : a.k ≠ 4) (hb : b.k ≠ 4) : twoS k a b = numsS k a b := by
 unfold twoS numsS
 rw [if_neg ha, if_neg hb, if_neg (by rcases ho with h | h | h <;> omega), if_neg (by rcases ho with h | h | h <;> omega)]
 rfl
theorem may_two {k : Nat} {a b : Vl} (ma : MayV a) (mb : MayV b) (ho : TwoOK k a b) : MayV (twoS k a b) := by
 by_cases ha : a.k = 4
 ·unfold twoS; rw [if_pos ha]; exact ma
 by_cases hb : b.k = 4
 ·unfold twoS; rw [if_neg ha, if_pos hb]; exact mb
 rcases ho with rfl | rfl | ho
 ·unfold twoS; rw [if_neg ha, if_neg hb, if_neg (by decide), if_pos rfl]; exact mayB _
 ·unfold twoS; rw [if_neg ha, if_neg hb, if_pos rfl]
  exact mayT fun x hx => by
   rcases List.mem_append.1 hx with h | h
   ·exact textV_lt ma x h
   ·exact textV_lt mb x h
 ·rw [twoS_num ho ha hb]; exact may_numsS ma mb ho
theorem two_ok (k : Nat) (a b : Vl) (ma : MayV a) (mb : MayV b) (ho : TwoOK k a b) (h : Hp) : Ans EE 109 [.int .i64 (k : Int), valV a, valV b] h fun x h' => x = valV (twoS k a b) ∧ Ext h.n h h' := by
 apply a_val_Two
 unfold t_val_Two_0
 refine boxVal a fun h1 b1 w1 => ?_
 refine boxVal b fun h2 b2 w2 => ?_
 refine pu_allocX l_api_Val fun h3 b3 w3 => ?_
 have n1 := w1.n
 have e1 := w1.b
 have n2 := w2.n
 have e2 := w2.b
 have n3 := w3.n
 have e3 := w3.b
 have hb1 : h3.t.get b1 = some (.cells (vlC a) 48 false) := by rw [w3.old b1 (by omega), w2.old b1 (by omega)]; exact w1.at_
 have hb2 : h3.t.get b2 = some (.cells (vlC b) 48 false) := by rw [w3.old b2 (by omega)]; exact w2.at_
 have xh : Ext h.n h h3 := ⟨by omega, fun c hc => by rw [w3.old c (by omega), w2.old c (by omega), w1.old c (by omega)]⟩
 have fin : ∀ (h' : Hp) (v : Vl), v = twoS k a b → Ext h3.n h3 h' → (Pu EE).store h' 48 (.ptr b3 0) (valV v) fun h58 => (Pu EE).load h58 48 (.ptr b3 0) fun x59 => x59 = valV (twoS k a b) ∧ Ext h.n h h58 := by
  intro h' v e x'
  subst e
  have n' := x'.n
  refine retV ((x'.old b3 (by omega)).trans w3.at_) rfl _ fun h2 w => ⟨rfl, by have := w.n; omega, fun c hc => ?_⟩
  rw [w.other c (by omega), x'.old c (by omega), xh.old c hc]
 rw [fa_api_Val_0, pu_load1 l_int hb1 rfl, eqlK a.k 4 4 rfl]
 by_cases ha : a.k = 4
 ·rw [decide_eq_true ha, pu_cond_t, pu_loadS l_api_Val hb1 (l := vlC a) rfl]
  exact fin h3 a (by unfold twoS; rw [if_pos ha]) (Ext.refl _ _)
 rw [decide_eq_false ha, pu_cond_f, fa_api_Val_0, pu_load1 l_int hb2 rfl, eqlK b.k 4 4 rfl]
 by_cases hb : b.k = 4
 ·rw [decide_eq_true hb, pu_cond_t, pu_loadS l_api_Val hb2 (l := vlC b) rfl]
  exact fin h3 b (by unfold twoS; rw [if_neg ha, if_pos hb]) (Ext.refl _ _)
 rw [decide_eq_false hb, pu_cond_f]
 have num : OpOK k a b → L_val_Two_1 (fun x h' => x = valV (twoS k a b) ∧ Ext h.n h h') (.int .i64 (k : Int)) (.ptr b1 0) (.ptr b2 0) (.ptr b3 0) (.int .i64 (k : Int)) (.bool true) h3 := by
  intro hn
  apply r_val_Two_1
  unfold t_val_Two_1
  rw [pu_cond_t, pu_loadS l_api_Val hb1 (l := vlC a) rfl, pu_loadS l_api_Val hb2 (l := vlC b) rfl]
  refine (numbers_ok k a b ma mb hn h3).mono ?_
  rintro z h4 ⟨rfl, x4⟩
  exact fin h4 _ (twoS_num hn ha hb).symm x4
 rcases ho with rfl | rfl | ho
 ·rw [eqlK 13 16 16 rfl, decide_eq_false (by decide), pu_cond_f, eqlK 13 17 17 rfl, decide_eq_false (by decide), pu_cond_f, eqlK 13 18 18 rfl, decide_eq_false (by decide), pu_cond_f, eqlK 13 19 19 rfl, decide_eq_false (by decide)]
  apply r_val_Two_1
  unfold t_val_Two_1
  rw [pu_cond_f, eqlK 13 15 15 rfl, decide_eq_false (by decide), pu_cond_f, eqlK 13 9 9 rfl, decide_eq_false (by decide), pu_cond_f, eqlK 13 10 10 rfl, decide_eq_false (by decide), pu_cond_f, eqlK 13 11 11 rfl, decide_eq_false (by decide), pu_cond_f, eqlK 13 12 12 rfl, decide_eq_false (by decide), pu_cond_f, eqlK 13 13 13 rfl, decide_eq_true rfl, pu_cond_t, pu_loadS l_api_Val hb1 (l := vlC a) rfl, pu_loadS l_api_Val hb2 (l := vlC b) rfl]
  refine (vcmp_ok a b h3).mono ?_
  rintro z h4 ⟨rfl, x4⟩
  rw [pu_gtr, cmp_gt ma mb]
  refine (bool_ok _ h4).mono ?_
  rintro z h5 ⟨rfl, x5⟩
  exact fin h5 _ (by unfold twoS; rw [if_neg ha, if_neg hb, if_neg (by decide), if_pos rfl]) (x4.trans (x5.mono x4.n))
 ·rw [eqlK 15 16 16 rfl, decide_eq_false (by decide), pu_cond_f, eqlK 15 17 17 rfl, decide_eq_false (by decide), pu_cond_f, eqlK 15 18 18 rfl, decide_eq_false (by decide), pu_cond_f, eqlK 15 19 19 rfl, decide_eq_false (by decide)]
  apply r_val_Two_1
  unfold t_val_Two_1
  rw [pu_cond_f, eqlK 15 15 15 rfl, decide_eq_true rfl, pu_cond_t, pu_loadS l_api_Val hb1 (l := vlC a) rfl, pu_loadS l_api_Val hb2 (l := vlC b) rfl]
  refine (textS_ok a ma ha h3).mono ?_
  rintro z h4 ⟨rfl, x4⟩
  have hb2' : h4.t.get b2 = some (.cells (vlC b) 48 false) := by rw [x4.old b2 (by omega)]; exact hb2
  rw [pu_loadS l_api_Val hb2' (l := vlC b) rfl]
  show (Pu EE).same (valV b) (valV b) _
  rw [same_val]
  refine (textS_ok b mb hb h4).mono ?_
  rintro z h5 ⟨rfl, x5⟩
  have x35 := x4.trans (x5.mono x4.n)
  rw [pu_sadd _ _ _ _ _ (by have := textV_len ma; have := textV_len mb; omega)]
  refine (str_ok _ h5).mono ?_
  rintro z h6 ⟨rfl, x6⟩
  exact fin h6 _ (by unfold twoS; rw [if_neg ha, if_neg hb, if_pos rfl]) (x35.trans (x6.mono x35.n))
 ·rcases ho with rfl | ⟨rfl, rfl⟩ | ⟨rfl, rfl, hb'⟩
  ·rw [eqlK 16 16 16 rfl, decide_eq_true rfl, pu_cond_t]
   exact num (.inl rfl)
  ·rw [eqlK 18 16 16 rfl, decide_eq_false (by decide), pu_cond_f, eqlK 18 17 17 rfl, decide_eq_false (by decide), pu_cond_f, eqlK 18 18 18 rfl, decide_eq_true rfl, pu_cond_t]
   exact num (.inr (.inl ⟨rfl, rfl⟩))
  ·rw [eqlK 19 16 16 rfl, decide_eq_false (by decide), pu_cond_f, eqlK 19 17 17 rfl, decide_eq_false (by decide), pu_cond_f, eqlK 19 18 18 rfl, decide_eq_false (by decide), pu_cond_f, eqlK 19 19 19 rfl, decide_eq_true rfl]
   exact num (.inr (.inr ⟨rfl, rfl, hb'⟩))
end
end Go.Proofs.YtbchdlelmkmagaaGreatDoor.VM
namespace Go.Proofs.YtbchdlelmkmagaaGreatDoor.VM
open Go
noncomputable section
theorem l_fun_call : El EE 189 1 [.nils] true := el_of (by kernel_rfl) rfl
theorem fa_fun_call_0 (b o : Nat) (q : V → Prop) : (Pu EE).faddr 189 (.ptr b o) 0 q ↔ q (.ptr b (o + 0)) := fa_of (by kernel_rfl) q
theorem so_fun_call : StructOf EE 189 [(0, 1)] [.nils] := structOf (by kernel_rfl)
theorem l_fun_rule : El EE 192 5 [.int .i64 0, .int .i64 0, .bool false, .bool false, .nilf] true := el_of (by kernel_rfl) rfl
theorem fa_fun_rule_0 (b o : Nat) (q : V → Prop) : (Pu EE).faddr 192 (.ptr b o) 0 q ↔ q (.ptr b (o + 0)) := fa_of (by kernel_rfl) q
theorem fa_fun_rule_1 (b o : Nat) (q : V → Prop) : (Pu EE).faddr 192 (.ptr b o) 1 q ↔ q (.ptr b (o + 1)) := fa_of (by kernel_rfl) q
theorem fa_fun_rule_2 (b o : Nat) (q : V → Prop) : (Pu EE).faddr 192 (.ptr b o) 2 q ↔ q (.ptr b (o + 2)) := fa_of (by kernel_rfl) q
theorem fa_fun_rule_3 (b o : Nat) (q : V → Prop) : (Pu EE).faddr 192 (.ptr b o) 3 q ↔ q (.ptr b (o + 3)) := fa_of (by kernel_rfl) q
theorem l_func_api_Val : El EE 190 1 [.nilf] false := el_of (by kernel_rfl) rfl
theorem fa_fun_rule_4 (b o : Nat) (q : V → Prop) : (Pu EE).faddr 192 (.ptr b o) 4 q ↔ q (.ptr b (o + 4)) := fa_of (by kernel_rfl) q
theorem so_fun_rule : StructOf EE 192 [(0, 1), (1, 1), (2, 1), (3, 1), (4, 1)] [.int .i64 0, .int .i64 0, .bool false, .bool false, .nilf] := structOf (by kernel_rfl)
end
end Go.Proofs.YtbchdlelmkmagaaGreatDoor.VM
namespace Go.Proofs.YtbchdlelmkmagaaGreatDoor.VM
open Go
set_option linter.unusedVariables false
set_option maxRecDepth 100000
noncomputable section
noncomputable def c_fun_Call : Code := match Tryz.f107.body with | some c => c | none => .skip
noncomputable def F_fun_Call : Fl := ⟨Tryz.f107, c_fun_Call, [([false, true, false, true, true, true, true], [1, 4, 6, 40, 41, 42]), ([false, true, false, true, false, true, true, true, true, true], [4, 6, 68, 69, 70]), ([false, true, true, false, false, true, true, false, false, true, false, true, false, true, true, true, true, true], [4, 6, 68, 69, 70, 75, 76, 77])]⟩
abbrev L_fun_Call_1 (Q : QQ) (v1 v4 v6 v40 v41 v42 : V) (h : Hp) : Prop := F_fun_Call.L EE Q 1 [v1, v4, v6, v40, v41, v42] h
abbrev L_fun_Call_2 (Q : QQ) (v4 v6 v68 v69 v70 : V) (h : Hp) : Prop := F_fun_Call.L EE Q 2 [v4, v6, v68, v69, v70] h
abbrev L_fun_Call_3 (Q : QQ) (v4 v6 v68 v69 v70 v75 v76 v77 : V) (h : Hp) : Prop := F_fun_Call.L EE Q 3 [v4, v6, v68, v69, v70, v75, v76, v77] h
noncomputable def t_fun_Call_0 (p : Pr) (l : LL) (Q : QQ) (v0 v1 : V) (h : Hp) : Prop :=
 p.alloc h 48 fun x1 h2 b3 =>
 p.build 189 [(0, v1)] fun x4 =>
 p.alloc h2 189 fun x5 h6 b7 =>
 p.store h6 189 x5 x4 fun h8 =>
 p.load h8 189 x5 fun x9 =>
 p.call 161 [x9, v0] h8 fun x10 h11 =>
 p.extr x10 0 fun x12 =>
 p.extr x10 1 fun x13 =>
 p.alloc h11 192 fun x14 h15 b16 =>
 p.store h15 192 x14 x12 fun h17 =>
 p.un .not x13 fun x18 =>
 p.cond x18
 (fun _ =>
  p.call 18 [(.int .i64 5)] h17 fun x19 h20 =>
  p.store h20 48 x1 x19 fun h21 =>
  p.load h21 48 x1 fun x22 =>
  Q x22 h21)
 (fun _ =>
  p.lbui h17 #[131] .len [v1] fun x23 =>
  p.faddr 192 x14 0 fun x24 =>
  p.load h17 3 x24 fun x25 =>
  p.bin .lss 3 false false x23 x25 fun x26 =>
  p.gval x26 false (fun k27 =>
  k27 v1) fun x28 =>
  p.gval x26 false (fun k29 =>
  p.lbui h17 #[131] .len [x28] fun x30 =>
  k29 x30) fun x31 =>
  p.gval x26 false (fun k32 =>
  p.faddr 192 x14 1 fun x33 =>
  k32 x33) fun x34 =>
  p.gval x26 false (fun k35 =>
  p.load h17 3 x34 fun x36 =>
  k35 x36) fun x37 =>
  p.gval x26 false (fun k38 =>
  p.bin .gtr 3 false false x31 x37 fun x39 =>
  k38 x39) fun x40 =>
  p.pick x26 (some (.bool true)) (some x40) fun x41 =>
  p.cond x41
  (fun _ =>
  p.call 18 [(.int .i64 1)] h17 fun x42 h43 =>
  p.store h43 48 x1 x42 fun h44 =>
  p.load h44 48 x1 fun x45 =>
  Q x45 h44)
  (fun _ =>
  p.lbui h17 #[131] .len [v1] fun x46 =>
  l 1 [v1, x1, x14, v1, x46, (.int .i64 0)] h17))
theorem q_fun_Call_0 (p : Pr) (l : LL) (Q : QQ) (v0 v1 : V) (h : Hp) : t_fun_Call_0 p l Q v0 v1 h = F_fun_Call.K p EE l Q [] ([v0, v1] ++ List.replicate 88 undefV) h := by kernel_rfl
theorem a_fun_Call {Q : QQ} {v0 v1 : V} {h : Hp} (H : t_fun_Call_0 (Pu EE) (F_fun_Call.L EE Q) Q v0 v1 h) : Ans EE 107 [v0, v1] h Q :=
 ansL (F := F_fun_Call) (by kernel_rfl) (by kernel_rfl) (by kernel_rfl) (by kernel_rfl) (cast (q_fun_Call_0 _ _ _ v0 v1 h) H)
noncomputable def t_fun_Call_1 (p : Pr) (l : LL) (Q : QQ) (v1 v4 v6 v40 v41 v42 : V) (h : Hp) : Prop :=
 p.bin .lss 3 false false v42 v41 fun x1 =>
 p.cond x1
 (fun _ =>
  p.iaddr 131 v40 v42 fun x2 =>
  p.load h 133 x2 fun x3 =>
  p.alloc h 133 fun x4 h5 b6 =>
  p.store h5 133 x4 x3 fun h7 =>
  p.faddr 133 x4 0 fun x8 =>
  p.load h7 4 x8 fun x9 =>
  p.gval x9 true (fun k10 =>
  p.faddr 192 v6 2 fun x11 =>
  k10 x11) fun x12 =>
  p.gval x9 true (fun k13 =>
  p.load h7 4 x12 fun x14 =>
  k13 x14) fun x15 =>
  p.gval x9 true (fun k16 =>
  p.un .not x15 fun x17 =>
  k16 x17) fun x18 =>
  p.pick x9 (some x18) (some (.bool false)) fun x19 =>
  p.gval x19 false (fun k20 =>
  p.faddr 133 x4 0 fun x21 =>
  k20 x21) fun x22 =>
  p.gval x19 false (fun k23 =>
  p.load h7 4 x22 fun x24 =>
  k23 x24) fun x25 =>
  p.gval x19 false (fun k26 =>
  p.un .not x25 fun x27 =>
  k26 x27) fun x28 =>
  p.gval x19 false (fun k29 =>
  k29 x28) fun x30 =>
  p.gval x30 true (fun k31 =>
  p.faddr 133 x4 2 fun x32 =>
  k31 x32) fun x33 =>
  p.gval x30 true (fun k34 =>
  p.load h7 39 x33 fun x35 =>
  k34 x35) fun x36 =>
  p.gval x30 true (fun k37 =>
  p.lbui h7 #[39] .len [x36] fun x38 =>
  k37 x38) fun x39 =>
  p.gval x30 true (fun k40 =>
  p.bin .neq 3 false true x39 (.int .i64 1) fun x41 =>
  k40 x41) fun x42 =>
  p.gval x19 false (fun k43 =>
  p.pick x30 (some x42) (some (.bool false)) fun x44 =>
  k43 x44) fun x45 =>
  p.pick x19 (some (.bool true)) (some x45) fun x46 =>
  p.cond x46
  (fun _ =>
  p.call 18 [(.int .i64 1)] h7 fun x47 h48 =>
  p.store h48 48 v4 x47 fun h49 =>
  p.load h49 48 v4 fun x50 =>
  Q x50 h49)
  (fun _ =>
  p.bin .add 3 false true v42 (.int .i64 1) fun x51 =>
  l 1 [v1, v4, v6, v40, v41, x51] h7))
 (fun _ =>
  p.faddr 192 v6 3 fun x52 =>
  p.load h 4 x52 fun x53 =>
  p.cond x53
  (fun _ =>
  p.lbui h #[131] .len [v1] fun x54 =>
  l 2 [v4, v6, v1, x54, (.int .i64 0)] h)
  (fun _ =>
  p.faddr 192 v6 4 fun x55 =>
  p.load h 190 x55 fun x56 =>
  p.callv x56 [] h fun x57 h58 =>
  p.store h58 48 v4 x57 fun h59 =>
  p.load h59 48 v4 fun x60 =>
  Q x60 h59))
theorem q_fun_Call_1 (p : Pr) (l : LL) (Q : QQ) (s : List V) (h : Hp) : t_fun_Call_1 p l Q (nth s 1) (nth s 4) (nth s 6) (nth s 40) (nth s 41) (nth s 42) h = F_fun_Call.K p EE l Q [true, true, true, true, false, true, false] (nths s 90 0) h := by kernel_rfl
theorem r_fun_Call_1 {Q : QQ} {v1 v4 v6 v40 v41 v42 : V} {h : Hp} (H : t_fun_Call_1 (Pu EE) (F_fun_Call.L EE Q) Q v1 v4 v6 v40 v41 v42 h) : L_fun_Call_1 Q v1 v4 v6 v40 v41 v42 h :=
 labR (path := [true, true, true, true, false, true, false]) rfl rfl fun s e => by cases e; exact cast (q_fun_Call_1 _ _ _ s h) H
noncomputable def t_fun_Call_2 (p : Pr) (l : LL) (Q : QQ) (v4 v6 v68 v69 v70 : V) (h : Hp) : Prop :=
 p.bin .lss 3 false false v70 v69 fun x1 =>
 p.cond x1
 (fun _ =>
  p.iaddr 131 v68 v70 fun x2 =>
  p.load h 133 x2 fun x3 =>
  p.alloc h 133 fun x4 h5 b6 =>
  p.store h5 133 x4 x3 fun h7 =>
  p.faddr 133 x4 2 fun x8 =>
  p.load h7 39 x8 fun x9 =>
  p.lbui h7 #[39] .len [x9] fun x10 =>
  l 3 [v4, v6, v68, v69, v70, x9, x10, (.int .i64 0)] h7)
 (fun _ =>
  p.faddr 192 v6 4 fun x11 =>
  p.load h 190 x11 fun x12 =>
  p.callv x12 [] h fun x13 h14 =>
  p.store h14 48 v4 x13 fun h15 =>
  p.load h15 48 v4 fun x16 =>
  Q x16 h15)
theorem q_fun_Call_2 (p : Pr) (l : LL) (Q : QQ) (s : List V) (h : Hp) : t_fun_Call_2 p l Q (nth s 4) (nth s 6) (nth s 68) (nth s 69) (nth s 70) h = F_fun_Call.K p EE l Q [true, true, true, true, true, false, true, false, true, false] (nths s 90 0) h := by kernel_rfl
theorem r_fun_Call_2 {Q : QQ} {v4 v6 v68 v69 v70 : V} {h : Hp} (H : t_fun_Call_2 (Pu EE) (F_fun_Call.L EE Q) Q v4 v6 v68 v69 v70 h) : L_fun_Call_2 Q v4 v6 v68 v69 v70 h :=
 labR (path := [true, true, true, true, true, false, true, false, true, false]) rfl rfl fun s e => by cases e; exact cast (q_fun_Call_2 _ _ _ s h) H
noncomputable def t_fun_Call_3 (p : Pr) (l : LL) (Q : QQ) (v4 v6 v68 v69 v70 v75 v76 v77 : V) (h : Hp) : Prop :=
 p.bin .lss 3 false false v77 v76 fun x1 =>
 p.cond x1
 (fun _ =>
  p.iaddr 39 v75 v77 fun x2 =>
  p.load h 48 x2 fun x3 =>
  p.alloc h 48 fun x4 h5 b6 =>
  p.store h5 48 x4 x3 fun h7 =>
  p.faddr 48 x4 0 fun x8 =>
  p.load h7 3 x8 fun x9 =>
  p.bin .eql 3 false true x9 (.int .i64 4) fun x10 =>
  p.cond x10
  (fun _ =>
  p.load h7 48 x4 fun x11 =>
  p.store h7 48 v4 x11 fun h12 =>
  p.load h12 48 v4 fun x13 =>
  Q x13 h12)
  (fun _ =>
  p.bin .add 3 false true v77 (.int .i64 1) fun x14 =>
  l 3 [v4, v6, v68, v69, v70, v75, v76, x14] h7))
 (fun _ =>
  p.bin .add 3 false true v70 (.int .i64 1) fun x15 =>
  l 2 [v4, v6, v68, v69, x15] h)
theorem q_fun_Call_3 (p : Pr) (l : LL) (Q : QQ) (s : List V) (h : Hp) : t_fun_Call_3 p l Q (nth s 4) (nth s 6) (nth s 68) (nth s 69) (nth s 70) (nth s 75) (nth s 76) (nth s 77) h = F_fun_Call.K p EE l Q [true, true, true, true, true, false, true, false, true, false, false, true, true, false, false, true, true, false] (nths s 90 0) h := by kernel_rfl
theorem r_fun_Call_3 {Q : QQ} {v4 v6 v68 v69 v70 v75 v76 v77 : V} {h : Hp} (H : t_fun_Call_3 (Pu EE) (F_fun_Call.L EE Q) Q v4 v6 v68 v69 v70 v75 v76 v77 h) : L_fun_Call_3 Q v4 v6 v68 v69 v70 v75 v76 v77 h :=
 labR (path := [true, true, true, true, true, false, true, false, true, false, false, true, true, false, false, true, true, false]) rfl rfl fun s e => by cases e; exact cast (q_fun_Call_3 _ _ _ s h) H
noncomputable def c_fun_call_of : Code := match Tryz.f161.body with | some c => c | none => .skip
noncomputable def F_fun_call_of : Fl := ⟨Tryz.f161, c_fun_call_of, []⟩
noncomputable def t_fun_call_of_0 (p : Pr) (l : LL) (Q : QQ) (v0 v1 : V) (h : Hp) : Prop :=
 p.box h 189 v0 fun x1 h2 b3 =>
 p.alloc h2 192 fun x4 h5 b6 =>
 p.mkmap h5 true fun x7 h8 b9 =>
 p.load h8 189 x1 fun x10 =>
 p.build 192 [(0, (.int .i64 1)), (1, (.int .i64 9223372036854775807)), (2, (.bool true)), (3, (.bool true)), (4, (.fn (.func 216) [x10] []))] fun x11 =>
 p.mapu h8 231 x7 (.str [83, 85, 77]) x11 fun h12 =>
 p.load h12 189 x1 fun x13 =>
 p.build 192 [(0, (.int .i64 1)), (1, (.int .i64 9223372036854775807)), (2, (.bool true)), (3, (.bool true)), (4, (.fn (.func 217) [x13] []))] fun x14 =>
 p.mapu h12 231 x7 (.str [77, 73, 78]) x14 fun h15 =>
 p.load h15 189 x1 fun x16 =>
 p.build 192 [(0, (.int .i64 1)), (1, (.int .i64 9223372036854775807)), (2, (.bool true)), (3, (.bool true)), (4, (.fn (.func 218) [x16] []))] fun x17 =>
 p.mapu h15 231 x7 (.str [77, 65, 88]) x17 fun h18 =>
 p.load h18 189 x1 fun x19 =>
 p.build 192 [(0, (.int .i64 1)), (1, (.int .i64 9223372036854775807)), (2, (.bool true)), (3, (.bool false)), (4, (.fn (.func 219) [x19] []))] fun x20 =>
 p.mapu h18 231 x7 (.str [67, 79, 85, 78, 84]) x20 fun h21 =>
 p.load h21 189 x1 fun x22 =>
 p.build 192 [(0, (.int .i64 1)), (1, (.int .i64 9223372036854775807)), (2, (.bool true)), (3, (.bool true)), (4, (.fn (.func 220) [x22] []))] fun x23 =>
 p.mapu h21 231 x7 (.str [65, 78, 68]) x23 fun h24 =>
 p.load h24 189 x1 fun x25 =>
 p.build 192 [(0, (.int .i64 1)), (1, (.int .i64 9223372036854775807)), (2, (.bool true)), (3, (.bool true)), (4, (.fn (.func 221) [x25] []))] fun x26 =>
 p.mapu h24 231 x7 (.str [79, 82]) x26 fun h27 =>
 p.load h27 189 x1 fun x28 =>
 p.build 192 [(0, (.int .i64 2)), (1, (.int .i64 3)), (2, (.bool false)), (3, (.bool false)), (4, (.fn (.func 222) [x28] []))] fun x29 =>
 p.mapu h27 231 x7 (.str [73, 70]) x29 fun h30 =>
 p.load h30 189 x1 fun x31 =>
 p.build 192 [(0, (.int .i64 1)), (1, (.int .i64 1)), (2, (.bool false)), (3, (.bool true)), (4, (.fn (.func 223) [x31] []))] fun x32 =>
 p.mapu h30 231 x7 (.str [78, 79, 84]) x32 fun h33 =>
 p.load h33 189 x1 fun x34 =>
 p.build 192 [(0, (.int .i64 1)), (1, (.int .i64 1)), (2, (.bool false)), (3, (.bool true)), (4, (.fn (.func 224) [x34] []))] fun x35 =>
 p.mapu h33 231 x7 (.str [65, 66, 83]) x35 fun h36 =>
 p.load h36 189 x1 fun x37 =>
 p.build 192 [(0, (.int .i64 2)), (1, (.int .i64 2)), (2, (.bool false)), (3, (.bool true)), (4, (.fn (.func 225) [x37] []))] fun x38 =>
 p.mapu h36 231 x7 (.str [77, 79, 68]) x38 fun h39 =>
 p.load h39 189 x1 fun x40 =>
 p.build 192 [(0, (.int .i64 1)), (1, (.int .i64 1)), (2, (.bool false)), (3, (.bool true)), (4, (.fn (.func 226) [x40] []))] fun x41 =>
 p.mapu h39 231 x7 (.str [76, 69, 78]) x41 fun h42 =>
 p.load h42 189 x1 fun x43 =>
 p.build 192 [(0, (.int .i64 2)), (1, (.int .i64 2)), (2, (.bool false)), (3, (.bool true)), (4, (.fn (.func 227) [x43] []))] fun x44 =>
 p.mapu h42 231 x7 (.str [76, 69, 70, 84]) x44 fun h45 =>
 p.load h45 189 x1 fun x46 =>
 p.build 192 [(0, (.int .i64 2)), (1, (.int .i64 2)), (2, (.bool false)), (3, (.bool true)), (4, (.fn (.func 228) [x46] []))] fun x47 =>
 p.mapu h45 231 x7 (.str [82, 73, 71, 72, 84]) x47 fun h48 =>
 p.load h48 189 x1 fun x49 =>
 p.build 192 [(0, (.int .i64 3)), (1, (.int .i64 3)), (2, (.bool false)), (3, (.bool true)), (4, (.fn (.func 229) [x49] []))] fun x50 =>
 p.mapu h48 231 x7 (.str [77, 73, 68]) x50 fun h51 =>
 p.load h51 189 x1 fun x52 =>
 p.build 192 [(0, (.int .i64 1)), (1, (.int .i64 9223372036854775807)), (2, (.bool true)), (3, (.bool true)), (4, (.fn (.func 230) [x52] []))] fun x53 =>
 p.mapu h51 231 x7 (.str [67, 79, 78, 67, 65, 84]) x53 fun h54 =>
 p.load h54 189 x1 fun x55 =>
 p.build 192 [(0, (.int .i64 1)), (1, (.int .i64 1)), (2, (.bool false)), (3, (.bool false)), (4, (.fn (.func 231) [x55] []))] fun x56 =>
 p.mapu h54 231 x7 (.str [73, 83, 69, 82, 82]) x56 fun h57 =>
 p.load h57 189 x1 fun x58 =>
 p.build 192 [(0, (.int .i64 1)), (1, (.int .i64 1)), (2, (.bool true)), (3, (.bool false)), (4, (.fn (.func 232) [x58] []))] fun x59 =>
 p.mapu h57 231 x7 (.str [82, 79, 87, 83]) x59 fun h60 =>
 p.load h60 189 x1 fun x61 =>
 p.build 192 [(0, (.int .i64 1)), (1, (.int .i64 1)), (2, (.bool true)), (3, (.bool false)), (4, (.fn (.func 233) [x61] []))] fun x62 =>
 p.mapu h60 231 x7 (.str [67, 79, 76, 83]) x62 fun h63 =>
 p.look h63 231 x7 v1 true fun x64 =>
 p.extr x64 0 fun x65 =>
 p.extr x64 1 fun x66 =>
 p.alloc h63 192 fun x67 h68 b69 =>
 p.store h68 192 x67 x65 fun h70 =>
 p.load h70 192 x67 fun x71 =>
 p.store h70 192 x4 x71 fun h72 =>
 p.load h72 192 x4 fun x73 =>
 Q (.tup [x73, x66]) h72
theorem q_fun_call_of_0 (p : Pr) (l : LL) (Q : QQ) (v0 v1 : V) (h : Hp) : t_fun_call_of_0 p l Q v0 v1 h = F_fun_call_of.K p EE l Q [] ([v0, v1] ++ List.replicate 71 undefV) h := by kernel_rfl
theorem a_fun_call_of {Q : QQ} {v0 v1 : V} {h : Hp} (H : t_fun_call_of_0 (Pu EE) (F_fun_call_of.L EE Q) Q v0 v1 h) : Ans EE 161 [v0, v1] h Q :=
 ansL (F := F_fun_call_of) (by kernel_rfl) (by kernel_rfl) (by kernel_rfl) (by kernel_rfl) (cast (q_fun_call_of_0 _ _ _ v0 v1 h) H)
noncomputable def c_fun_call_sum : Code := match Tryz.f216.body with | some c => c | none => .skip
noncomputable def F_fun_call_sum : Fl := ⟨Tryz.f216, c_fun_call_sum, [([false, true, false, true, true, true, true], [2, 5, 17, 18, 19])]⟩
abbrev L_fun_call_sum_1 (Q : QQ) (v2 v5 v17 v18 v19 : V) (h : Hp) : Prop := F_fun_call_sum.L EE Q 1 [v2, v5, v17, v18, v19] h
noncomputable def t_fun_call_sum_0 (p : Pr) (l : LL) (Q : QQ) (v0 : V) (h : Hp) : Prop :=
 p.box h 189 v0 fun x1 h2 b3 =>
 p.alloc h2 48 fun x4 h5 b6 =>
 p.load h5 189 x1 fun x7 =>
 p.call 262 [x7] h5 fun x8 h9 =>
 p.extr x8 0 fun x10 =>
 p.extr x8 1 fun x11 =>
 p.un .not x11 fun x12 =>
 p.cond x12
 (fun _ =>
  p.call 18 [(.int .i64 1)] h9 fun x13 h14 =>
  p.store h14 48 x4 x13 fun h15 =>
  p.load h15 48 x4 fun x16 =>
  Q x16 h15)
 (fun _ =>
  p.call 44 [(.int .i64 0)] h9 fun x17 h18 =>
  p.alloc h18 48 fun x19 h20 b21 =>
  p.store h20 48 x19 x17 fun h22 =>
  p.lbui h22 #[39] .len [x10] fun x23 =>
  l 1 [x4, x19, x10, x23, (.int .i64 0)] h22)
theorem q_fun_call_sum_0 (p : Pr) (l : LL) (Q : QQ) (v0 : V) (h : Hp) : t_fun_call_sum_0 p l Q v0 h = F_fun_call_sum.K p EE l Q [] ([v0] ++ List.replicate 27 undefV) h := by kernel_rfl
theorem a_fun_call_sum {Q : QQ} {v0 : V} {h : Hp} (H : t_fun_call_sum_0 (Pu EE) (F_fun_call_sum.L EE Q) Q v0 h) : Ans EE 216 [v0] h Q :=
 ansL (F := F_fun_call_sum) (by kernel_rfl) (by kernel_rfl) (by kernel_rfl) (by kernel_rfl) (cast (q_fun_call_sum_0 _ _ _ v0 h) H)
noncomputable def t_fun_call_sum_1 (p : Pr) (l : LL) (Q : QQ) (v2 v5 v17 v18 v19 : V) (h : Hp) : Prop :=
 p.bin .lss 3 false false v19 v18 fun x1 =>
 p.cond x1
 (fun _ =>
  p.iaddr 39 v17 v19 fun x2 =>
  p.load h 48 x2 fun x3 =>
  p.alloc h 48 fun x4 h5 b6 =>
  p.store h5 48 x4 x3 fun h7 =>
  p.load h7 48 v5 fun x8 =>
  p.load h7 48 x4 fun x9 =>
  p.call 109 [(.int .i64 16), x8, x9] h7 fun x10 h11 =>
  p.store h11 48 v5 x10 fun h12 =>
  p.bin .add 3 false true v19 (.int .i64 1) fun x13 =>
  l 1 [v2, v5, v17, v18, x13] h12)
 (fun _ =>
  p.load h 48 v5 fun x14 =>
  p.store h 48 v2 x14 fun h15 =>
  p.load h15 48 v2 fun x16 =>
  Q x16 h15)
theorem q_fun_call_sum_1 (p : Pr) (l : LL) (Q : QQ) (s : List V) (h : Hp) : t_fun_call_sum_1 p l Q (nth s 2) (nth s 5) (nth s 17) (nth s 18) (nth s 19) h = F_fun_call_sum.K p EE l Q [true, true, true, true, false, true, false] (nths s 28 0) h := by kernel_rfl
theorem r_fun_call_sum_1 {Q : QQ} {v2 v5 v17 v18 v19 : V} {h : Hp} (H : t_fun_call_sum_1 (Pu EE) (F_fun_call_sum.L EE Q) Q v2 v5 v17 v18 v19 h) : L_fun_call_sum_1 Q v2 v5 v17 v18 v19 h :=
 labR (path := [true, true, true, true, false, true, false]) rfl rfl fun s e => by cases e; exact cast (q_fun_call_sum_1 _ _ _ s h) H
noncomputable def c_fun_call_ints : Code := match Tryz.f262.body with | some c => c | none => .skip
noncomputable def F_fun_call_ints : Fl := ⟨Tryz.f262, c_fun_call_ints, [([false, true, false, true], [2, 9, 10, 11]), ([false, true, true, false, false, true, true, false, false, true, false, true], [2, 5, 9, 10, 11, 16, 17, 18])]⟩
abbrev L_fun_call_ints_1 (Q : QQ) (v2 v9 v10 v11 : V) (h : Hp) : Prop := F_fun_call_ints.L EE Q 1 [v2, v9, v10, v11] h
abbrev L_fun_call_ints_2 (Q : QQ) (v2 v5 v9 v10 v11 v16 v17 v18 : V) (h : Hp) : Prop := F_fun_call_ints.L EE Q 2 [v2, v5, v9, v10, v11, v16, v17, v18] h
noncomputable def t_fun_call_ints_0 (p : Pr) (l : LL) (Q : QQ) (v0 : V) (h : Hp) : Prop :=
 p.box h 189 v0 fun x1 h2 b3 =>
 p.faddr 189 x1 0 fun x4 =>
 p.load h2 131 x4 fun x5 =>
 p.lbui h2 #[131] .len [x5] fun x6 =>
 l 1 [.nils, x5, x6, (.int .i64 0)] h2
theorem q_fun_call_ints_0 (p : Pr) (l : LL) (Q : QQ) (v0 : V) (h : Hp) : t_fun_call_ints_0 p l Q v0 h = F_fun_call_ints.K p EE l Q [] ([v0] ++ List.replicate 41 undefV) h := by kernel_rfl
theorem a_fun_call_ints {Q : QQ} {v0 : V} {h : Hp} (H : t_fun_call_ints_0 (Pu EE) (F_fun_call_ints.L EE Q) Q v0 h) : Ans EE 262 [v0] h Q :=
 ansL (F := F_fun_call_ints) (by kernel_rfl) (by kernel_rfl) (by kernel_rfl) (by kernel_rfl) (cast (q_fun_call_ints_0 _ _ _ v0 h) H)
noncomputable def t_fun_call_ints_1 (p : Pr) (l : LL) (Q : QQ) (v2 v9 v10 v11 : V) (h : Hp) : Prop :=
 p.bin .lss 3 false false v11 v10 fun x1 =>
 p.cond x1
 (fun _ =>
  p.iaddr 131 v9 v11 fun x2 =>
  p.load h 133 x2 fun x3 =>
  p.alloc h 133 fun x4 h5 b6 =>
  p.store h5 133 x4 x3 fun h7 =>
  p.faddr 133 x4 2 fun x8 =>
  p.load h7 39 x8 fun x9 =>
  p.lbui h7 #[39] .len [x9] fun x10 =>
  l 2 [v2, x4, v9, v10, v11, x9, x10, (.int .i64 0)] h7)
 (fun _ =>
  Q (.tup [v2, (.bool true)]) h)
theorem q_fun_call_ints_1 (p : Pr) (l : LL) (Q : QQ) (s : List V) (h : Hp) : t_fun_call_ints_1 p l Q (nth s 2) (nth s 9) (nth s 10) (nth s 11) h = F_fun_call_ints.K p EE l Q [true, false, true, false] (nths s 42 0) h := by kernel_rfl
theorem r_fun_call_ints_1 {Q : QQ} {v2 v9 v10 v11 : V} {h : Hp} (H : t_fun_call_ints_1 (Pu EE) (F_fun_call_ints.L EE Q) Q v2 v9 v10 v11 h) : L_fun_call_ints_1 Q v2 v9 v10 v11 h :=
 labR (path := [true, false, true, false]) rfl rfl fun s e => by cases e; exact cast (q_fun_call_ints_1 _ _ _ s h) H
noncomputable def t_fun_call_ints_2 (p : Pr) (l : LL) (Q : QQ) (v2 v5 v9 v10 v11 v16 v17 v18 : V) (h : Hp) : Prop :=
 p.bin .lss 3 false false v18 v17 fun x1 =>
 p.cond x1
 (fun _ =>
  p.iaddr 39 v16 v18 fun x2 =>
  p.load h 48 x2 fun x3 =>
  p.alloc h 48 fun x4 h5 b6 =>
  p.store h5 48 x4 x3 fun h7 =>
  p.faddr 48 x4 0 fun x8 =>
  p.load h7 3 x8 fun x9 =>
  p.bin .eql 3 false true x9 (.int .i64 1) fun x10 =>
  p.cond x10
  (fun _ =>
  p.load h7 48 x4 fun x11 =>
  p.bsl h7 39 1 [(0, x11)] fun x12 h13 b14 =>
  p.ebui h13 #[39, 39] .append [v2, x12] fun x15 h16 =>
  p.bin .add 3 false true v18 (.int .i64 1) fun x17 =>
  l 2 [x15, v5, v9, v10, v11, v16, v17, x17] h16)
  (fun _ =>
  p.faddr 48 x4 0 fun x18 =>
  p.load h7 3 x18 fun x19 =>
  p.bin .neq 3 false true x19 (.int .i64 0) fun x20 =>
  p.gval x20 true (fun k21 =>
   p.faddr 133 v5 0 fun x22 =>
   k21 x22) fun x23 =>
  p.gval x20 true (fun k24 =>
   p.load h7 4 x23 fun x25 =>
   k24 x25) fun x26 =>
  p.gval x20 true (fun k27 =>
   p.un .not x26 fun x28 =>
   k27 x28) fun x29 =>
  p.pick x20 (some x29) (some (.bool false)) fun x30 =>
  p.cond x30
  (fun _ =>
   Q (.tup [.nils, (.bool false)]) h7)
  (fun _ =>
   p.bin .add 3 false true v18 (.int .i64 1) fun x31 =>
   l 2 [v2, v5, v9, v10, v11, v16, v17, x31] h7)))
 (fun _ =>
  p.bin .add 3 false true v11 (.int .i64 1) fun x32 =>
  l 1 [v2, v9, v10, x32] h)
theorem q_fun_call_ints_2 (p : Pr) (l : LL) (Q : QQ) (s : List V) (h : Hp) : t_fun_call_ints_2 p l Q (nth s 2) (nth s 5) (nth s 9) (nth s 10) (nth s 11) (nth s 16) (nth s 17) (nth s 18) h = F_fun_call_ints.K p EE l Q [true, false, true, false, false, true, true, false, false, true, true, false] (nths s 42 0) h := by kernel_rfl
theorem r_fun_call_ints_2 {Q : QQ} {v2 v5 v9 v10 v11 v16 v17 v18 : V} {h : Hp} (H : t_fun_call_ints_2 (Pu EE) (F_fun_call_ints.L EE Q) Q v2 v5 v9 v10 v11 v16 v17 v18 h) : L_fun_call_ints_2 Q v2 v5 v9 v10 v11 v16 v17 v18 h :=
 labR (path := [true, false, true, false, false, true, true, false, false, true, true, false]) rfl rfl fun s e => by cases e; exact cast (q_fun_call_ints_2 _ _ _ s h) H
noncomputable def c_fun_call_fork : Code := match Tryz.f222.body with | some c => c | none => .skip
noncomputable def F_fun_call_fork : Fl := ⟨Tryz.f222, c_fun_call_fork, []⟩
noncomputable def t_fun_call_fork_0 (p : Pr) (l : LL) (Q : QQ) (v0 : V) (h : Hp) : Prop :=
 p.box h 189 v0 fun x1 h2 b3 =>
 p.alloc h2 48 fun x4 h5 b6 =>
 p.load h5 189 x1 fun x7 =>
 p.call 267 [x7, (.int .i64 0)] h5 fun x8 h9 =>
 p.alloc h9 48 fun x10 h11 b12 =>
 p.store h11 48 x10 x8 fun h13 =>
 p.load h13 48 x10 fun x14 =>
 p.call 268 [x14] h13 fun x15 h16 =>
 p.extr x15 0 fun x17 =>
 p.extr x15 1 fun x18 =>
 p.faddr 48 x10 0 fun x19 =>
 p.load h16 3 x19 fun x20 =>
 p.bin .eql 3 false true x20 (.int .i64 4) fun x21 =>
 p.cond x21
 (fun _ =>
  p.load h16 48 x10 fun x22 =>
  p.store h16 48 x4 x22 fun h23 =>
  p.load h23 48 x4 fun x24 =>
  Q x24 h23)
 (fun _ =>
  p.un .not x18 fun x25 =>
  p.cond x25
  (fun _ =>
  p.call 18 [(.int .i64 1)] h16 fun x26 h27 =>
  p.store h27 48 x4 x26 fun h28 =>
  p.load h28 48 x4 fun x29 =>
  Q x29 h28)
  (fun _ =>
  p.cond x17
  (fun _ =>
   p.load h16 189 x1 fun x30 =>
   p.call 267 [x30, (.int .i64 1)] h16 fun x31 h32 =>
   p.store h32 48 x4 x31 fun h33 =>
   p.load h33 48 x4 fun x34 =>
   Q x34 h33)
  (fun _ =>
   p.faddr 189 x1 0 fun x35 =>
   p.load h16 131 x35 fun x36 =>
   p.lbui h16 #[131] .len [x36] fun x37 =>
   p.bin .eql 3 false true x37 (.int .i64 2) fun x38 =>
   p.cond x38
   (fun _ =>
   p.call 104 [(.bool false)] h16 fun x39 h40 =>
   p.store h40 48 x4 x39 fun h41 =>
   p.load h41 48 x4 fun x42 =>
   Q x42 h41)
   (fun _ =>
   p.load h16 189 x1 fun x43 =>
   p.call 267 [x43, (.int .i64 2)] h16 fun x44 h45 =>
   p.store h45 48 x4 x44 fun h46 =>
   p.load h46 48 x4 fun x47 =>
   Q x47 h46))))
theorem q_fun_call_fork_0 (p : Pr) (l : LL) (Q : QQ) (v0 : V) (h : Hp) : t_fun_call_fork_0 p l Q v0 h = F_fun_call_fork.K p EE l Q [] ([v0] ++ List.replicate 33 undefV) h := by kernel_rfl
theorem a_fun_call_fork {Q : QQ} {v0 : V} {h : Hp} (H : t_fun_call_fork_0 (Pu EE) (F_fun_call_fork.L EE Q) Q v0 h) : Ans EE 222 [v0] h Q :=
 ansL (F := F_fun_call_fork) (by kernel_rfl) (by kernel_rfl) (by kernel_rfl) (by kernel_rfl) (cast (q_fun_call_fork_0 _ _ _ v0 h) H)
noncomputable def c_fun_call_one : Code := match Tryz.f267.body with | some c => c | none => .skip
noncomputable def F_fun_call_one : Fl := ⟨Tryz.f267, c_fun_call_one, []⟩
noncomputable def t_fun_call_one_0 (p : Pr) (l : LL) (Q : QQ) (v0 v1 : V) (h : Hp) : Prop :=
 p.box h 189 v0 fun x1 h2 b3 =>
 p.alloc h2 48 fun x4 h5 b6 =>
 p.faddr 189 x1 0 fun x7 =>
 p.load h5 131 x7 fun x8 =>
 p.iaddr 131 x8 v1 fun x9 =>
 p.faddr 133 x9 2 fun x10 =>
 p.load h5 39 x10 fun x11 =>
 p.iaddr 39 x11 (.int .i64 0) fun x12 =>
 p.load h5 48 x12 fun x13 =>
 p.store h5 48 x4 x13 fun h14 =>
 p.load h14 48 x4 fun x15 =>
 Q x15 h14
theorem q_fun_call_one_0 (p : Pr) (l : LL) (Q : QQ) (v0 v1 : V) (h : Hp) : t_fun_call_one_0 p l Q v0 v1 h = F_fun_call_one.K p EE l Q [] ([v0, v1] ++ List.replicate 11 undefV) h := by kernel_rfl
theorem a_fun_call_one {Q : QQ} {v0 v1 : V} {h : Hp} (H : t_fun_call_one_0 (Pu EE) (F_fun_call_one.L EE Q) Q v0 v1 h) : Ans EE 267 [v0, v1] h Q :=
 ansL (F := F_fun_call_one) (by kernel_rfl) (by kernel_rfl) (by kernel_rfl) (by kernel_rfl) (cast (q_fun_call_one_0 _ _ _ v0 v1 h) H)
end
end Go.Proofs.YtbchdlelmkmagaaGreatDoor.VM
namespace Go.Proofs.YtbchdlelmkmagaaGreatDoor.VM
open Go
set_option linter.unusedVariables false
set_option linter.unusedSectionVars false
set_option linter.unusedSimpArgs false
set_option maxRecDepth 20000
noncomputable section
attribute [local instance] syZ
def keyS (s : List Nat) : V := .str s
theorem k_strS : KeyOf EE 9 keyS := by
 obtain ⟨j, h1, h2⟩ := st_string
 refine ⟨j, h1, fun a b => ?_⟩
 unfold veqK keyS
 rw [h2]
 simp only [seq_dec]
theorem m_rules : IsMap EE 231 9 192 := isMap (by kernel_rfl)
def ruleV (a b : Int) (c d : Bool) (f : Nat) (u : V) : V := .agg [.int .i64 a, .int .i64 b, .bool c, .bool d, .fn (.func f) [.agg [u]] []]
structure OfAt (h0 : Hp) (b1 b4 b7 : Nat) (u : V) (f : List Nat → Option V) (h : Hp) : Prop where
 x : Ext h0.n h0 h
 g1 : h.t.get b1 = some (.cells [u] 189 false)
 g4 : ∃ cs, cs.length = 5 ∧ h.t.get b4 = some (.cells cs 192 false)
 m : MapFn keyS h b7 f
 l : b4 < h.n ∧ b7 < h.n
theorem of_step {h0 h : Hp} {b1 b4 b7 : Nat} {u : V} {f : List Nat → Option V} (S : OfAt h0 b1 b4 b7 u f h) (hn : h0.n ≤ b7) (n1 : b1 ≠ b7) (n4 : b4 ≠ b7) (s : List Nat) (a b : Int) (c d : Bool) (g : Nat) {K : Hp → Prop}
  (hk : ∀ h', OfAt h0 b1 b4 b7 u (updF f s (ruleV a b c d g u)) h' → K h') :
  (Pu EE).load h 189 (.ptr b1 0) fun x10 => (Pu EE).build 192 [(0, (.int .i64 a)), (1, (.int .i64 b)), (2, (.bool c)), (3, (.bool d)), (4, (.fn (.func g) [x10] []))] fun x11 => (Pu EE).mapu h 231 (.mp b7) (.str s) x11 K := by
 rw [pu_loadS l_fun_call S.g1 (l := [u]) rfl, pu_build so_fun_rule _ (fun p hp => by
  simp only [List.mem_cons, List.not_mem_nil, or_false] at hp
  rcases hp with rfl | rfl | rfl | rfl | rfl
  ·exact c1_int _ _
  ·exact c1_int _ _
  ·exact c1_bool _
  ·exact c1_bool _
  ·exact ⟨rfl, rfl⟩) rfl]
 refine pu_mapu m_rules k_strS (key := keyS) (k := s) S.m _ fun h1 bl w m1 => hk h1 ?_
 have nw := w.n
 have l := S.l
 obtain ⟨cs, hc, hb4⟩ := S.g4
 exact ⟨⟨by have := S.x.n; omega, fun c hc => by rw [w.other c (by omega), S.x.old c hc]⟩, by rw [w.other b1 n1]; exact S.g1, ⟨cs, hc, by rw [w.other b4 n4]; exact hb4⟩, m1, by omega⟩
def rulesF (u : V) : List Nat → Option V :=
 (updF (updF (updF (updF (updF (updF (updF (updF (updF (updF (updF (updF (updF (updF (updF (updF (updF (updF (fun _ => none) [83, 85, 77] (ruleV 1 9223372036854775807 true true 216 u)) [77, 73, 78] (ruleV 1 9223372036854775807 true true 217 u)) [77, 65, 88] (ruleV 1 9223372036854775807 true true 218 u)) [67, 79, 85, 78, 84] (ruleV 1 9223372036854775807 true false 219 u)) [65, 78, 68] (ruleV 1 9223372036854775807 true true 220 u)) [79, 82] (ruleV 1 9223372036854775807 true true 221 u)) [73, 70] (ruleV 2 3 false false 222 u)) [78, 79, 84] (ruleV 1 1 false true 223 u)) [65, 66, 83] (ruleV 1 1 false true 224 u)) [77, 79, 68] (ruleV 2 2 false true 225 u)) [76, 69, 78] (ruleV 1 1 false true 226 u)) [76, 69, 70, 84] (ruleV 2 2 false true 227 u)) [82, 73, 71, 72, 84] (ruleV 2 2 false true 228 u)) [77, 73, 68] (ruleV 3 3 false true 229 u)) [67, 79, 78, 67, 65, 84] (ruleV 1 9223372036854775807 true true 230 u)) [73, 83, 69, 82, 82] (ruleV 1 1 false false 231 u)) [82, 79, 87, 83] (ruleV 1 1 true false 232 u)) [67, 79, 76, 83] (ruleV 1 1 true false 233 u))
theorem of_ok (u : V) (hu : C1 u) (s : List Nat) (r : V) (hr : rulesF u s = some r) (hl : ∃ a b c d g, r = ruleV a b c d g u) (h : Hp) : Ans EE 161 [.agg [u], .str s] h fun x h' => x = .tup [r, .bool true] ∧ Ext h.n h h' := by
 apply a_fun_call_of
 unfold t_fun_call_of_0
 refine pu_boxX (cs := [u]) (by simp [allCells, hu.2]) fun h1 b1 w1 => ?_
 refine pu_allocX l_fun_rule fun h2 b2 w2 => ?_
 refine pu_mkmapX fun h3 b3 w3 => ?_
 have n1 := w1.n
 have e1 := w1.b
 have n2 := w2.n
 have e2 := w2.b
 have n3 := w3.n
 have e3 := w3.b
 have S : OfAt h b1 b2 b3 u (fun _ => none) h3 := ⟨⟨by omega, fun c hc => by rw [w3.old c (by omega), w2.old c (by omega), w1.old c (by omega)]⟩, by rw [w3.old b1 (by omega), w2.old b1 (by omega)]; exact w1.at_, ⟨_, rfl, by rw [w3.old b2 (by omega)]; exact w2.at_⟩, MapFn.empty w3.at_, by omega⟩
 have q0 : h.n ≤ b3 := by omega
 have q1 : b1 ≠ b3 := by omega
 have q2 : b2 ≠ b3 := by omega
 have q3 : h.n ≤ b2 := by omega
 clear w1 w2 w3 n1 e1 n2 e2 n3 e3
 refine of_step S q0 q1 q2 _ _ _ _ _ _ fun h4 S => ?_
 refine of_step S q0 q1 q2 _ _ _ _ _ _ fun h4 S => ?_
 refine of_step S q0 q1 q2 _ _ _ _ _ _ fun h4 S => ?_
 refine of_step S q0 q1 q2 _ _ _ _ _ _ fun h4 S => ?_
 refine of_step S q0 q1 q2 _ _ _ _ _ _ fun h4 S => ?_
 refine of_step S q0 q1 q2 _ _ _ _ _ _ fun h4 S => ?_
 refine of_step S q0 q1 q2 _ _ _ _ _ _ fun h4 S => ?_
 refine of_step S q0 q1 q2 _ _ _ _ _ _ fun h4 S => ?_
 refine of_step S q0 q1 q2 _ _ _ _ _ _ fun h4 S => ?_
 refine of_step S q0 q1 q2 _ _ _ _ _ _ fun h4 S => ?_
 refine of_step S q0 q1 q2 _ _ _ _ _ _ fun h4 S => ?_
 refine of_step S q0 q1 q2 _ _ _ _ _ _ fun h4 S => ?_
 refine of_step S q0 q1 q2 _ _ _ _ _ _ fun h4 S => ?_
 refine of_step S q0 q1 q2 _ _ _ _ _ _ fun h4 S => ?_
 refine of_step S q0 q1 q2 _ _ _ _ _ _ fun h4 S => ?_
 refine of_step S q0 q1 q2 _ _ _ _ _ _ fun h4 S => ?_
 refine of_step S q0 q1 q2 _ _ _ _ _ _ fun h4 S => ?_
 refine of_step S q0 q1 q2 _ _ _ _ _ _ fun h4 S => ?_
 have hr' : rulesF u s = some r := hr
 unfold rulesF at hr'
 show (Pu EE).look h4 231 (.mp b3) (keyS s) true _
 rw [pu_lookok m_rules k_strS S.m s hr', pu_extr0, pu_extr1]
 obtain ⟨a, b, c, d, g, rfl⟩ := hl
 have l4 := S.l
 refine pu_allocX l_fun_rule fun h5 b5 w5 => ?_
 have n5 := w5.n
 have e5 := w5.b
 refine pu_storeX l_fun_rule w5.at_ (x := ruleV a b c d g u) rfl rfl (r := [.int .i64 a, .int .i64 b, .bool c, .bool d, .fn (.func g) [.agg [u]] []]) rfl fun h6 w6 => ?_
 have n6 := w6.n
 rw [pu_loadS l_fun_rule w6.at_ (l := [.int .i64 a, .int .i64 b, .bool c, .bool d, .fn (.func g) [.agg [u]] []]) rfl]
 obtain ⟨cs, hcl, hb4⟩ := S.g4
 have hb : h6.t.get b2 = some (.cells cs 192 false) := by rw [w6.other b2 (by omega), w5.old b2 (by omega)]; exact hb4
 refine pu_storeX l_fun_rule hb (x := ruleV a b c d g u) rfl rfl (r := [.int .i64 a, .int .i64 b, .bool c, .bool d, .fn (.func g) [.agg [u]] []]) (by
  match cs, hcl with
  | [x1, x2, x3, x4, x5], _ => rfl) fun h7 w7 => ?_
 have n7 := w7.n
 have n4 := S.x.n
 rw [pu_loadS l_fun_rule w7.at_ (l := [.int .i64 a, .int .i64 b, .bool c, .bool d, .fn (.func g) [.agg [u]] []]) rfl]
 exact ⟨rfl, by omega, fun c hc => by rw [w7.other c (by omega), w6.other c (by omega), w5.old c (by omega), S.x.old c hc]⟩
def sumK : List Nat := [83, 85, 77]
def ifK : List Nat := [73, 70]
theorem rule_sum (u : V) : rulesF u sumK = some (ruleV 1 9223372036854775807 true true 216 u) := by unfold rulesF sumK; simp [updF]
theorem rule_if (u : V) : rulesF u ifK = some (ruleV 2 3 false false 222 u) := by unfold rulesF ifK; simp [updF]
end
end Go.Proofs.YtbchdlelmkmagaaGreatDoor.VM
namespace Go.Proofs.YtbchdlelmkmagaaGreatDoor.VM
open Go
set_option linter.unusedVariables false
set_option linter.unusedSectionVars false
set_option linter.unusedSimpArgs false
set_option maxRecDepth 20000
noncomputable section
attribute [local instance] syZ
theorem noIntV : ∃ iu, EE.ty.get 39 = some iu ∧ ∀ k, iu.k ≠ .int k := by
 obtain ⟨i, h1, h2⟩ := s_sl_api_Val; exact ⟨i, h1, fun k => by rw [h2]; simp⟩
abbrev OwnV (N : Nat) (h : Hp) (v : V) (l : List Vl) : Prop := Own N h v 48 3 l.length (vlCs l)
abbrev RdV (h : Hp) (v : V) (l : List Vl) : Prop := Rd h 3 v l.length (vlCs l)
theorem append_val {N : Nat} {h : Hp} {v : V} {l : List Vl} (o : OwnV N h v l) (s : Vl) (hlen : l.length + 1 ≤ 1048576) (hN : N ≤ h.n) (q : V → Hp → Prop)
  (hq : ∀ v' h', OwnV N h' v' (l ++ [s]) → Ext N h h' → (∀ c, c < h.n → blkOf v ≠ some c → h'.t.get c = h.t.get c) → (∀ c, blkOf v' = some c → blkOf v = some c ∨ h.n ≤ c) → q v' h') :
  (Pu EE).bsl h 39 1 [(0, valV s)] fun x h1 _ => (Pu EE).ebui h1 #[39, 39] .append [v, x] q := by
 rw [pu_lit1 s_sl_api_Val l_api_Val _ rfl (by omega)]
 have o1 : OwnV N (h.new (.cells (vlC s) 48 false)) v l := o.keep (Nat.le_succ _) (fun c hc => by rw [Hp.get_new, if_neg (Nat.ne_of_lt (o.in_ c hc))])
 obtain ⟨v', h', h1, h2, h3, h4, h5⟩ := own_append (ts := #[39, 39]) o1 rfl rfl s_sl_api_Val noIntV l_api_Val (elems_rd (rd_lit (h := h) (e := 48) (ws := vlC s) rfl).rd).1 (fun e => by cases e) rfl hlen (Nat.le_succ_of_le hN)
 refine (h1 q).2 (hq v' h' ?_ ((Ext.new hN _).trans h3) (fun c hc hne => ?_) (fun c hc => ?_))
 ·have e : vlCs (l ++ [s]) = vlCs l ++ vlC s := by rw [vlCs_app]; simp [vlCs]
  show Own _ _ _ _ _ (l ++ [s]).length _
  rw [List.length_append, e]
  exact h2
 ·rw [h4 c (Nat.lt_succ_of_lt hc) hne, Hp.get_new, if_neg (Nat.ne_of_lt hc)]
 ·rcases h5 c hc with h6 | h6
  ·exact .inl h6
  ·exact .inr (Nat.le_of_succ_le h6)
theorem rd_val {h : Hp} {w : V} {l : List Vl} (r : RdV h w l) {i : Nat} {x : Vl} (hx : l[i]? = some x) :
  ∃ b o, (∀ (k : IntKind) (q : V → Prop), (Pu EE).iaddr 39 w (.int k i) q ↔ q (.ptr b o)) ∧ (∀ q : V → Prop, (Pu EE).load h 48 (.ptr b o) q ↔ q (valV x)) ∧ blkOf w = some b := by
 obtain ⟨b, o, h1, h2, h3, _⟩ := rd_getS r s_sl_api_Val l_api_Val (by omega) (List.getElem?_eq_some_iff.1 hx).1 (vlCs_at l i x hx)
 exact ⟨b, o, h1, h2, h3⟩
theorem vbox (x : Vl) {h : Hp} {K : V → Hp → Prop} (hk : ∀ h1 b, New h h1 b (.cells (vlC x) 48 false) → K (.ptr b 0) h1) :
  (Pu EE).alloc h 48 fun x4 h5 b6 => (Pu EE).store h5 48 x4 (valV x) fun h7 => K x4 h7 := by
 refine pu_allocX l_api_Val fun h1 b w => ?_
 refine pu_storeX l_api_Val w.at_ (x := valV x) rfl rfl (r := vlC x) rfl fun h2 w2 => hk h2 b ?_
 exact ⟨w2.at_, by rw [w2.n]; exact w.n, w.b, fun c hc => by rw [w2.other c (by have := w.b; omega), w.old c hc]⟩
theorem neqK (a b : Nat) (z : Int) (hz : z = (b : Int)) (t : Nat) (cx cy : Bool) (q : V → Prop) : (Pu EE).bin .neq t cx cy (.int .i64 (a : Int)) (.int .i64 z) q ↔ q (.bool (!decide (a = b))) := by subst hz; exact neqN a b t cx cy q
def intsL (l : List Vl) : List Vl := l.filter fun v => decide (v.k = 1)
theorem ints_loop2 {h0 : Hp} {w v9 v10 v11 : V} {l : List Vl} {b5 : Nat} {c : Int} (hr : RdV h0 w l) (hw : In h0.n w) (h5 : b5 < h0.n) (hb5 : h0.t.get b5 = some (.cells [.bool true, .int .i64 c, w] 133 false)) (hl : l.length ≤ 1000000) {Q : QQ}
  (hq : ∀ h' o', Ext h0.n h0 h' → OwnV h0.n h' o' (intsL l) → L_fun_call_ints_2 Q o' (.ptr b5 0) v9 v10 v11 w (.int .i64 l.length) (.int .i64 l.length) h') :
  ∀ m i (h : Hp) (o : V), l.length - i ≤ m → i ≤ l.length → Ext h0.n h0 h → OwnV h0.n h o (intsL (l.take i)) → L_fun_call_ints_2 Q o (.ptr b5 0) v9 v10 v11 w (.int .i64 l.length) (.int .i64 i) h := by
 intro m
 induction m with
 | zero =>
  intro i h o hm hi x ho
  have : i = l.length := by omega
  subst this
  rw [List.take_length] at ho
  exact hq h o x ho
 | succ m ih =>
  intro i h o hm hi x ho
  by_cases hil : i < l.length
  ·have xn := x.n
   apply r_fun_call_ints_2
   unfold t_fun_call_ints_2
   rw [pu_lss, decide_eq_true (by omega), pu_cond_t]
   obtain ⟨y, hy⟩ : ∃ y, l[i]? = some y := ⟨l[i], List.getElem?_eq_getElem hil⟩
   obtain ⟨b, of, k1, k2, _⟩ := rd_val (hr.ext x hw) hy
   rw [k1, k2]
   refine vbox y fun h1 b1 w1 => ?_
   have n1 := w1.n
   have e1 := w1.b
   have x1 : Ext h0.n h0 h1 := x.trans (w1.ext (by omega))
   have o1 : OwnV h0.n h1 o (intsL (l.take i)) := ho.keep (by omega) fun c hc => w1.old c (ho.in_ c hc)
   have tk : l.take (i + 1) = l.take i ++ [y] := by rw [List.take_add_one, hy]; rfl
   rw [fa_api_Val_0, pu_load1 l_int w1.at_ rfl, eqlK y.k 1 1 rfl]
   by_cases h1k : y.k = 1
   ·rw [decide_eq_true h1k, pu_cond_t, pu_loadS l_api_Val w1.at_ (l := vlC y) rfl]
    refine append_val o1 y ?_ (by omega) _ fun o2 h2 q2 x2 _ _ => ?_
    ·have : (intsL (l.take i)).length ≤ (l.take i).length := List.length_filter_le _ _
     rw [List.length_take] at this
     omega
    rw [pu_inc _ _ _ _ (by omega)]
    refine ih (i + 1) h2 o2 (by omega) (by omega) (x1.trans x2) ?_
    unfold intsL at q2 ⊢
    rw [tk, List.filter_append, List.filter_cons_of_pos (by simpa using h1k), List.filter_nil]
    exact q2
   ·have hst : intsL (l.take (i + 1)) = intsL (l.take i) := by
     unfold intsL
     rw [tk, List.filter_append, List.filter_cons_of_neg (by simpa using h1k), List.filter_nil, List.append_nil]
    have hb : h1.t.get b5 = some (.cells [.bool true, .int .i64 c, w] 133 false) := by rw [x1.old b5 h5]; exact hb5
    rw [decide_eq_false h1k, pu_cond_f, fa_api_Val_0, pu_load1 l_int w1.at_ rfl, neqK y.k 0 0 rfl]
    by_cases h0k : y.k = 0
    ·rw [decide_eq_true h0k, Bool.not_true]
     simp only [pu_gval_ft]
     rw [pu_pick_f, pu_cond_f, pu_inc _ _ _ _ (by omega)]
     exact ih (i + 1) h1 o (by omega) (by omega) x1 (by rw [hst]; exact o1)
    ·rw [decide_eq_false h0k, Bool.not_false]
     simp only [pu_gval_y]
     rw [fa_api_Arg_0, pu_load1 l_bool hb rfl, pu_not, Bool.not_true, pu_pick_t, pu_cond_f, pu_inc _ _ _ _ (by omega)]
     exact ih (i + 1) h1 o (by omega) (by omega) x1 (by rw [hst]; exact o1)
  ·have : i = l.length := by omega
   subst this
   rw [List.take_length] at ho
   exact hq h o x ho
end
end Go.Proofs.YtbchdlelmkmagaaGreatDoor.VM
namespace Go.Proofs.YtbchdlelmkmagaaGreatDoor.VM
open Go
set_option linter.unusedVariables false
set_option linter.unusedSectionVars false
set_option linter.unusedSimpArgs false
set_option maxRecDepth 20000
noncomputable section
attribute [local instance] syZ
theorem spl_full : ∀ (ws l : List V), l.length = ws.length → spl l 0 ws = some ws := by
 intro ws
 induction ws with
 | nil => intro l hl; cases l with | nil => rfl | cons _ _ => cases hl
 | cons w ws ih => intro l hl; cases l with
  | nil => cases hl
  | cons a l => simp only [spl, ih l (by simpa using hl), Option.bind_some]
theorem sbox {e sz : Nat} {z : List V} (he : El EE e sz z true) (cs : List V) (hl : cs.length = sz) (hc : allCells cs = true) {h : Hp} {K : V → Hp → Prop} (hk : ∀ h1 b, New h h1 b (.cells cs e false) → K (.ptr b 0) h1) :
  (Pu EE).alloc h e fun x4 h5 b6 => (Pu EE).store h5 e x4 (.agg cs) fun h7 => K x4 h7 := by
 refine pu_allocX he fun h1 b w => ?_
 refine pu_storeX he w.at_ (x := .agg cs) (by show cs.length = sz; exact hl) (by show allCells cs = true; exact hc) (r := cs) (spl_full cs z (by rw [he.len, hl])) fun h2 w2 => hk h2 b ?_
 exact ⟨w2.at_, by rw [w2.n]; exact w.n, w.b, fun c hc => by rw [w2.other c (by have := w.b; omega), w.old c hc]⟩
structure Arg1 (h : Hp) (u : V) (c : Int) (w : V) (l : List Vl) : Prop where
 ru : Rd h 3 u 1 [.bool true, .int .i64 c, w]
 rw_ : RdV h w l
 iu : In h.n u
 iw : In h.n w
 hl : l.length ≤ 1000000
theorem Arg1.ext {h h' : Hp} {u : V} {c : Int} {w : V} {l : List Vl} (a : Arg1 h u c w l) (x : Ext h.n h h') : Arg1 h' u c w l := ⟨a.ru.ext x a.iu, a.rw_.ext x a.iw, a.iu.mono x.n, a.iw.mono x.n, a.hl⟩
theorem Arg1.c1 {h : Hp} {u : V} {c : Int} {w : V} {l : List Vl} (a : Arg1 h u c w l) : allCells [.bool true, .int .i64 c, w] = true := by have := a.rw_.c1.2; simpa [allCells, V.isCell] using this
theorem ints_ok {h : Hp} {u : V} {c : Int} {w : V} {l : List Vl} (a : Arg1 h u c w l) : Ans EE 262 [.agg [u]] h fun x h' => ∃ o, x = .tup [o, .bool true] ∧ OwnV h.n h' o (intsL l) ∧ Ext h.n h h' := by
 apply a_fun_call_ints
 unfold t_fun_call_ints_0
 refine pu_boxX (cs := [u]) (by have := a.ru.c1; simp [allCells, this.2]) fun h1 b1 w1 => ?_
 have n1 := w1.n
 have a1 := a.ext (w1.ext (Nat.le_refl _))
 rw [fa_fun_call_0, pu_load1 l_sl_api_Arg w1.at_ rfl, pu_len a1.ru s_sl_api_Arg]
 apply r_fun_call_ints_1
 unfold t_fun_call_ints_1
 rw [show ((.int .i64 (1 : Nat)) : V) = .int .i64 1 from rfl, pu_lss, decide_eq_true (by decide), pu_cond_t]
 obtain ⟨b, o, k1, k2, _⟩ := rd_getS a1.ru s_sl_api_Arg l_api_Arg (by omega) (i := 0) (by omega) (l := [.bool true, .int .i64 c, w]) rfl
 have k1' := k1 .i64
 rw [show ((0 : Nat) : Int) = 0 from rfl] at k1'
 rw [k1', k2]
 refine sbox l_api_Arg _ rfl a.c1 fun h2 b2 w2 => ?_
 have n2 := w2.n
 have e2 := w2.b
 have a2 := a1.ext (w2.ext (Nat.le_refl _))
 rw [fa_api_Arg_2, pu_load1 l_sl_api_Val w2.at_ rfl, pu_len a2.rw_ s_sl_api_Val]
 refine ints_loop2 a2.rw_ a2.iw (by omega) w2.at_ a.hl (fun h3 o3 x3 q3 => ?_) l.length 0 h2 .nils (by omega) (by omega) (Ext.refl _ _) (Own.nil _ _ _ _)
 have n3 := x3.n
 apply r_fun_call_ints_2
 unfold t_fun_call_ints_2
 rw [pu_lss, decide_eq_false (by omega), pu_cond_f, pu_add, show IntKind.i64.wrap (0 + 1) = 1 from by decide]
 apply r_fun_call_ints_1
 unfold t_fun_call_ints_1
 rw [pu_lss, decide_eq_false (by decide), pu_cond_f]
 exact ⟨o3, rfl, q3.mono (by omega), (w1.ext (Nat.le_refl _)).trans ((w2.ext (by omega)).trans (x3.mono (by omega)))⟩
def foldV : List Vl → Vl → Vl
 | [], a => a
 | v :: l, a => foldV l (twoS 16 a v)
theorem foldV_snoc : ∀ (l : List Vl) (v a : Vl), foldV (l ++ [v]) a = twoS 16 (foldV l a) v
 | [], v, a => rfl
 | x :: l, v, a => foldV_snoc l v (twoS 16 a x)
theorem foldV_ints : ∀ (l : List Vl) (a : Vl), foldV (intsL l) a = addAll l a
 | [], a => rfl
 | v :: l, a => by
  unfold intsL addAll
  by_cases h : v.k = 1
  ·rw [List.filter_cons_of_pos (by simpa using h), if_pos h]; exact foldV_ints l _
  ·rw [List.filter_cons_of_neg (by simpa using h), if_neg h]; exact foldV_ints l _
theorem may_fold : ∀ (l : List Vl) (a : Vl), (∀ v ∈ l, MayV v) → MayV a → MayV (foldV l a)
 | [], a, _, h => h
 | v :: l, a, hl, h => may_fold l _ (fun x hx => hl x (List.mem_cons_of_mem _ hx)) (may_two h (hl v List.mem_cons_self) (.inr (.inr (.inl rfl))))
theorem sum_loop {h0 : Hp} {w : V} {l : List Vl} {b2 b5 : Nat} (hr : RdV h0 w l) (hw : In h0.n w) (hb2 : b2 < h0.n) (hb25 : b2 ≠ b5) (h5 : b5 < h0.n) {cs : List V} (hc : cs.length = 3) (hg2 : h0.t.get b2 = some (.cells cs 48 false)) (hw5 : ∀ b, blkOf w = some b → b ≠ b5) (hm : ∀ v ∈ l, MayV v) (hl : l.length ≤ 1000000) {Q : QQ}
  (hq : ∀ h', h0.n ≤ h'.n → (∀ c, c < h0.n → c ≠ b5 → c ≠ b2 → h'.t.get c = h0.t.get c) → Q (valV (foldV l (vlN 0))) h') :
  ∀ m i (h : Hp), l.length - i ≤ m → i ≤ l.length → h0.n ≤ h.n → (∀ c, c < h0.n → c ≠ b5 → h.t.get c = h0.t.get c) → h.t.get b5 = some (.cells (vlC (foldV (l.take i) (vlN 0))) 48 false) → L_fun_call_sum_1 Q (.ptr b2 0) (.ptr b5 0) w (.int .i64 l.length) (.int .i64 i) h := by
 have fin : ∀ (h : Hp), h0.n ≤ h.n → (∀ c, c < h0.n → c ≠ b5 → h.t.get c = h0.t.get c) → h.t.get b5 = some (.cells (vlC (foldV l (vlN 0))) 48 false) → L_fun_call_sum_1 Q (.ptr b2 0) (.ptr b5 0) w (.int .i64 l.length) (.int .i64 l.length) h := by
  intro h hn hk hb5
  apply r_fun_call_sum_1
  unfold t_fun_call_sum_1
  rw [pu_lss, decide_eq_false (by omega), pu_cond_f, pu_loadS l_api_Val hb5 (l := vlC _) rfl]
  refine retV ((hk b2 hb2 hb25).trans hg2) hc _ fun h' w' => hq h' (by rw [w'.n]; omega) fun c h1 h2 h3 => by rw [w'.other c h3, hk c h1 h2]
 intro m
 induction m with
 | zero =>
  intro i h hm2 hi hn hk hb5
  have : i = l.length := by omega
  subst this
  rw [List.take_length] at hb5
  exact fin h hn hk hb5
 | succ m ih =>
  intro i h hm2 hi hn hk hb5
  by_cases hil : i < l.length
  ·apply r_fun_call_sum_1
   unfold t_fun_call_sum_1
   rw [pu_lss, decide_eq_true (by omega), pu_cond_t]
   obtain ⟨y, hy⟩ : ∃ y, l[i]? = some y := ⟨l[i], List.getElem?_eq_getElem hil⟩
   have hr' : RdV h w l := hr.same fun c hc => hk c (hw c hc) (hw5 c hc)
   obtain ⟨b, of, k1, k2, _⟩ := rd_val hr' hy
   rw [k1, k2]
   refine vbox y fun h1 b1 w1 => ?_
   have n1 := w1.n
   have e1 := w1.b
   have hb5' : h1.t.get b5 = some (.cells (vlC (foldV (l.take i) (vlN 0))) 48 false) := by rw [w1.old b5 (by omega)]; exact hb5
   rw [pu_loadS l_api_Val hb5' (l := vlC _) rfl, pu_loadS l_api_Val w1.at_ (l := vlC y) rfl]
   have hy' : y ∈ l := List.mem_of_getElem? hy
   refine (two_ok 16 (foldV (l.take i) (vlN 0)) y (may_fold _ _ (fun v hv => hm v (List.mem_of_mem_take hv)) (mayN (by simp [Fit64]))) (hm y hy') (.inr (.inr (.inl rfl))) h1).mono ?_
   rintro z h2 ⟨rfl, x2⟩
   have n2 := x2.n
   refine pu_storeX l_api_Val (by rw [x2.old b5 (by omega)]; exact hb5') (x := valV (twoS 16 (foldV (l.take i) (vlN 0)) y)) rfl rfl (r := vlC (twoS 16 (foldV (l.take i) (vlN 0)) y)) rfl fun h3 w3 => ?_
   have n3 := w3.n
   rw [pu_inc _ _ _ _ (by omega)]
   refine ih (i + 1) h3 (by omega) (by omega) (by omega) (fun c h1' h2' => ?_) ?_
   ·rw [w3.other c h2', x2.old c (by omega), w1.old c (by omega), hk c h1' h2']
   ·have tk : l.take (i + 1) = l.take i ++ [y] := by rw [List.take_add_one, hy]; rfl
    rw [tk, foldV_snoc]
    exact w3.at_
  ·have : i = l.length := by omega
   subst this
   rw [List.take_length] at hb5
   exact fin h hn hk hb5
theorem sum_ok {h : Hp} {u : V} {c : Int} {w : V} {l : List Vl} (a : Arg1 h u c w l) (hm : ∀ v ∈ l, MayV v) : Ans EE 216 [.agg [u]] h fun x h' => x = valV (addAll l (vlN 0)) ∧ Ext h.n h h' := by
 apply a_fun_call_sum
 unfold t_fun_call_sum_0
 refine pu_boxX (cs := [u]) (by have := a.ru.c1; simp [allCells, this.2]) fun h1 b1 w1 => ?_
 refine pu_allocX l_api_Val fun h2 b2 w2 => ?_
 have n1 := w1.n
 have e1 := w1.b
 have n2 := w2.n
 have e2 := w2.b
 have hb1 : h2.t.get b1 = some (.cells [u] 189 false) := by rw [w2.old b1 (by omega)]; exact w1.at_
 rw [pu_loadS l_fun_call hb1 (l := [u]) rfl]
 have X2 : Ext h.n h h2 := (w1.ext (Nat.le_refl _)).trans (w2.ext (by omega))
 refine (ints_ok (a.ext X2)).mono ?_
 rintro y h3 ⟨o, rfl, ho, x3⟩
 have n3 := x3.n
 rw [pu_extr0, pu_extr1, pu_not, Bool.not_true, pu_cond_f]
 refine (num_ok 0 h3).mono ?_
 rintro y h4 ⟨rfl, x4⟩
 have n4 := x4.n
 refine vbox (vlN 0) fun h5 b5 w5 => ?_
 have n5 := w5.n
 have e5 := w5.b
 have hh : ∀ b, blkOf o = some b → b < h3.n := fun b hb => ho.in_ b hb
 have ho5 : OwnV h2.n h5 o (intsL l) := ho.keep (by omega) fun d hd => by rw [w5.old d (by have := hh d hd; omega), x4.old d (hh d hd)]
 rw [pu_len ho5.rd s_sl_api_Val]
 have hlen : (intsL l).length ≤ l.length := List.length_filter_le _ _
 have hl := a.hl
 have hb2 : h5.t.get b2 = some (.cells [.int .i64 0, .int .i64 0, .str []] 48 false) := by rw [w5.old b2 (by omega), x4.old b2 (by omega), x3.old b2 (by omega)]; exact w2.at_
 refine sum_loop (l := intsL l) ho5.rd (fun b hb => by have := hh b hb; omega) (by omega) (by omega) (by omega) rfl hb2 (fun b hb => by have := hh b hb; omega) (fun v hv => hm v ((List.mem_filter.1 hv).1)) (by omega) (fun h6 k1 k2 => ⟨by rw [foldV_ints], by omega, fun d hd => ?_⟩) (intsL l).length 0 h5 (by omega) (by omega) (Nat.le_refl _) (fun _ _ _ => rfl) w5.at_
 rw [k2 d (by omega) (by omega) (by omega), w5.old d (by omega), x4.old d (by omega), x3.old d (by omega), X2.old d hd]
end
end Go.Proofs.YtbchdlelmkmagaaGreatDoor.VM
namespace Go.Proofs.YtbchdlelmkmagaaGreatDoor.VM
open Go
set_option linter.unusedVariables false
set_option linter.unusedSectionVars false
set_option linter.unusedSimpArgs false
set_option maxRecDepth 20000
noncomputable section
attribute [local instance] syZ
def argCs (ws : List V) : List V := ws.flatMap fun w => [.bool false, .int .i64 0, w]
structure ArgN (h : Hp) (u : V) (ws : List V) (l : List Vl) : Prop where
 ru : Rd h 3 u ws.length (argCs ws)
 len : ws.length = l.length
 iu : In h.n u
 at_ : ∀ (i : Nat) (w : V) (x : Vl), ws[i]? = some w → l[i]? = some x → RdV h w [x] ∧ In h.n w
theorem ArgN.ext {h h' : Hp} {u : V} {ws : List V} {l : List Vl} (a : ArgN h u ws l) (x : Ext h.n h h') : ArgN h' u ws l :=
 ⟨a.ru.ext x a.iu, a.len, a.iu.mono x.n, fun i w y h1 h2 => ⟨(a.at_ i w y h1 h2).1.ext x (a.at_ i w y h1 h2).2, (a.at_ i w y h1 h2).2.mono x.n⟩⟩
theorem argCs_at : ∀ (ws : List V) (i : Nat) (w : V), ws[i]? = some w → ((argCs ws).drop (i * 3)).take 3 = [.bool false, .int .i64 0, w]
 | [], i, s, h => by simp at h
 | a :: l, 0, s, h => by
  simp only [List.getElem?_cons_zero, Option.some.injEq] at h
  subst h
  simp [argCs]
 | a :: l, i + 1, s, h => by
  simp only [List.getElem?_cons_succ] at h
  have := argCs_at l i s h
  have e : (argCs (a :: l)).drop ((i + 1) * 3) = (argCs l).drop (i * 3) := by
   have : (i + 1) * 3 = 3 + i * 3 := by omega
   rw [this]
   unfold argCs
   rw [List.flatMap_cons, ← List.drop_drop]
   congr 1
  rw [e, this]
theorem ArgN.get {h : Hp} {u : V} {ws : List V} {l : List Vl} (a : ArgN h u ws l) {i : Nat} {x : Vl} (hx : l[i]? = some x) :
  ∃ w b o vs f ro, ws[i]? = some w ∧ RdV h w [x] ∧ In h.n w ∧ (∀ (k : IntKind) (q : V → Prop), (Pu EE).iaddr 131 u (.int k i) q ↔ q (.ptr b o)) ∧ (∀ q : V → Prop, (Pu EE).load h 133 (.ptr b o) q ↔ q (.agg [.bool false, .int .i64 0, w])) ∧ h.t.get b = some (.cells vs f ro) ∧ vs[o + 2]? = some w := by
 have hi := (List.getElem?_eq_some_iff.1 hx).1
 have hiw : i < ws.length := by rw [a.len]; exact hi
 have hw : ws[i]? = some ws[i] := List.getElem?_eq_getElem hiw
 obtain ⟨b, o, h1, h2, h3, vs, f, ro, h4, h5, h6⟩ := rd_getS a.ru s_sl_api_Arg l_api_Arg (by omega) hiw (argCs_at ws i _ hw)
 exact ⟨ws[i], b, o, vs, f, ro, hw, (a.at_ i _ x hw hx).1, (a.at_ i _ x hw hx).2, h1, h2, h4, h6 2 _ rfl⟩
theorem one_ok {h : Hp} {u : V} {ws : List V} {l : List Vl} (a : ArgN h u ws l) {i : Nat} {x : Vl} (hx : l[i]? = some x) (z : Int) (hz : z = (i : Int)) : Ans EE 267 [.agg [u], .int .i64 z] h fun y h' => y = valV x ∧ Ext h.n h h' := by
 subst hz
 apply a_fun_call_one
 unfold t_fun_call_one_0
 refine pu_boxX (cs := [u]) (by have := a.ru.c1; simp [allCells, this.2]) fun h1 b1 w1 => ?_
 refine pu_allocX l_api_Val fun h2 b2 w2 => ?_
 have n1 := w1.n
 have e1 := w1.b
 have n2 := w2.n
 have e2 := w2.b
 have hb1 : h2.t.get b1 = some (.cells [u] 189 false) := by rw [w2.old b1 (by omega)]; exact w1.at_
 have X2 : Ext h.n h h2 := (w1.ext (Nat.le_refl _)).trans (w2.ext (by omega))
 rw [fa_fun_call_0, pu_load1 l_sl_api_Arg hb1 rfl]
 obtain ⟨w, b, o, vs, f, ro, g1, g2, g3, g4, g5, g6, g7⟩ := (a.ext X2).get hx
 rw [g4, fa_api_Arg_2, pu_load1 l_sl_api_Val g6 g7]
 obtain ⟨b', o', k1, k2, _⟩ := rd_val (l := [x]) g2 (i := 0) (x := x) rfl
 have k1' := k1 .i64
 rw [show ((0 : Nat) : Int) = 0 from rfl] at k1'
 rw [k1', k2]
 refine retV w2.at_ rfl x fun h3 w3 => ⟨rfl, by rw [w3.n]; omega, fun c hc => ?_⟩
 rw [w3.other c (by omega), X2.old c hc]
theorem fork_ok {h : Hp} {u : V} {ws : List V} {x y z : Vl} (a : ArgN h u ws [x, y, z]) (mx : MayV x) : Ans EE 222 [.agg [u]] h fun v h' => v = valV (ifS x y z) ∧ Ext h.n h h' := by
 apply a_fun_call_fork
 unfold t_fun_call_fork_0
 refine pu_boxX (cs := [u]) (by have := a.ru.c1; simp [allCells, this.2]) fun h1 b1 w1 => ?_
 refine pu_allocX l_api_Val fun h2 b2 w2 => ?_
 have n1 := w1.n
 have e1 := w1.b
 have n2 := w2.n
 have e2 := w2.b
 have hb1 : h2.t.get b1 = some (.cells [u] 189 false) := by rw [w2.old b1 (by omega)]; exact w1.at_
 have X2 : Ext h.n h h2 := (w1.ext (Nat.le_refl _)).trans (w2.ext (by omega))
 rw [pu_loadS l_fun_call hb1 (l := [u]) rfl]
 refine (one_ok (a.ext X2) (i := 0) (x := x) rfl 0 rfl).mono ?_
 rintro v h3 ⟨rfl, x3⟩
 have n3 := x3.n
 refine vbox x fun h4 b4 w4 => ?_
 have n4 := w4.n
 have e4 := w4.b
 rw [pu_loadS l_api_Val w4.at_ (l := vlC x) rfl]
 refine (truth_ok x mx h4).mono ?_
 rintro v h5 ⟨rfl, x5⟩
 have n5 := x5.n
 have hb4 : h5.t.get b4 = some (.cells (vlC x) 48 false) := by rw [x5.old b4 (by omega)]; exact w4.at_
 have hb1' : h5.t.get b1 = some (.cells [u] 189 false) := by rw [x5.old b1 (by omega), w4.old b1 (by omega), x3.old b1 (by omega)]; exact hb1
 have hb2 : h5.t.get b2 = some (.cells [.int .i64 0, .int .i64 0, .str []] 48 false) := by rw [x5.old b2 (by omega), w4.old b2 (by omega), x3.old b2 (by omega)]; exact w2.at_
 have X5 : Ext h.n h h5 := ⟨by omega, fun c hc => by rw [x5.old c (by omega), w4.old c (by omega), x3.old c (by omega), X2.old c hc]⟩
 have fin : ∀ (h' : Hp) (v : Vl), v = ifS x y z → Ext h5.n h5 h' → (Pu EE).store h' 48 (.ptr b2 0) (valV v) fun h58 => (Pu EE).load h58 48 (.ptr b2 0) fun x59 => x59 = valV (ifS x y z) ∧ Ext h.n h h58 := by
  intro h' v e x'
  subst e
  have n' := x'.n
  refine retV ((x'.old b2 (by omega)).trans hb2) rfl _ fun h2 w => ⟨rfl, by have := w.n; omega, fun c hc => ?_⟩
  rw [w.other c (by omega), x'.old c (by omega), X5.old c hc]
 rw [pu_extr0, pu_extr1, fa_api_Val_0, pu_load1 l_int hb4 rfl, eqlK x.k 4 4 rfl]
 by_cases hk : x.k = 4
 ·rw [decide_eq_true hk, pu_cond_t, pu_loadS l_api_Val hb4 (l := vlC x) rfl]
  exact fin h5 x (by unfold ifS; rw [if_pos hk]) (Ext.refl _ _)
 rw [decide_eq_false hk, pu_cond_f, pu_not]
 cases ht : truthV x with
 | none =>
  rw [Option.isSome_none, Bool.not_false, pu_cond_t]
  refine (err_ok 1 1 rfl h5).mono ?_
  rintro v h6 ⟨rfl, x6⟩
  exact fin h6 _ (by unfold ifS; rw [if_neg hk, ht]) x6
 | some t =>
  rw [Option.isSome_some, Bool.not_true, pu_cond_f, Option.getD_some]
  cases t with
  | true =>
   rw [pu_cond_t, pu_loadS l_fun_call hb1' (l := [u]) rfl]
   refine (one_ok (a.ext X5) (i := 1) (x := y) rfl 1 rfl).mono ?_
   rintro v h6 ⟨rfl, x6⟩
   exact fin h6 _ (by unfold ifS; rw [if_neg hk, ht]) x6
  | false =>
   have a5 := a.ext X5
   have hl3 : ws.length = 3 := a.len
   rw [pu_cond_f, fa_fun_call_0, pu_load1 l_sl_api_Arg hb1' rfl, pu_len a5.ru s_sl_api_Arg, eqlK ws.length 2 2 rfl, decide_eq_false (by omega), pu_cond_f, pu_loadS l_fun_call hb1' (l := [u]) rfl]
   refine (one_ok a5 (i := 2) (x := z) rfl 2 rfl).mono ?_
   rintro v h6 ⟨rfl, x6⟩
   exact fin h6 _ (by unfold ifS; rw [if_neg hk, ht]) x6
end
end Go.Proofs.YtbchdlelmkmagaaGreatDoor.VM
