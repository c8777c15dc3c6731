/- chequerref21.MayPast. Written by pmaypgen.py. -/
import Derived.Test.YtfhgnolfhiffbaaPMay
import Derived.BigQuiet
namespace Go.Proofs.Ytfhgnolfhiffbaa
open Go.RowKit Go.Maps
set_option maxRecDepth 100000 in
set_option linter.unusedSimpArgs false in
set_option linter.unusedVariables false in
set_option maxHeartbeats 4000000 in
theorem mayPast_any (w : World) (A : Option Addr) (l : List HC) (c : Nat) (h : AtC w A l) (hcap : l.length ≤ c) :
    Calls Try.prog 16 #[.slice A l.length c] w (MayPost w l) := by
  have hlen := h.1
  go_enter Try.func16, Try.ntmps16
  go_wp2_with fail
  go_loopw [3] (fun u wr => ∃ k : Nat, k ≤ l.length ∧ u = .int .i64 k ∧ Hid (∀ i c, i < k → l[i]? = some c → MayAt l i c) ∧ Below w.heap.size w wr) (fun u _ => l.length - (intOf u).toNat)
  case atStart => exact ⟨0, Nat.zero_le _, rfl, fun i c hi => absurd hi (Nat.not_lt_zero i), Below.refl _ _⟩
  case round =>
    obtain ⟨i, hi, rfl, hpre, hb⟩ := hrel
    have hsr := hb.size
    by_cases hlt : i < l.length
    · obtain ⟨y, hy⟩ : ∃ y, l[i]? = some y := ⟨_, List.getElem?_eq_getElem hlt⟩
      have HY := Lib.hid hy
      have hyi : (idsOf l)[i]? = some y.id := by unfold idsOf; rw [List.getElem?_map, hy]; rfl
      have hyle : posN (idsOf l) y.id ≤ i := by
        rcases Nat.lt_or_ge i (posN (idsOf l) y.id) with h9 | h9
        · have := posN_here (Nat.le_of_lt h9) hyi; omega
        · exact h9
      have hatr := h.below hb
      have HATN := Lib.hid (fun n => hatr.below (below_drewN (Below.refl wr.heap.size wr) n))
      obtain ⟨bb, oo, hAe, hcc⟩ := hatr.2.2 (by omega)
      obtain ⟨c0, c1, _, _⟩ := hcc i y hy
      subst hAe
      have hf := fun W (hW : AtC W (some ⟨bb, oo, none⟩) l) => at_any W _ (l.take i) c (hW.take i) y.id
      have e1 : (l.take i).length = i := by rw [List.length_take]; omega
      rw [e1, posI_take l i (by omega)] at hf
      obtain ⟨m, hm⟩ : ∃ m, posN (idsOf l) y.id = m := ⟨_, rfl⟩
      rw [hm] at hf hyle
      have HPM := Lib.hid hm
      have HP := Lib.hid (hatr.2.1 y (List.mem_of_getElem? hy))
      have hpl := HP.out.1
      obtain ⟨pn, hpn⟩ : ∃ pn, y.ps.length = pn := ⟨_, rfl⟩
      rw [hpn] at hpl
      obtain ⟨YA, hYA⟩ : ∃ YA, y.A = YA := ⟨_, rfl⟩
      rw [hpn, hYA] at c1
      have HYA := Lib.hid hYA
      have HPN := Lib.hid hpn
      clear hcc hyi e1 hy hm hpn hYA
      by_cases k1 : m = i
      · rw [if_neg (by omega)] at hf
        have HF := Lib.hid hf
        have K1 := Lib.hid k1
        clear k1 hf
        by_cases k2 : pn ≤ 2
        · by_cases k3 : pn = 2
          · obtain ⟨p, q, hpq⟩ : ∃ p q, y.ps = [p, q] := by
              have := HPN.out
              rw [k3] at this
              match y.ps, this with
              | [p, q], _ => exact ⟨p, q, rfl⟩
            obtain ⟨pa, hpa, hpc⟩ := HP.out.2 (by rw [HPN.out]; omega)
            have hp0 := hpc 0 p (by rw [hpq]; rfl)
            have p1a := hpc 1 q (by rw [hpq]; rfl)
            rw [add_zero_] at hp0
            have p1b : wr.cell? ⟨pa.block, pa.off + 1, none⟩ = some (vStr q) := by unfold Addr.add at p1a; rw [if_neg (by omega)] at p1a; exact p1a
            by_cases k4 : p = q
            · have HPQ := Lib.hid hpq
              have HNO := Lib.hid (show ¬ MayAt l i y from fun h9 => h9.2.2.1 p q HPQ.out k4)
              have z2 : decide (2 < (pn : Int)) = false := decide_eq_false (by omega)
              have z3 : ((pn : Int) == 2) = true := beq_iff_eq.2 (by omega)
              have z4 := str_eq_true k4
              have hYA := HYA.out.symm.trans hpa
              cases hYA
              have z5 : 0 < pn := by omega
              have z6 : 1 < pn := by omega
              clear hpc hpq hpa k3
              go_wp2_with fail
              go_quiet (first | (go_at_call 11; refine Calls.quiet_of_same (HF.out _ (HATN.out _))))
              have hb6 := below_drewN hb nq
              have hat5 := hatr.below (below_drewN (Below.refl wr.heap.size wr) nq)
              generalize wr.drewN nq = w5 at hb6 hat5 ⊢
              go_wp2_with fail
              go_ret
              exact ⟨false, rfl, ⟨fun h9 => (by cases h9), fun h9 => absurd (h9 i y HY.out) HNO.out⟩, hb6⟩
            · have HPQ := Lib.hid hpq
              have HTW := Lib.hid (show ∀ p q, y.ps = [p, q] → p ≠ q from fun a b hab => by rw [HPQ.out] at hab; injection hab with e1 e2; injection e2 with e2 _; rw [← e1, ← e2]; exact k4)
              have z2 : decide (2 < (pn : Int)) = false := decide_eq_false (by omega)
              have z3 : ((pn : Int) == 2) = true := beq_iff_eq.2 (by omega)
              have z4 := str_eq_false k4
              have hYA := HYA.out.symm.trans hpa
              cases hYA
              have z5 : 0 < pn := by omega
              have z6 : 1 < pn := by omega
              clear hpc hpq hpa k3
              go_wp2_with fail
              go_quiet (first | (go_at_call 11; refine Calls.quiet_of_same (HF.out _ (HATN.out _))))
              have hb6 := below_drewN hb nq
              have hat5 := hatr.below (below_drewN (Below.refl wr.heap.size wr) nq)
              generalize wr.drewN nq = w5 at hb6 hat5 ⊢
              clear hp0 p1a p1b
              go_wp2_with fail
              go_loopw [5] (fun u wi => ∃ j : Nat, j ≤ pn ∧ u = .int .i64 j ∧ Hid (∀ k p, k < j → y.ps[k]? = some p → posN (idsOf l) p < i) ∧ Below w5.heap.size w5 wi) (fun u _ => pn - (intOf u).toNat)
              case atStart => exact ⟨0, Nat.zero_le _, rfl, fun k p hk => absurd hk (Nat.not_lt_zero k), Below.refl _ _⟩
              case round =>
                obtain ⟨j, hj, rfl, hpr, hbi⟩ := hrel
                have hb7 := hb6.trans (hbi.mono hb6.size)
                clear hatr HATN HF hb
                generalize hgen : wr = wi at *
                by_cases hjl : j < pn
                · obtain ⟨p, hp⟩ : ∃ p, y.ps[j]? = some p := ⟨_, List.getElem?_eq_getElem (by rw [HPN.out]; exact hjl)⟩
                  have hat7 := hat5.below hbi
                  have HATN := Lib.hid (fun n => hat7.below (below_drewN (Below.refl wi.heap.size wi) n))
                  have HP7 := hat7.2.1 y (List.mem_of_getElem? HY.out)
                  obtain ⟨pa, hpa, hpc⟩ := HP7.2 (by rw [HPN.out]; omega)
                  have pj := hpc j p hp
                  have hf := fun W (hW : AtC W (some ⟨bb, oo, none⟩) l) => at_any W _ (l.take i) c (hW.take i) p
                  have e1 : (l.take i).length = i := by rw [List.length_take]; omega
                  rw [e1, posI_take l i (by omega)] at hf
                  have HF := Lib.hid hf
                  have hpm := List.mem_of_getElem? hp
                  have HJ := Lib.hid hp
                  have hYA := HYA.out.symm.trans hpa
                  cases hYA
                  clear hpc hf e1 hp hpa
                  by_cases hpi : posN (idsOf l) p < i
                  · rw [if_pos hpi] at HF
                    obtain ⟨pp, hpp⟩ : ∃ pp, posN (idsOf l) p = pp := ⟨_, rfl⟩
                    rw [hpp] at HF
                    clear hpp
                    go_wp2_with fail
                    go_quiet (first | (go_at_call 11; refine Calls.quiet_of_same (HF.out _ (HATN.out _))))
                    go_wp2_with fail
                    go_roundw
                    case rel =>
                      refine ⟨j + 1, by omega, by go_num, fun k q hk hq => ?_, below_drewN hbi _⟩
                      rcases Nat.lt_or_ge k j with h8 | h8
                      · exact hpr.out k q h8 hq
                      · have e : k = j := by omega
                        rw [e, HJ.out] at hq
                        injection hq with hq
                        rw [← hq]; exact hpi
                    case measure => first | (simp [intOf]; done) | (simp [intOf]; omega)
                  · rw [if_neg hpi] at HF
                    have HNO := Lib.hid (show ¬ MayAt l i y from fun h9 => hpi (h9.2.2.2 p hpm))
                    go_wp2_with fail
                    go_quiet (first | (go_at_call 11; refine Calls.quiet_of_same (HF.out _ (HATN.out _))))
                    have hb9 := below_drewN hb7 nq
                    go_wp2_with fail
                    go_ret
                    exact ⟨false, rfl, ⟨fun h9 => (by cases h9), fun h9 => absurd (h9 i y HY.out) HNO.out⟩, hb9⟩
                · have hje : j = pn := by omega
                  have HYES := Lib.hid (show MayAt l i y from ⟨HPM.out.trans K1.out, by rw [HPN.out]; exact k2, HTW.out, fun p hp => by
                    obtain ⟨k, hk⟩ := List.mem_iff_getElem?.1 hp
                    refine hpr.out k p ?_ hk
                    have := (List.getElem?_eq_some_iff.1 hk).1
                    rw [HPN.out] at this
                    omega⟩)
                  go_wp2_with fail
                  go_roundw
                  case rel =>
                    refine ⟨i + 1, by omega, by go_num, fun k q hk hq => ?_, hb7⟩
                    rcases Nat.lt_or_ge k i with h8 | h8
                    · exact hpre.out k q h8 hq
                    · have e : k = i := by omega
                      rw [e, HY.out] at hq
                      injection hq with hq
                      rw [e, ← hq]; exact HYES.out
                  case measure => first | (simp [intOf]; done) | (simp [intOf]; omega)
          · have HTW := Lib.hid (show ∀ p q, y.ps = [p, q] → p ≠ q from fun a b hab => by have := HPN.out; rw [hab] at this; exact absurd this.symm k3)
            have z2 : decide (2 < (pn : Int)) = false := decide_eq_false (by omega)
            have z3 : ((pn : Int) == 2) = false := beq_eq_false_iff_ne.2 (by omega)
            go_wp2_with fail
            go_quiet (first | (go_at_call 11; refine Calls.quiet_of_same (HF.out _ (HATN.out _))))
            have hb6 := below_drewN hb nq
            have hat5 := hatr.below (below_drewN (Below.refl wr.heap.size wr) nq)
            generalize wr.drewN nq = w5 at hb6 hat5 ⊢
            go_wp2_with fail
            go_loopw [5] (fun u wi => ∃ j : Nat, j ≤ pn ∧ u = .int .i64 j ∧ Hid (∀ k p, k < j → y.ps[k]? = some p → posN (idsOf l) p < i) ∧ Below w5.heap.size w5 wi) (fun u _ => pn - (intOf u).toNat)
            case atStart => exact ⟨0, Nat.zero_le _, rfl, fun k p hk => absurd hk (Nat.not_lt_zero k), Below.refl _ _⟩
            case round =>
              obtain ⟨j, hj, rfl, hpr, hbi⟩ := hrel
              have hb7 := hb6.trans (hbi.mono hb6.size)
              clear hatr HATN HF hb
              generalize hgen : wr = wi at *
              by_cases hjl : j < pn
              · obtain ⟨p, hp⟩ : ∃ p, y.ps[j]? = some p := ⟨_, List.getElem?_eq_getElem (by rw [HPN.out]; exact hjl)⟩
                have hat7 := hat5.below hbi
                have HATN := Lib.hid (fun n => hat7.below (below_drewN (Below.refl wi.heap.size wi) n))
                have HP7 := hat7.2.1 y (List.mem_of_getElem? HY.out)
                obtain ⟨pa, hpa, hpc⟩ := HP7.2 (by rw [HPN.out]; omega)
                have pj := hpc j p hp
                have hf := fun W (hW : AtC W (some ⟨bb, oo, none⟩) l) => at_any W _ (l.take i) c (hW.take i) p
                have e1 : (l.take i).length = i := by rw [List.length_take]; omega
                rw [e1, posI_take l i (by omega)] at hf
                have HF := Lib.hid hf
                have hpm := List.mem_of_getElem? hp
                have HJ := Lib.hid hp
                have hYA := HYA.out.symm.trans hpa
                cases hYA
                clear hpc hf e1 hp hpa
                by_cases hpi : posN (idsOf l) p < i
                · rw [if_pos hpi] at HF
                  obtain ⟨pp, hpp⟩ : ∃ pp, posN (idsOf l) p = pp := ⟨_, rfl⟩
                  rw [hpp] at HF
                  clear hpp
                  go_wp2_with fail
                  go_quiet (first | (go_at_call 11; refine Calls.quiet_of_same (HF.out _ (HATN.out _))))
                  go_wp2_with fail
                  go_roundw
                  case rel =>
                    refine ⟨j + 1, by omega, by go_num, fun k q hk hq => ?_, below_drewN hbi _⟩
                    rcases Nat.lt_or_ge k j with h8 | h8
                    · exact hpr.out k q h8 hq
                    · have e : k = j := by omega
                      rw [e, HJ.out] at hq
                      injection hq with hq
                      rw [← hq]; exact hpi
                  case measure => first | (simp [intOf]; done) | (simp [intOf]; omega)
                · rw [if_neg hpi] at HF
                  have HNO := Lib.hid (show ¬ MayAt l i y from fun h9 => hpi (h9.2.2.2 p hpm))
                  go_wp2_with fail
                  go_quiet (first | (go_at_call 11; refine Calls.quiet_of_same (HF.out _ (HATN.out _))))
                  have hb9 := below_drewN hb7 nq
                  go_wp2_with fail
                  go_ret
                  exact ⟨false, rfl, ⟨fun h9 => (by cases h9), fun h9 => absurd (h9 i y HY.out) HNO.out⟩, hb9⟩
              · have hje : j = pn := by omega
                have HYES := Lib.hid (show MayAt l i y from ⟨HPM.out.trans K1.out, by rw [HPN.out]; exact k2, HTW.out, fun p hp => by
                  obtain ⟨k, hk⟩ := List.mem_iff_getElem?.1 hp
                  refine hpr.out k p ?_ hk
                  have := (List.getElem?_eq_some_iff.1 hk).1
                  rw [HPN.out] at this
                  omega⟩)
                go_wp2_with fail
                go_roundw
                case rel =>
                  refine ⟨i + 1, by omega, by go_num, fun k q hk hq => ?_, hb7⟩
                  rcases Nat.lt_or_ge k i with h8 | h8
                  · exact hpre.out k q h8 hq
                  · have e : k = i := by omega
                    rw [e, HY.out] at hq
                    injection hq with hq
                    rw [e, ← hq]; exact HYES.out
                case measure => first | (simp [intOf]; done) | (simp [intOf]; omega)
        · have HNO := Lib.hid (show ¬ MayAt l i y from fun h9 => k2 (by have := h9.2.1; rw [HPN.out] at this; exact this))
          have z2 : decide (2 < (pn : Int)) = true := decide_eq_true (by omega)
          have z3 : ((pn : Int) == 2) = false := beq_eq_false_iff_ne.2 (by omega)
          go_wp2_with fail
          go_quiet (first | (go_at_call 11; refine Calls.quiet_of_same (HF.out _ (HATN.out _))))
          have hb6 := below_drewN hb nq
          have hat5 := hatr.below (below_drewN (Below.refl wr.heap.size wr) nq)
          generalize wr.drewN nq = w5 at hb6 hat5 ⊢
          go_wp2_with fail
          go_ret
          exact ⟨false, rfl, ⟨fun h9 => (by cases h9), fun h9 => absurd (h9 i y HY.out) HNO.out⟩, hb6⟩
      · rw [if_pos (by omega)] at hf
        have HF := Lib.hid hf
        have HNO := Lib.hid (show ¬ MayAt l i y from fun h9 => k1 (HPM.out.symm.trans h9.1))
        clear hf
        go_wp2_with fail
        go_quiet (first | (go_at_call 11; refine Calls.quiet_of_same (HF.out _ (HATN.out _))))
        have hb6 := below_drewN hb nq
        have hat5 := hatr.below (below_drewN (Below.refl wr.heap.size wr) nq)
        generalize wr.drewN nq = w5 at hb6 hat5 ⊢
        go_wp2_with fail
        go_ret
        exact ⟨false, rfl, ⟨fun h9 => (by cases h9), fun h9 => absurd (h9 i y HY.out) HNO.out⟩, hb6⟩
    · have hie : i = l.length := by omega
      go_wp2_with fail
      go_ret
      exact ⟨true, rfl, ⟨fun _ k y hy => hpre.out k y (by have := (List.getElem?_eq_some_iff.1 hy).1; omega) hy, fun _ => rfl⟩, hb⟩
end Go.Proofs.Ytfhgnolfhiffbaa
