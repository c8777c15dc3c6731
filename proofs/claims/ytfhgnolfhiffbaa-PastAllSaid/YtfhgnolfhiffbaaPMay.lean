/- past.May, chequerref21.MayPast. Written by pmaygen.py. -/
import Derived.Test.YtfhgnolfhiffbaaPMake
import Derived.Test.YtfhgnolfhiffbaaPRefB
namespace Go.Proofs.Ytfhgnolfhiffbaa
open Go.RowKit Go.Maps
def MayAt (l : List HC) (i : Nat) (c : HC) : Prop := posN (idsOf l) c.id = i ∧ c.ps.length ≤ 2 ∧ (∀ p q, c.ps = [p, q] → p ≠ q) ∧ ∀ p ∈ c.ps, posN (idsOf l) p < i
def MayP (l : List HC) : Prop := ∀ i c, l[i]? = some c → MayAt l i c
def MayPost (w : World) (l : List HC) (e : Ending) (w' : World) : Prop := ∃ b : Bool, e = .returned (.bool b) ∧ (b = true ↔ MayP l) ∧ Below w.heap.size w w'
theorem MayP.hist {l : List HC} (h : MayP l) : Hist l := ⟨fun i c hc => (h i c hc).1, fun i c hc => (h i c hc).2.2.2⟩
theorem AtC.take {w : World} {A : Option Addr} {l : List HC} (h : AtC w A l) (i : Nat) : AtC w A (l.take i) := by
  refine ⟨by rw [List.length_take]; have := h.1; omega, fun c hc => h.2.1 c (List.mem_of_mem_take hc), fun h0 => ?_⟩
  rw [List.length_take] at h0
  obtain ⟨b, o, hA, hc⟩ := h.2.2 (by omega)
  refine ⟨b, o, hA, fun k x hx => hc k x ?_⟩
  rw [List.getElem?_take] at hx
  split at hx
  · exact hx
  · cases hx
theorem posI_take (l : List HC) (i : Nat) (hi : i ≤ l.length) (x : ByteArray) : posI (idsOf (l.take i)) x = if posN (idsOf l) x < i then (posN (idsOf l) x : Int) else -1 := by
  have e : idsOf (l.take i) = (idsOf l).take i := by unfold idsOf; rw [List.map_take]
  have e2 : posN (idsOf (l.take i)) x = min i (posN (idsOf l) x) := by rw [e]; unfold posN; rw [List.findIdx_take]
  unfold posI
  rw [e2, idsOf_len, List.length_take]
  by_cases h : posN (idsOf l) x < i
  · rw [if_pos h, if_pos (by omega)]; congr 1; omega
  · rw [if_neg h, if_neg (by omega)]
set_option maxRecDepth 100000 in
set_option linter.unusedSimpArgs false in
set_option linter.unusedVariables false in
set_option maxHeartbeats 4000000 in
theorem may_any (w : World) (A : Option Addr) (l : List HC) (c : Nat) (h : AtC w A l) (hcap : l.length ≤ c) :
    Calls Try.prog 15 #[.slice A l.length c] w (MayPost w l) := by
  have hlen := h.1
  go_enter Try.func15, Try.ntmps15
  go_wp2_with fail
  go_loopw [9] (fun u wr => ∃ k : Nat, k ≤ l.length ∧ u = .int .i64 k ∧ Hid (∀ i c, i < k → l[i]? = some c → MayAt l i c) ∧ Below w.heap.size w wr) (fun u _ => l.length - (intOf u).toNat)
  case atStart => exact ⟨0, Nat.zero_le _, rfl, fun i c hi => absurd hi (Nat.not_lt_zero i), Below.refl _ _⟩
  case round =>
    obtain ⟨i, hi, rfl, hpre, hb⟩ := hrel
    have hsr := hb.size
    by_cases hlt : i < l.length
    · obtain ⟨y, hy⟩ : ∃ y, l[i]? = some y := ⟨_, List.getElem?_eq_getElem hlt⟩
      have HY := Lib.hid hy
      have hyi : (idsOf l)[i]? = some y.id := by unfold idsOf; rw [List.getElem?_map, hy]; rfl
      have hyl : posN (idsOf l) y.id < l.length := mem_ids.1 (List.mem_of_getElem? hyi)
      have hatr := h.below hb
      obtain ⟨bb, oo, hAe, hcc⟩ := hatr.2.2 (by omega)
      obtain ⟨c0, c1, c2, c3⟩ := hcc i y hy
      have hbx : Below wr.heap.size wr (wr.alloc (.cells #[.string y.id, .slice y.A y.ps.length y.cap, .slice y.Z y.zn y.zc, .string y.note] 31)) := (Below.refl _ _).alloc (Nat.le_refl _) _
      have hX := heap_alloc_new wr (.cells #[.string y.id, .slice y.A y.ps.length y.cap, .slice y.Z y.zn y.zc, .string y.note] 31)
      subst hAe
      clear hcc hyi
      go_wp2_with fail
      obtain ⟨X, hXe⟩ : ∃ X, wr.heap.size = X := ⟨_, rfl⟩
      have hat4 := hatr.below hbx
      have hb4 := hb.trans (hbx.mono hb.size)
      obtain ⟨w4, hw4⟩ : ∃ w4, w4 = wr.alloc (.cells #[.string y.id, .slice y.A y.ps.length y.cap, .slice y.Z y.zn y.zc, .string y.note] 31) := ⟨_, rfl⟩
      rw [← hw4] at hX hat4 hb4 ⊢
      rw [hXe] at hX ⊢
      obtain ⟨x0, x1, _, _⟩ := four hX
      obtain ⟨m, hm⟩ : ∃ m, posN (idsOf l) y.id = m := ⟨_, rfl⟩
      rw [hm] at hyl
      have HPI := Lib.hid (show posI (idsOf l) y.id = (m : Int) by rw [posI_of (by rw [idsOf_len, hm]; exact hyl), hm])
      have HPM := Lib.hid hm
      have HP := Lib.hid (hat4.2.1 y (List.mem_of_getElem? hy))
      have hpl := HP.out.1
      obtain ⟨pn, hpn⟩ : ∃ pn, y.ps.length = pn := ⟨_, rfl⟩
      rw [hpn] at hpl
      obtain ⟨YA, hYA⟩ : ∃ YA, y.A = YA := ⟨_, rfl⟩
      rw [hpn, hYA] at x1 hX ⊢
      have HYA := Lib.hid hYA
      have HPN := Lib.hid hpn
      clear hbx hw4 c0 c1 c2 c3 hatr hb hy hm hpn hXe hYA
      by_cases k1 : m = i
      · have z1 : ((m : Int) == (i : Int)) = true := beq_iff_eq.2 (by omega)
        have K1 := Lib.hid k1
        clear k1
        by_cases k2 : pn ≤ 2
        · by_cases k3 : pn = 2
          · obtain ⟨p, q, hpq⟩ : ∃ p q, y.ps = [p, q] := by
              have := HPN.out
              rw [k3] at this
              match y.ps, this with
              | [p, q], _ => exact ⟨p, q, rfl⟩
            obtain ⟨pa, hpa, hpc⟩ := HP.out.2 (by rw [HPN.out]; omega)
            have hp0 := hpc 0 p (by rw [hpq]; rfl)
            have p1a := hpc 1 q (by rw [hpq]; rfl)
            rw [add_zero_] at hp0
            have p1b : w4.cell? ⟨pa.block, pa.off + 1, none⟩ = some (vStr q) := by unfold Addr.add at p1a; rw [if_neg (by omega)] at p1a; exact p1a
            by_cases k4 : p = q
            · have HPQ := Lib.hid hpq
              have HNO := Lib.hid (show ¬ MayAt l i y from fun h9 => h9.2.2.1 p q HPQ.out k4)
              have z2 : decide (2 < (pn : Int)) = false := decide_eq_false (by omega)
              have z3 : ((pn : Int) == 2) = true := beq_iff_eq.2 (by omega)
              have z4 := str_eq_true k4
              have hYA := HYA.out.symm.trans hpa
              cases hYA
              have z5 : 0 < pn := by omega
              have z6 : 1 < pn := by omega
              clear hpc hpq hpa k3
              refine wp_region_tree [] (.free 0 (.free 1 (.free 2 (.free 4 (.eff 3 (.free 5 (.free 6 (.free 7 (.free 8 (.free 9 (.free 10 (.free 11 (.free 12 (.free 13 (.free 14 (.free 15 (.free 16 (.free 17 (.free 18 (.free 19 (.free 20 (.free 21 (.free 22 (.free 23 (.free 24 (.free 25 (.free 26 (.free 27 (.free 28 .nil))))))))))))))))))))))))))))) (by kernel_rfl) (by kernel_rfl) (fun _ _ d _ _ h => by cases d <;> exact h) ?_
              have hat4 : AtC w4.drew _ l := hat4
              have hX : w4.drew.heap[X]? = _ := hX
              have hb4 : Below w.heap.size w w4.drew := hb4.drew
              have x0 : w4.drew.cell? _ = _ := x0
              have x1 : w4.drew.cell? _ = _ := x1
              have hp0 : w4.drew.cell? _ = _ := hp0
              have p1a : w4.drew.cell? _ = _ := p1a
              have p1b : w4.drew.cell? _ = _ := p1b
              have HP := Lib.hid (show At1 vStr w4.drew y.A y.ps from HP.out)
              generalize w4.drew = w4 at hat4 hX hb4 x0 x1 HP p1a p1b hp0 ⊢
              conv => arg 4; whnf
              conv => arg 4; arg 1; whnf
              refine pt_free (by rfl) (fun K hK => ?_)
              go_big_quiet_op
              first | (refine hK _ ?_; clear hK K) | (refine ⟨_, fun _ _ => rfl, hK _ ?_⟩; clear hK K)
              conv => arg 4; whnf
              conv => arg 4; arg 1; whnf
              refine pt_free (by rfl) (fun K hK => ?_)
              go_big_quiet_op
              first | (refine hK _ ?_; clear hK K) | (refine ⟨_, fun _ _ => rfl, hK _ ?_⟩; clear hK K)
              conv => arg 4; whnf
              conv => arg 4; arg 1; whnf
              refine pt_loadX (fun W hW => load_s _ _ W ((hW.cell (World.block_lt_of_cell? _ _ x0)).trans x0)) (by rfl) rfl rfl ?_
              try simp only [Act.put, List.setIfInBounds_toArray, List.set_cons_zero, List.set_cons_succ]
              conv => arg 4; whnf
              conv => arg 4; arg 1; whnf
              refine pt_free (by rfl) (fun K hK => ?_)
              go_big_quiet_op
              first | (refine hK _ ?_; clear hK K) | (refine ⟨_, fun _ _ => rfl, hK _ ?_⟩; clear hK K)
              conv => arg 4; whnf
              conv => arg 4; arg 1; whnf
              refine pt_eff (by rfl) (fun K hK => ?_)
              go_wp2_with fail
              refine (find_any _ _ l c hat4 y.id).mono ?_
              rintro e w5 ⟨rfl, hb5⟩
              rw [HPI.out]
              refine hK _ _ hb5 ?_
              clear hK K
              try simp only [Act.put, List.setIfInBounds_toArray, List.set_cons_zero, List.set_cons_succ]
              have q0 := (hb5.cell (World.block_lt_of_cell? _ _ x0)).trans x0
              have q1 := (hb5.cell (World.block_lt_of_cell? _ _ x1)).trans x1
              have hX5 := (hb5.block X (by exact (Array.getElem?_eq_some_iff.1 hX).1)).trans hX
              have hb6 := hb4.trans (hb5.mono hb4.size)
              have hat5 := hat4.below hb5
              have hp0 := (hb5.cell (World.block_lt_of_cell? _ _ hp0)).trans hp0
              have p1a := (hb5.cell (World.block_lt_of_cell? _ _ p1a)).trans p1a
              have p1b := (hb5.cell (World.block_lt_of_cell? _ _ p1b)).trans p1b
              conv => arg 4; whnf
              conv => arg 4; arg 1; whnf
              refine pt_free (by rfl) (fun K hK => ?_)
              go_big_quiet_op
              first | (refine hK _ ?_; clear hK K) | (refine ⟨_, fun _ _ => rfl, hK _ ?_⟩; clear hK K)
              try simp only [z1, z2, z3, z4, Bool.not_true, Bool.not_false, bne]
              conv => arg 4; whnf
              conv => arg 4; arg 1; whnf
              refine pt_free (by rfl) (fun K hK => ?_)
              go_big_quiet_op
              first | (refine hK _ ?_; clear hK K) | (refine ⟨_, fun _ _ => rfl, hK _ ?_⟩; clear hK K)
              conv => arg 4; whnf
              conv => arg 4; arg 1; whnf
              refine pt_free (by rfl) (fun K hK => ?_)
              go_big_quiet_op
              first | (refine hK _ ?_; clear hK K) | (refine ⟨_, fun _ _ => rfl, hK _ ?_⟩; clear hK K)
              conv => arg 4; whnf
              conv => arg 4; arg 1; whnf
              refine pt_loadX (fun W hW => load_st _ _ W ((hW.cell (World.block_lt_of_cell? _ _ q1)).trans q1)) (by rfl) rfl rfl ?_
              try simp only [Act.put, List.setIfInBounds_toArray, List.set_cons_zero, List.set_cons_succ]
              conv => arg 4; whnf
              conv => arg 4; arg 1; whnf
              refine pt_free (by rfl) (fun K hK => ?_)
              go_big_quiet_op
              first | (refine hK _ ?_; clear hK K) | (refine ⟨_, fun _ _ => rfl, hK _ ?_⟩; clear hK K)
              conv => arg 4; whnf
              conv => arg 4; arg 1; whnf
              refine pt_free (by rfl) (fun K hK => ?_)
              go_big_quiet_op
              first | (refine hK _ ?_; clear hK K) | (refine ⟨_, fun _ _ => rfl, hK _ ?_⟩; clear hK K)
              try simp only [z1, z2, z3, z4, Bool.not_true, Bool.not_false, bne]
              conv => arg 4; whnf
              conv => arg 4; arg 1; whnf
              refine pt_free (by rfl) (fun K hK => ?_)
              go_big_quiet_op
              first | (refine hK _ ?_; clear hK K) | (refine ⟨_, fun _ _ => rfl, hK _ ?_⟩; clear hK K)
              conv => arg 4; whnf
              conv => arg 4; arg 1; whnf
              refine pt_free (by rfl) (fun K hK => ?_)
              go_big_quiet_op
              first | (refine hK _ ?_; clear hK K) | (refine ⟨_, fun _ _ => rfl, hK _ ?_⟩; clear hK K)
              conv => arg 4; whnf
              conv => arg 4; arg 1; whnf
              refine pt_free (by rfl) (fun K hK => ?_)
              go_big_quiet_op
              first | (refine hK _ ?_; clear hK K) | (refine ⟨_, fun _ _ => rfl, hK _ ?_⟩; clear hK K)
              conv => arg 4; whnf
              conv => arg 4; arg 1; whnf
              refine pt_loadX (fun W hW => load_st _ _ W ((hW.cell (World.block_lt_of_cell? _ _ q1)).trans q1)) (by rfl) rfl rfl ?_
              try simp only [Act.put, List.setIfInBounds_toArray, List.set_cons_zero, List.set_cons_succ]
              conv => arg 4; whnf
              conv => arg 4; arg 1; whnf
              refine pt_free (by rfl) (fun K hK => ?_)
              go_big_quiet_op
              first | (refine hK _ ?_; clear hK K) | (refine ⟨_, fun _ _ => rfl, hK _ ?_⟩; clear hK K)
              conv => arg 4; whnf
              conv => arg 4; arg 1; whnf
              refine pt_free (by rfl) (fun K hK => ?_)
              go_big_quiet_op
              first | (refine hK _ ?_; clear hK K) | (refine ⟨_, fun _ _ => rfl, hK _ ?_⟩; clear hK K)
              try simp only [z1, z2, z3, z4, Bool.not_true, Bool.not_false, bne]
              conv => arg 4; whnf
              conv => arg 4; arg 1; whnf
              refine pt_free (by rfl) (fun K hK => ?_)
              go_big_quiet_op
              first | (refine hK _ ?_; clear hK K) | (refine ⟨_, fun _ _ => rfl, hK _ ?_⟩; clear hK K)
              conv => arg 4; whnf
              conv => arg 4; arg 1; whnf
              refine pt_free (by rfl) (fun K hK => ?_)
              go_big_quiet_op
              first | (refine hK _ ?_; clear hK K) | (refine ⟨_, fun _ _ => rfl, hK _ ?_⟩; clear hK K)
              conv => arg 4; whnf
              conv => arg 4; arg 1; whnf
              refine pt_loadX (fun W hW => load_st _ _ W ((hW.cell (World.block_lt_of_cell? _ _ q1)).trans q1)) (by rfl) rfl rfl ?_
              try simp only [Act.put, List.setIfInBounds_toArray, List.set_cons_zero, List.set_cons_succ]
              conv => arg 4; whnf
              conv => arg 4; arg 1; whnf
              refine pt_free (by rfl) (fun K hK => ?_)
              go_big_quiet_op
              first | (refine hK _ ?_; clear hK K) | (refine ⟨_, fun _ _ => rfl, hK _ ?_⟩; clear hK K)
              conv => arg 4; whnf
              conv => arg 4; arg 1; whnf
              refine pt_loadX (fun W hW => load_s _ _ W ((hW.cell (World.block_lt_of_cell? _ _ hp0)).trans hp0)) (by rfl) rfl rfl ?_
              try simp only [Act.put, List.setIfInBounds_toArray, List.set_cons_zero, List.set_cons_succ]
              conv => arg 4; whnf
              conv => arg 4; arg 1; whnf
              refine pt_free (by rfl) (fun K hK => ?_)
              go_big_quiet_op
              first | (refine hK _ ?_; clear hK K) | (refine ⟨_, fun _ _ => rfl, hK _ ?_⟩; clear hK K)
              conv => arg 4; whnf
              conv => arg 4; arg 1; whnf
              refine pt_loadX (fun W hW => load_st _ _ W ((hW.cell (World.block_lt_of_cell? _ _ q1)).trans q1)) (by rfl) rfl rfl ?_
              try simp only [Act.put, List.setIfInBounds_toArray, List.set_cons_zero, List.set_cons_succ]
              conv => arg 4; whnf
              conv => arg 4; arg 1; whnf
              refine pt_free (by rfl) (fun K hK => ?_)
              go_big_quiet_op
              first | (refine hK _ ?_; clear hK K) | (refine ⟨_, fun _ _ => rfl, hK _ ?_⟩; clear hK K)
              conv => arg 4; whnf
              conv => arg 4; arg 1; whnf
              first | (refine pt_loadX (fun W hW => load_s _ _ W ((hW.cell (World.block_lt_of_cell? _ _ p1a)).trans p1a)) (by rfl) rfl rfl ?_) | (refine pt_loadX (fun W hW => load_s _ _ W ((hW.cell (World.block_lt_of_cell? _ _ p1b)).trans p1b)) (by rfl) rfl rfl ?_)
              try simp only [Act.put, List.setIfInBounds_toArray, List.set_cons_zero, List.set_cons_succ]
              conv => arg 4; whnf
              conv => arg 4; arg 1; whnf
              refine pt_free (by rfl) (fun K hK => ?_)
              go_big_quiet_op
              first | (refine hK _ ?_; clear hK K) | (refine ⟨_, fun _ _ => rfl, hK _ ?_⟩; clear hK K)
              try simp only [z1, z2, z3, z4, Bool.not_true, Bool.not_false, bne]
              conv => arg 4; whnf
              conv => arg 4; arg 1; whnf
              refine pt_free (by rfl) (fun K hK => ?_)
              go_big_quiet_op
              first | (refine hK _ ?_; clear hK K) | (refine ⟨_, fun _ _ => rfl, hK _ ?_⟩; clear hK K)
              conv => arg 4; whnf
              conv => arg 4; arg 1; whnf
              refine pt_free (by rfl) (fun K hK => ?_)
              go_big_quiet_op
              first | (refine hK _ ?_; clear hK K) | (refine ⟨_, fun _ _ => rfl, hK _ ?_⟩; clear hK K)
              refine pt_nil ?_
              go_wp2_with fail
              go_ret
              exact ⟨false, rfl, ⟨fun h9 => (by cases h9), fun h9 => absurd (h9 i y HY.out) HNO.out⟩, hb6⟩
            · have HPQ := Lib.hid hpq
              have HTW := Lib.hid (show ∀ p q, y.ps = [p, q] → p ≠ q from fun a b hab => by rw [HPQ.out] at hab; injection hab with e1 e2; injection e2 with e2 _; rw [← e1, ← e2]; exact k4)
              have z2 : decide (2 < (pn : Int)) = false := decide_eq_false (by omega)
              have z3 : ((pn : Int) == 2) = true := beq_iff_eq.2 (by omega)
              have z4 := str_eq_false k4
              have hYA := HYA.out.symm.trans hpa
              cases hYA
              have z5 : 0 < pn := by omega
              have z6 : 1 < pn := by omega
              clear hpc hpq hpa k3
              refine wp_region_tree [] (.free 0 (.free 1 (.free 2 (.free 4 (.eff 3 (.free 5 (.free 6 (.free 7 (.free 8 (.free 9 (.free 10 (.free 11 (.free 12 (.free 13 (.free 14 (.free 15 (.free 16 (.free 17 (.free 18 (.free 19 (.free 20 (.free 21 (.free 22 (.free 23 (.free 24 (.free 25 (.free 26 (.free 27 (.free 28 .nil))))))))))))))))))))))))))))) (by kernel_rfl) (by kernel_rfl) (fun _ _ d _ _ h => by cases d <;> exact h) ?_
              have hat4 : AtC w4.drew _ l := hat4
              have hX : w4.drew.heap[X]? = _ := hX
              have hb4 : Below w.heap.size w w4.drew := hb4.drew
              have x0 : w4.drew.cell? _ = _ := x0
              have x1 : w4.drew.cell? _ = _ := x1
              have hp0 : w4.drew.cell? _ = _ := hp0
              have p1a : w4.drew.cell? _ = _ := p1a
              have p1b : w4.drew.cell? _ = _ := p1b
              have HP := Lib.hid (show At1 vStr w4.drew y.A y.ps from HP.out)
              generalize w4.drew = w4 at hat4 hX hb4 x0 x1 HP p1a p1b hp0 ⊢
              conv => arg 4; whnf
              conv => arg 4; arg 1; whnf
              refine pt_free (by rfl) (fun K hK => ?_)
              go_big_quiet_op
              first | (refine hK _ ?_; clear hK K) | (refine ⟨_, fun _ _ => rfl, hK _ ?_⟩; clear hK K)
              conv => arg 4; whnf
              conv => arg 4; arg 1; whnf
              refine pt_free (by rfl) (fun K hK => ?_)
              go_big_quiet_op
              first | (refine hK _ ?_; clear hK K) | (refine ⟨_, fun _ _ => rfl, hK _ ?_⟩; clear hK K)
              conv => arg 4; whnf
              conv => arg 4; arg 1; whnf
              refine pt_loadX (fun W hW => load_s _ _ W ((hW.cell (World.block_lt_of_cell? _ _ x0)).trans x0)) (by rfl) rfl rfl ?_
              try simp only [Act.put, List.setIfInBounds_toArray, List.set_cons_zero, List.set_cons_succ]
              conv => arg 4; whnf
              conv => arg 4; arg 1; whnf
              refine pt_free (by rfl) (fun K hK => ?_)
              go_big_quiet_op
              first | (refine hK _ ?_; clear hK K) | (refine ⟨_, fun _ _ => rfl, hK _ ?_⟩; clear hK K)
              conv => arg 4; whnf
              conv => arg 4; arg 1; whnf
              refine pt_eff (by rfl) (fun K hK => ?_)
              go_wp2_with fail
              refine (find_any _ _ l c hat4 y.id).mono ?_
              rintro e w5 ⟨rfl, hb5⟩
              rw [HPI.out]
              refine hK _ _ hb5 ?_
              clear hK K
              try simp only [Act.put, List.setIfInBounds_toArray, List.set_cons_zero, List.set_cons_succ]
              have q0 := (hb5.cell (World.block_lt_of_cell? _ _ x0)).trans x0
              have q1 := (hb5.cell (World.block_lt_of_cell? _ _ x1)).trans x1
              have hX5 := (hb5.block X (by exact (Array.getElem?_eq_some_iff.1 hX).1)).trans hX
              have hb6 := hb4.trans (hb5.mono hb4.size)
              have hat5 := hat4.below hb5
              have hp0 := (hb5.cell (World.block_lt_of_cell? _ _ hp0)).trans hp0
              have p1a := (hb5.cell (World.block_lt_of_cell? _ _ p1a)).trans p1a
              have p1b := (hb5.cell (World.block_lt_of_cell? _ _ p1b)).trans p1b
              conv => arg 4; whnf
              conv => arg 4; arg 1; whnf
              refine pt_free (by rfl) (fun K hK => ?_)
              go_big_quiet_op
              first | (refine hK _ ?_; clear hK K) | (refine ⟨_, fun _ _ => rfl, hK _ ?_⟩; clear hK K)
              try simp only [z1, z2, z3, z4, Bool.not_true, Bool.not_false, bne]
              conv => arg 4; whnf
              conv => arg 4; arg 1; whnf
              refine pt_free (by rfl) (fun K hK => ?_)
              go_big_quiet_op
              first | (refine hK _ ?_; clear hK K) | (refine ⟨_, fun _ _ => rfl, hK _ ?_⟩; clear hK K)
              conv => arg 4; whnf
              conv => arg 4; arg 1; whnf
              refine pt_free (by rfl) (fun K hK => ?_)
              go_big_quiet_op
              first | (refine hK _ ?_; clear hK K) | (refine ⟨_, fun _ _ => rfl, hK _ ?_⟩; clear hK K)
              conv => arg 4; whnf
              conv => arg 4; arg 1; whnf
              refine pt_loadX (fun W hW => load_st _ _ W ((hW.cell (World.block_lt_of_cell? _ _ q1)).trans q1)) (by rfl) rfl rfl ?_
              try simp only [Act.put, List.setIfInBounds_toArray, List.set_cons_zero, List.set_cons_succ]
              conv => arg 4; whnf
              conv => arg 4; arg 1; whnf
              refine pt_free (by rfl) (fun K hK => ?_)
              go_big_quiet_op
              first | (refine hK _ ?_; clear hK K) | (refine ⟨_, fun _ _ => rfl, hK _ ?_⟩; clear hK K)
              conv => arg 4; whnf
              conv => arg 4; arg 1; whnf
              refine pt_free (by rfl) (fun K hK => ?_)
              go_big_quiet_op
              first | (refine hK _ ?_; clear hK K) | (refine ⟨_, fun _ _ => rfl, hK _ ?_⟩; clear hK K)
              try simp only [z1, z2, z3, z4, Bool.not_true, Bool.not_false, bne]
              conv => arg 4; whnf
              conv => arg 4; arg 1; whnf
              refine pt_free (by rfl) (fun K hK => ?_)
              go_big_quiet_op
              first | (refine hK _ ?_; clear hK K) | (refine ⟨_, fun _ _ => rfl, hK _ ?_⟩; clear hK K)
              conv => arg 4; whnf
              conv => arg 4; arg 1; whnf
              refine pt_free (by rfl) (fun K hK => ?_)
              go_big_quiet_op
              first | (refine hK _ ?_; clear hK K) | (refine ⟨_, fun _ _ => rfl, hK _ ?_⟩; clear hK K)
              conv => arg 4; whnf
              conv => arg 4; arg 1; whnf
              refine pt_free (by rfl) (fun K hK => ?_)
              go_big_quiet_op
              first | (refine hK _ ?_; clear hK K) | (refine ⟨_, fun _ _ => rfl, hK _ ?_⟩; clear hK K)
              conv => arg 4; whnf
              conv => arg 4; arg 1; whnf
              refine pt_loadX (fun W hW => load_st _ _ W ((hW.cell (World.block_lt_of_cell? _ _ q1)).trans q1)) (by rfl) rfl rfl ?_
              try simp only [Act.put, List.setIfInBounds_toArray, List.set_cons_zero, List.set_cons_succ]
              conv => arg 4; whnf
              conv => arg 4; arg 1; whnf
              refine pt_free (by rfl) (fun K hK => ?_)
              go_big_quiet_op
              first | (refine hK _ ?_; clear hK K) | (refine ⟨_, fun _ _ => rfl, hK _ ?_⟩; clear hK K)
              conv => arg 4; whnf
              conv => arg 4; arg 1; whnf
              refine pt_free (by rfl) (fun K hK => ?_)
              go_big_quiet_op
              first | (refine hK _ ?_; clear hK K) | (refine ⟨_, fun _ _ => rfl, hK _ ?_⟩; clear hK K)
              try simp only [z1, z2, z3, z4, Bool.not_true, Bool.not_false, bne]
              conv => arg 4; whnf
              conv => arg 4; arg 1; whnf
              refine pt_free (by rfl) (fun K hK => ?_)
              go_big_quiet_op
              first | (refine hK _ ?_; clear hK K) | (refine ⟨_, fun _ _ => rfl, hK _ ?_⟩; clear hK K)
              conv => arg 4; whnf
              conv => arg 4; arg 1; whnf
              refine pt_free (by rfl) (fun K hK => ?_)
              go_big_quiet_op
              first | (refine hK _ ?_; clear hK K) | (refine ⟨_, fun _ _ => rfl, hK _ ?_⟩; clear hK K)
              conv => arg 4; whnf
              conv => arg 4; arg 1; whnf
              refine pt_loadX (fun W hW => load_st _ _ W ((hW.cell (World.block_lt_of_cell? _ _ q1)).trans q1)) (by rfl) rfl rfl ?_
              try simp only [Act.put, List.setIfInBounds_toArray, List.set_cons_zero, List.set_cons_succ]
              conv => arg 4; whnf
              conv => arg 4; arg 1; whnf
              refine pt_free (by rfl) (fun K hK => ?_)
              go_big_quiet_op
              first | (refine hK _ ?_; clear hK K) | (refine ⟨_, fun _ _ => rfl, hK _ ?_⟩; clear hK K)
              conv => arg 4; whnf
              conv => arg 4; arg 1; whnf
              refine pt_loadX (fun W hW => load_s _ _ W ((hW.cell (World.block_lt_of_cell? _ _ hp0)).trans hp0)) (by rfl) rfl rfl ?_
              try simp only [Act.put, List.setIfInBounds_toArray, List.set_cons_zero, List.set_cons_succ]
              conv => arg 4; whnf
              conv => arg 4; arg 1; whnf
              refine pt_free (by rfl) (fun K hK => ?_)
              go_big_quiet_op
              first | (refine hK _ ?_; clear hK K) | (refine ⟨_, fun _ _ => rfl, hK _ ?_⟩; clear hK K)
              conv => arg 4; whnf
              conv => arg 4; arg 1; whnf
              refine pt_loadX (fun W hW => load_st _ _ W ((hW.cell (World.block_lt_of_cell? _ _ q1)).trans q1)) (by rfl) rfl rfl ?_
              try simp only [Act.put, List.setIfInBounds_toArray, List.set_cons_zero, List.set_cons_succ]
              conv => arg 4; whnf
              conv => arg 4; arg 1; whnf
              refine pt_free (by rfl) (fun K hK => ?_)
              go_big_quiet_op
              first | (refine hK _ ?_; clear hK K) | (refine ⟨_, fun _ _ => rfl, hK _ ?_⟩; clear hK K)
              conv => arg 4; whnf
              conv => arg 4; arg 1; whnf
              first | (refine pt_loadX (fun W hW => load_s _ _ W ((hW.cell (World.block_lt_of_cell? _ _ p1a)).trans p1a)) (by rfl) rfl rfl ?_) | (refine pt_loadX (fun W hW => load_s _ _ W ((hW.cell (World.block_lt_of_cell? _ _ p1b)).trans p1b)) (by rfl) rfl rfl ?_)
              try simp only [Act.put, List.setIfInBounds_toArray, List.set_cons_zero, List.set_cons_succ]
              conv => arg 4; whnf
              conv => arg 4; arg 1; whnf
              refine pt_free (by rfl) (fun K hK => ?_)
              go_big_quiet_op
              first | (refine hK _ ?_; clear hK K) | (refine ⟨_, fun _ _ => rfl, hK _ ?_⟩; clear hK K)
              try simp only [z1, z2, z3, z4, Bool.not_true, Bool.not_false, bne]
              conv => arg 4; whnf
              conv => arg 4; arg 1; whnf
              refine pt_free (by rfl) (fun K hK => ?_)
              go_big_quiet_op
              first | (refine hK _ ?_; clear hK K) | (refine ⟨_, fun _ _ => rfl, hK _ ?_⟩; clear hK K)
              conv => arg 4; whnf
              conv => arg 4; arg 1; whnf
              refine pt_free (by rfl) (fun K hK => ?_)
              go_big_quiet_op
              first | (refine hK _ ?_; clear hK K) | (refine ⟨_, fun _ _ => rfl, hK _ ?_⟩; clear hK K)
              refine pt_nil ?_
              go_wp2_with fail
              go_loopw [46] (fun u wi => ∃ j : Nat, j ≤ pn ∧ u = .int .i64 j ∧ Hid (∀ k p, k < j → y.ps[k]? = some p → posN (idsOf l) p < i) ∧ Below w5.heap.size w5 wi) (fun u _ => pn - (intOf u).toNat)
              case atStart => exact ⟨0, Nat.zero_le _, rfl, fun k p hk => absurd hk (Nat.not_lt_zero k), Below.refl _ _⟩
              case round =>
                obtain ⟨j, hj, rfl, hpr, hbi⟩ := hrel
                have hb7 := hb6.trans (hbi.mono hb6.size)
                by_cases hjl : j < pn
                · obtain ⟨p, hp⟩ : ∃ p, y.ps[j]? = some p := ⟨_, List.getElem?_eq_getElem (by rw [HPN.out]; exact hjl)⟩
                  have hat7 := hat5.below hbi
                  have HP7 := hat7.2.1 y (List.mem_of_getElem? HY.out)
                  obtain ⟨pa, hpa, hpc⟩ := HP7.2 (by rw [HPN.out]; omega)
                  have pj := hpc j p hp
                  have hf := fun W (hW : AtC W (some ⟨bb, oo, none⟩) l) => find_any W _ (l.take i) c (hW.take i) p
                  have e1 : (l.take i).length = i := by rw [List.length_take]; omega
                  rw [e1, posI_take l i (by omega)] at hf
                  have HF := Lib.hid hf
                  have hpm := List.mem_of_getElem? hp
                  have HJ := Lib.hid hp
                  have hYA := HYA.out.symm.trans hpa
                  cases hYA
                  clear hpc hf e1 hp hpa
                  by_cases hpi : posN (idsOf l) p < i
                  · rw [if_pos hpi] at HF
                    obtain ⟨pp, hpp⟩ : ∃ pp, posN (idsOf l) p = pp := ⟨_, rfl⟩
                    rw [hpp] at HF
                    have HPP := Lib.hid hpp
                    clear hpp
                    go_wp2_with fail
                    refine (HF.out _ hat7).mono ?_
                    rintro e w8 ⟨rfl, hb8⟩
                    go_wp2_with fail
                    go_roundw
                    case rel =>
                      refine ⟨j + 1, by omega, by go_num, fun k q hk hq => ?_, hbi.trans (hb8.mono hbi.size)⟩
                      rcases Nat.lt_or_ge k j with h8 | h8
                      · exact hpr.out k q h8 hq
                      · have e : k = j := by omega
                        rw [e, HJ.out] at hq
                        injection hq with hq
                        rw [← hq]; exact hpi
                    case measure => first | (simp [intOf]; done) | (simp [intOf]; omega)
                  · rw [if_neg hpi] at HF
                    have HNO := Lib.hid (show ¬ MayAt l i y from fun h9 => hpi (h9.2.2.2 p hpm))
                    go_wp2_with fail
                    refine (HF.out _ hat7).mono ?_
                    rintro e w8 ⟨rfl, hb8⟩
                    have hb9 := hb7.trans (hb8.mono hb7.size)
                    go_wp2_with fail
                    go_ret
                    exact ⟨false, rfl, ⟨fun h9 => (by cases h9), fun h9 => absurd (h9 i y HY.out) HNO.out⟩, hb9⟩
                · have hje : j = pn := by omega
                  have HYES := Lib.hid (show MayAt l i y from ⟨HPM.out.trans K1.out, by rw [HPN.out]; exact k2, HTW.out, fun p hp => by
                    obtain ⟨k, hk⟩ := List.mem_iff_getElem?.1 hp
                    refine hpr.out k p ?_ hk
                    have := (List.getElem?_eq_some_iff.1 hk).1
                    rw [HPN.out] at this
                    omega⟩)
                  go_wp2_with fail
                  go_roundw
                  case rel =>
                    refine ⟨i + 1, by omega, by go_num, fun k q hk hq => ?_, hb7⟩
                    rcases Nat.lt_or_ge k i with h8 | h8
                    · exact hpre.out k q h8 hq
                    · have e : k = i := by omega
                      rw [e, HY.out] at hq
                      injection hq with hq
                      rw [e, ← hq]; exact HYES.out
                  case measure => first | (simp [intOf]; done) | (simp [intOf]; omega)
          · have HTW := Lib.hid (show ∀ p q, y.ps = [p, q] → p ≠ q from fun a b hab => by have := HPN.out; rw [hab] at this; exact absurd this.symm k3)
            have z2 : decide (2 < (pn : Int)) = false := decide_eq_false (by omega)
            have z3 : ((pn : Int) == 2) = false := beq_eq_false_iff_ne.2 (by omega)
            have z4 : True := trivial
            refine wp_region_tree [] (.free 0 (.free 1 (.free 2 (.free 4 (.eff 3 (.free 5 (.free 6 (.free 7 (.free 8 (.free 9 (.free 10 (.free 11 (.free 12 (.free 13 (.free 14 (.free 15 (.free 16 (.free 17 (.free 18 (.free 19 (.free 20 (.free 21 (.free 22 (.free 23 (.free 24 (.free 25 (.free 26 (.free 27 (.free 28 .nil))))))))))))))))))))))))))))) (by kernel_rfl) (by kernel_rfl) (fun _ _ d _ _ h => by cases d <;> exact h) ?_
            have hat4 : AtC w4.drew _ l := hat4
            have hX : w4.drew.heap[X]? = _ := hX
            have hb4 : Below w.heap.size w w4.drew := hb4.drew
            have x0 : w4.drew.cell? _ = _ := x0
            have x1 : w4.drew.cell? _ = _ := x1
            have HP := Lib.hid (show At1 vStr w4.drew y.A y.ps from HP.out)
            generalize w4.drew = w4 at hat4 hX hb4 x0 x1 HP ⊢
            conv => arg 4; whnf
            conv => arg 4; arg 1; whnf
            refine pt_free (by rfl) (fun K hK => ?_)
            go_big_quiet_op
            first | (refine hK _ ?_; clear hK K) | (refine ⟨_, fun _ _ => rfl, hK _ ?_⟩; clear hK K)
            conv => arg 4; whnf
            conv => arg 4; arg 1; whnf
            refine pt_free (by rfl) (fun K hK => ?_)
            go_big_quiet_op
            first | (refine hK _ ?_; clear hK K) | (refine ⟨_, fun _ _ => rfl, hK _ ?_⟩; clear hK K)
            conv => arg 4; whnf
            conv => arg 4; arg 1; whnf
            refine pt_loadX (fun W hW => load_s _ _ W ((hW.cell (World.block_lt_of_cell? _ _ x0)).trans x0)) (by rfl) rfl rfl ?_
            try simp only [Act.put, List.setIfInBounds_toArray, List.set_cons_zero, List.set_cons_succ]
            conv => arg 4; whnf
            conv => arg 4; arg 1; whnf
            refine pt_free (by rfl) (fun K hK => ?_)
            go_big_quiet_op
            first | (refine hK _ ?_; clear hK K) | (refine ⟨_, fun _ _ => rfl, hK _ ?_⟩; clear hK K)
            conv => arg 4; whnf
            conv => arg 4; arg 1; whnf
            refine pt_eff (by rfl) (fun K hK => ?_)
            go_wp2_with fail
            refine (find_any _ _ l c hat4 y.id).mono ?_
            rintro e w5 ⟨rfl, hb5⟩
            rw [HPI.out]
            refine hK _ _ hb5 ?_
            clear hK K
            try simp only [Act.put, List.setIfInBounds_toArray, List.set_cons_zero, List.set_cons_succ]
            have q0 := (hb5.cell (World.block_lt_of_cell? _ _ x0)).trans x0
            have q1 := (hb5.cell (World.block_lt_of_cell? _ _ x1)).trans x1
            have hX5 := (hb5.block X (by exact (Array.getElem?_eq_some_iff.1 hX).1)).trans hX
            have hb6 := hb4.trans (hb5.mono hb4.size)
            have hat5 := hat4.below hb5
            conv => arg 4; whnf
            conv => arg 4; arg 1; whnf
            refine pt_free (by rfl) (fun K hK => ?_)
            go_big_quiet_op
            first | (refine hK _ ?_; clear hK K) | (refine ⟨_, fun _ _ => rfl, hK _ ?_⟩; clear hK K)
            try simp only [z1, z2, z3, z4, Bool.not_true, Bool.not_false, bne]
            conv => arg 4; whnf
            conv => arg 4; arg 1; whnf
            refine pt_free (by rfl) (fun K hK => ?_)
            go_big_quiet_op
            first | (refine hK _ ?_; clear hK K) | (refine ⟨_, fun _ _ => rfl, hK _ ?_⟩; clear hK K)
            conv => arg 4; whnf
            conv => arg 4; arg 1; whnf
            refine pt_free (by rfl) (fun K hK => ?_)
            go_big_quiet_op
            first | (refine hK _ ?_; clear hK K) | (refine ⟨_, fun _ _ => rfl, hK _ ?_⟩; clear hK K)
            conv => arg 4; whnf
            conv => arg 4; arg 1; whnf
            refine pt_loadX (fun W hW => load_st _ _ W ((hW.cell (World.block_lt_of_cell? _ _ q1)).trans q1)) (by rfl) rfl rfl ?_
            try simp only [Act.put, List.setIfInBounds_toArray, List.set_cons_zero, List.set_cons_succ]
            conv => arg 4; whnf
            conv => arg 4; arg 1; whnf
            refine pt_free (by rfl) (fun K hK => ?_)
            go_big_quiet_op
            first | (refine hK _ ?_; clear hK K) | (refine ⟨_, fun _ _ => rfl, hK _ ?_⟩; clear hK K)
            conv => arg 4; whnf
            conv => arg 4; arg 1; whnf
            refine pt_free (by rfl) (fun K hK => ?_)
            go_big_quiet_op
            first | (refine hK _ ?_; clear hK K) | (refine ⟨_, fun _ _ => rfl, hK _ ?_⟩; clear hK K)
            try simp only [z1, z2, z3, z4, Bool.not_true, Bool.not_false, bne]
            conv => arg 4; whnf
            conv => arg 4; arg 1; whnf
            refine pt_free (by rfl) (fun K hK => ?_)
            go_big_quiet_op
            first | (refine hK _ ?_; clear hK K) | (refine ⟨_, fun _ _ => rfl, hK _ ?_⟩; clear hK K)
            conv => arg 4; whnf
            conv => arg 4; arg 1; whnf
            refine pt_free (by rfl) (fun K hK => ?_)
            go_big_quiet_op
            first | (refine hK _ ?_; clear hK K) | (refine ⟨_, fun _ _ => rfl, hK _ ?_⟩; clear hK K)
            conv => arg 4; whnf
            conv => arg 4; arg 1; whnf
            refine pt_free (by rfl) (fun K hK => ?_)
            go_big_quiet_op
            first | (refine hK _ ?_; clear hK K) | (refine ⟨_, fun _ _ => rfl, hK _ ?_⟩; clear hK K)
            conv => arg 4; whnf
            conv => arg 4; arg 1; whnf
            refine pt_loadX (fun W hW => load_st _ _ W ((hW.cell (World.block_lt_of_cell? _ _ q1)).trans q1)) (by rfl) rfl rfl ?_
            try simp only [Act.put, List.setIfInBounds_toArray, List.set_cons_zero, List.set_cons_succ]
            conv => arg 4; whnf
            conv => arg 4; arg 1; whnf
            refine pt_free (by rfl) (fun K hK => ?_)
            go_big_quiet_op
            first | (refine hK _ ?_; clear hK K) | (refine ⟨_, fun _ _ => rfl, hK _ ?_⟩; clear hK K)
            conv => arg 4; whnf
            conv => arg 4; arg 1; whnf
            refine pt_free (by rfl) (fun K hK => ?_)
            go_big_quiet_op
            first | (refine hK _ ?_; clear hK K) | (refine ⟨_, fun _ _ => rfl, hK _ ?_⟩; clear hK K)
            try simp only [z1, z2, z3, z4, Bool.not_true, Bool.not_false, bne]
            conv => arg 4; whnf
            conv => arg 4; arg 1; whnf
            refine pt_free (by rfl) (fun K hK => ?_)
            go_big_quiet_op
            first | (refine hK _ ?_; clear hK K) | (refine ⟨_, fun _ _ => rfl, hK _ ?_⟩; clear hK K)
            conv => arg 4; whnf
            conv => arg 4; arg 1; whnf
            refine pt_free_skip (by rfl) ?_
            try simp only [Act.put, List.setIfInBounds_toArray, List.set_cons_zero, List.set_cons_succ]
            conv => arg 4; whnf
            conv => arg 4; arg 1; whnf
            refine pt_free_skip (by rfl) ?_
            try simp only [Act.put, List.setIfInBounds_toArray, List.set_cons_zero, List.set_cons_succ]
            conv => arg 4; whnf
            conv => arg 4; arg 1; whnf
            refine pt_free_skip (by rfl) ?_
            try simp only [Act.put, List.setIfInBounds_toArray, List.set_cons_zero, List.set_cons_succ]
            conv => arg 4; whnf
            conv => arg 4; arg 1; whnf
            refine pt_free_skip (by rfl) ?_
            try simp only [Act.put, List.setIfInBounds_toArray, List.set_cons_zero, List.set_cons_succ]
            conv => arg 4; whnf
            conv => arg 4; arg 1; whnf
            refine pt_free_skip (by rfl) ?_
            try simp only [Act.put, List.setIfInBounds_toArray, List.set_cons_zero, List.set_cons_succ]
            conv => arg 4; whnf
            conv => arg 4; arg 1; whnf
            refine pt_free_skip (by rfl) ?_
            try simp only [Act.put, List.setIfInBounds_toArray, List.set_cons_zero, List.set_cons_succ]
            conv => arg 4; whnf
            conv => arg 4; arg 1; whnf
            refine pt_free_skip (by rfl) ?_
            try simp only [Act.put, List.setIfInBounds_toArray, List.set_cons_zero, List.set_cons_succ]
            conv => arg 4; whnf
            conv => arg 4; arg 1; whnf
            refine pt_free_skip (by rfl) ?_
            try simp only [Act.put, List.setIfInBounds_toArray, List.set_cons_zero, List.set_cons_succ]
            conv => arg 4; whnf
            conv => arg 4; arg 1; whnf
            refine pt_free_skip (by rfl) ?_
            try simp only [Act.put, List.setIfInBounds_toArray, List.set_cons_zero, List.set_cons_succ]
            conv => arg 4; whnf
            conv => arg 4; arg 1; whnf
            refine pt_free (by rfl) (fun K hK => ?_)
            go_big_quiet_op
            first | (refine hK _ ?_; clear hK K) | (refine ⟨_, fun _ _ => rfl, hK _ ?_⟩; clear hK K)
            conv => arg 4; whnf
            conv => arg 4; arg 1; whnf
            refine pt_free (by rfl) (fun K hK => ?_)
            go_big_quiet_op
            first | (refine hK _ ?_; clear hK K) | (refine ⟨_, fun _ _ => rfl, hK _ ?_⟩; clear hK K)
            refine pt_nil ?_
            go_wp2_with fail
            go_loopw [46] (fun u wi => ∃ j : Nat, j ≤ pn ∧ u = .int .i64 j ∧ Hid (∀ k p, k < j → y.ps[k]? = some p → posN (idsOf l) p < i) ∧ Below w5.heap.size w5 wi) (fun u _ => pn - (intOf u).toNat)
            case atStart => exact ⟨0, Nat.zero_le _, rfl, fun k p hk => absurd hk (Nat.not_lt_zero k), Below.refl _ _⟩
            case round =>
              obtain ⟨j, hj, rfl, hpr, hbi⟩ := hrel
              have hb7 := hb6.trans (hbi.mono hb6.size)
              by_cases hjl : j < pn
              · obtain ⟨p, hp⟩ : ∃ p, y.ps[j]? = some p := ⟨_, List.getElem?_eq_getElem (by rw [HPN.out]; exact hjl)⟩
                have hat7 := hat5.below hbi
                have HP7 := hat7.2.1 y (List.mem_of_getElem? HY.out)
                obtain ⟨pa, hpa, hpc⟩ := HP7.2 (by rw [HPN.out]; omega)
                have pj := hpc j p hp
                have hf := fun W (hW : AtC W (some ⟨bb, oo, none⟩) l) => find_any W _ (l.take i) c (hW.take i) p
                have e1 : (l.take i).length = i := by rw [List.length_take]; omega
                rw [e1, posI_take l i (by omega)] at hf
                have HF := Lib.hid hf
                have hpm := List.mem_of_getElem? hp
                have HJ := Lib.hid hp
                have hYA := HYA.out.symm.trans hpa
                cases hYA
                clear hpc hf e1 hp hpa
                by_cases hpi : posN (idsOf l) p < i
                · rw [if_pos hpi] at HF
                  obtain ⟨pp, hpp⟩ : ∃ pp, posN (idsOf l) p = pp := ⟨_, rfl⟩
                  rw [hpp] at HF
                  have HPP := Lib.hid hpp
                  clear hpp
                  go_wp2_with fail
                  refine (HF.out _ hat7).mono ?_
                  rintro e w8 ⟨rfl, hb8⟩
                  go_wp2_with fail
                  go_roundw
                  case rel =>
                    refine ⟨j + 1, by omega, by go_num, fun k q hk hq => ?_, hbi.trans (hb8.mono hbi.size)⟩
                    rcases Nat.lt_or_ge k j with h8 | h8
                    · exact hpr.out k q h8 hq
                    · have e : k = j := by omega
                      rw [e, HJ.out] at hq
                      injection hq with hq
                      rw [← hq]; exact hpi
                  case measure => first | (simp [intOf]; done) | (simp [intOf]; omega)
                · rw [if_neg hpi] at HF
                  have HNO := Lib.hid (show ¬ MayAt l i y from fun h9 => hpi (h9.2.2.2 p hpm))
                  go_wp2_with fail
                  refine (HF.out _ hat7).mono ?_
                  rintro e w8 ⟨rfl, hb8⟩
                  have hb9 := hb7.trans (hb8.mono hb7.size)
                  go_wp2_with fail
                  go_ret
                  exact ⟨false, rfl, ⟨fun h9 => (by cases h9), fun h9 => absurd (h9 i y HY.out) HNO.out⟩, hb9⟩
              · have hje : j = pn := by omega
                have HYES := Lib.hid (show MayAt l i y from ⟨HPM.out.trans K1.out, by rw [HPN.out]; exact k2, HTW.out, fun p hp => by
                  obtain ⟨k, hk⟩ := List.mem_iff_getElem?.1 hp
                  refine hpr.out k p ?_ hk
                  have := (List.getElem?_eq_some_iff.1 hk).1
                  rw [HPN.out] at this
                  omega⟩)
                go_wp2_with fail
                go_roundw
                case rel =>
                  refine ⟨i + 1, by omega, by go_num, fun k q hk hq => ?_, hb7⟩
                  rcases Nat.lt_or_ge k i with h8 | h8
                  · exact hpre.out k q h8 hq
                  · have e : k = i := by omega
                    rw [e, HY.out] at hq
                    injection hq with hq
                    rw [e, ← hq]; exact HYES.out
                case measure => first | (simp [intOf]; done) | (simp [intOf]; omega)
        · have HNO := Lib.hid (show ¬ MayAt l i y from fun h9 => k2 (by have := h9.2.1; rw [HPN.out] at this; exact this))
          have z2 : decide (2 < (pn : Int)) = true := decide_eq_true (by omega)
          have z3 : ((pn : Int) == 2) = false := beq_eq_false_iff_ne.2 (by omega)
          have z4 : True := trivial
          refine wp_region_tree [] (.free 0 (.free 1 (.free 2 (.free 4 (.eff 3 (.free 5 (.free 6 (.free 7 (.free 8 (.free 9 (.free 10 (.free 11 (.free 12 (.free 13 (.free 14 (.free 15 (.free 16 (.free 17 (.free 18 (.free 19 (.free 20 (.free 21 (.free 22 (.free 23 (.free 24 (.free 25 (.free 26 (.free 27 (.free 28 .nil))))))))))))))))))))))))))))) (by kernel_rfl) (by kernel_rfl) (fun _ _ d _ _ h => by cases d <;> exact h) ?_
          have hat4 : AtC w4.drew _ l := hat4
          have hX : w4.drew.heap[X]? = _ := hX
          have hb4 : Below w.heap.size w w4.drew := hb4.drew
          have x0 : w4.drew.cell? _ = _ := x0
          have x1 : w4.drew.cell? _ = _ := x1
          have HP := Lib.hid (show At1 vStr w4.drew y.A y.ps from HP.out)
          generalize w4.drew = w4 at hat4 hX hb4 x0 x1 HP ⊢
          conv => arg 4; whnf
          conv => arg 4; arg 1; whnf
          refine pt_free (by rfl) (fun K hK => ?_)
          go_big_quiet_op
          first | (refine hK _ ?_; clear hK K) | (refine ⟨_, fun _ _ => rfl, hK _ ?_⟩; clear hK K)
          conv => arg 4; whnf
          conv => arg 4; arg 1; whnf
          refine pt_free (by rfl) (fun K hK => ?_)
          go_big_quiet_op
          first | (refine hK _ ?_; clear hK K) | (refine ⟨_, fun _ _ => rfl, hK _ ?_⟩; clear hK K)
          conv => arg 4; whnf
          conv => arg 4; arg 1; whnf
          refine pt_loadX (fun W hW => load_s _ _ W ((hW.cell (World.block_lt_of_cell? _ _ x0)).trans x0)) (by rfl) rfl rfl ?_
          try simp only [Act.put, List.setIfInBounds_toArray, List.set_cons_zero, List.set_cons_succ]
          conv => arg 4; whnf
          conv => arg 4; arg 1; whnf
          refine pt_free (by rfl) (fun K hK => ?_)
          go_big_quiet_op
          first | (refine hK _ ?_; clear hK K) | (refine ⟨_, fun _ _ => rfl, hK _ ?_⟩; clear hK K)
          conv => arg 4; whnf
          conv => arg 4; arg 1; whnf
          refine pt_eff (by rfl) (fun K hK => ?_)
          go_wp2_with fail
          refine (find_any _ _ l c hat4 y.id).mono ?_
          rintro e w5 ⟨rfl, hb5⟩
          rw [HPI.out]
          refine hK _ _ hb5 ?_
          clear hK K
          try simp only [Act.put, List.setIfInBounds_toArray, List.set_cons_zero, List.set_cons_succ]
          have q0 := (hb5.cell (World.block_lt_of_cell? _ _ x0)).trans x0
          have q1 := (hb5.cell (World.block_lt_of_cell? _ _ x1)).trans x1
          have hX5 := (hb5.block X (by exact (Array.getElem?_eq_some_iff.1 hX).1)).trans hX
          have hb6 := hb4.trans (hb5.mono hb4.size)
          have hat5 := hat4.below hb5
          conv => arg 4; whnf
          conv => arg 4; arg 1; whnf
          refine pt_free (by rfl) (fun K hK => ?_)
          go_big_quiet_op
          first | (refine hK _ ?_; clear hK K) | (refine ⟨_, fun _ _ => rfl, hK _ ?_⟩; clear hK K)
          try simp only [z1, z2, z3, z4, Bool.not_true, Bool.not_false, bne]
          conv => arg 4; whnf
          conv => arg 4; arg 1; whnf
          refine pt_free (by rfl) (fun K hK => ?_)
          go_big_quiet_op
          first | (refine hK _ ?_; clear hK K) | (refine ⟨_, fun _ _ => rfl, hK _ ?_⟩; clear hK K)
          conv => arg 4; whnf
          conv => arg 4; arg 1; whnf
          refine pt_free (by rfl) (fun K hK => ?_)
          go_big_quiet_op
          first | (refine hK _ ?_; clear hK K) | (refine ⟨_, fun _ _ => rfl, hK _ ?_⟩; clear hK K)
          conv => arg 4; whnf
          conv => arg 4; arg 1; whnf
          refine pt_loadX (fun W hW => load_st _ _ W ((hW.cell (World.block_lt_of_cell? _ _ q1)).trans q1)) (by rfl) rfl rfl ?_
          try simp only [Act.put, List.setIfInBounds_toArray, List.set_cons_zero, List.set_cons_succ]
          conv => arg 4; whnf
          conv => arg 4; arg 1; whnf
          refine pt_free (by rfl) (fun K hK => ?_)
          go_big_quiet_op
          first | (refine hK _ ?_; clear hK K) | (refine ⟨_, fun _ _ => rfl, hK _ ?_⟩; clear hK K)
          conv => arg 4; whnf
          conv => arg 4; arg 1; whnf
          refine pt_free (by rfl) (fun K hK => ?_)
          go_big_quiet_op
          first | (refine hK _ ?_; clear hK K) | (refine ⟨_, fun _ _ => rfl, hK _ ?_⟩; clear hK K)
          try simp only [z1, z2, z3, z4, Bool.not_true, Bool.not_false, bne]
          conv => arg 4; whnf
          conv => arg 4; arg 1; whnf
          refine pt_free (by rfl) (fun K hK => ?_)
          go_big_quiet_op
          first | (refine hK _ ?_; clear hK K) | (refine ⟨_, fun _ _ => rfl, hK _ ?_⟩; clear hK K)
          conv => arg 4; whnf
          conv => arg 4; arg 1; whnf
          refine pt_free (by rfl) (fun K hK => ?_)
          go_big_quiet_op
          first | (refine hK _ ?_; clear hK K) | (refine ⟨_, fun _ _ => rfl, hK _ ?_⟩; clear hK K)
          conv => arg 4; whnf
          conv => arg 4; arg 1; whnf
          refine pt_free_skip (by rfl) ?_
          try simp only [Act.put, List.setIfInBounds_toArray, List.set_cons_zero, List.set_cons_succ]
          conv => arg 4; whnf
          conv => arg 4; arg 1; whnf
          refine pt_free_skip (by rfl) ?_
          try simp only [Act.put, List.setIfInBounds_toArray, List.set_cons_zero, List.set_cons_succ]
          conv => arg 4; whnf
          conv => arg 4; arg 1; whnf
          refine pt_free_skip (by rfl) ?_
          try simp only [Act.put, List.setIfInBounds_toArray, List.set_cons_zero, List.set_cons_succ]
          conv => arg 4; whnf
          conv => arg 4; arg 1; whnf
          refine pt_free_skip (by rfl) ?_
          try simp only [Act.put, List.setIfInBounds_toArray, List.set_cons_zero, List.set_cons_succ]
          conv => arg 4; whnf
          conv => arg 4; arg 1; whnf
          refine pt_free_skip (by rfl) ?_
          try simp only [Act.put, List.setIfInBounds_toArray, List.set_cons_zero, List.set_cons_succ]
          conv => arg 4; whnf
          conv => arg 4; arg 1; whnf
          refine pt_free_skip (by rfl) ?_
          try simp only [Act.put, List.setIfInBounds_toArray, List.set_cons_zero, List.set_cons_succ]
          conv => arg 4; whnf
          conv => arg 4; arg 1; whnf
          refine pt_free_skip (by rfl) ?_
          try simp only [Act.put, List.setIfInBounds_toArray, List.set_cons_zero, List.set_cons_succ]
          conv => arg 4; whnf
          conv => arg 4; arg 1; whnf
          refine pt_free_skip (by rfl) ?_
          try simp only [Act.put, List.setIfInBounds_toArray, List.set_cons_zero, List.set_cons_succ]
          conv => arg 4; whnf
          conv => arg 4; arg 1; whnf
          refine pt_free_skip (by rfl) ?_
          try simp only [Act.put, List.setIfInBounds_toArray, List.set_cons_zero, List.set_cons_succ]
          conv => arg 4; whnf
          conv => arg 4; arg 1; whnf
          refine pt_free_skip (by rfl) ?_
          try simp only [Act.put, List.setIfInBounds_toArray, List.set_cons_zero, List.set_cons_succ]
          conv => arg 4; whnf
          conv => arg 4; arg 1; whnf
          refine pt_free_skip (by rfl) ?_
          try simp only [Act.put, List.setIfInBounds_toArray, List.set_cons_zero, List.set_cons_succ]
          conv => arg 4; whnf
          conv => arg 4; arg 1; whnf
          refine pt_free_skip (by rfl) ?_
          try simp only [Act.put, List.setIfInBounds_toArray, List.set_cons_zero, List.set_cons_succ]
          conv => arg 4; whnf
          conv => arg 4; arg 1; whnf
          refine pt_free_skip (by rfl) ?_
          try simp only [Act.put, List.setIfInBounds_toArray, List.set_cons_zero, List.set_cons_succ]
          conv => arg 4; whnf
          conv => arg 4; arg 1; whnf
          refine pt_free_skip (by rfl) ?_
          try simp only [Act.put, List.setIfInBounds_toArray, List.set_cons_zero, List.set_cons_succ]
          conv => arg 4; whnf
          conv => arg 4; arg 1; whnf
          refine pt_free_skip (by rfl) ?_
          try simp only [Act.put, List.setIfInBounds_toArray, List.set_cons_zero, List.set_cons_succ]
          conv => arg 4; whnf
          conv => arg 4; arg 1; whnf
          refine pt_free (by rfl) (fun K hK => ?_)
          go_big_quiet_op
          first | (refine hK _ ?_; clear hK K) | (refine ⟨_, fun _ _ => rfl, hK _ ?_⟩; clear hK K)
          refine pt_nil ?_
          go_wp2_with fail
          go_ret
          exact ⟨false, rfl, ⟨fun h9 => (by cases h9), fun h9 => absurd (h9 i y HY.out) HNO.out⟩, hb6⟩
      · have z1 : ((m : Int) == (i : Int)) = false := beq_eq_false_iff_ne.2 (by omega)
        have HNO := Lib.hid (show ¬ MayAt l i y from fun h9 => k1 (HPM.out.symm.trans h9.1))
        have z2 : True := trivial
        have z3 : True := trivial
        have z4 : True := trivial
        refine wp_region_tree [] (.free 0 (.free 1 (.free 2 (.free 4 (.eff 3 (.free 5 (.free 6 (.free 7 (.free 8 (.free 9 (.free 10 (.free 11 (.free 12 (.free 13 (.free 14 (.free 15 (.free 16 (.free 17 (.free 18 (.free 19 (.free 20 (.free 21 (.free 22 (.free 23 (.free 24 (.free 25 (.free 26 (.free 27 (.free 28 .nil))))))))))))))))))))))))))))) (by kernel_rfl) (by kernel_rfl) (fun _ _ d _ _ h => by cases d <;> exact h) ?_
        have hat4 : AtC w4.drew _ l := hat4
        have hX : w4.drew.heap[X]? = _ := hX
        have hb4 : Below w.heap.size w w4.drew := hb4.drew
        have x0 : w4.drew.cell? _ = _ := x0
        have x1 : w4.drew.cell? _ = _ := x1
        have HP := Lib.hid (show At1 vStr w4.drew y.A y.ps from HP.out)
        generalize w4.drew = w4 at hat4 hX hb4 x0 x1 HP ⊢
        conv => arg 4; whnf
        conv => arg 4; arg 1; whnf
        refine pt_free (by rfl) (fun K hK => ?_)
        go_big_quiet_op
        first | (refine hK _ ?_; clear hK K) | (refine ⟨_, fun _ _ => rfl, hK _ ?_⟩; clear hK K)
        conv => arg 4; whnf
        conv => arg 4; arg 1; whnf
        refine pt_free (by rfl) (fun K hK => ?_)
        go_big_quiet_op
        first | (refine hK _ ?_; clear hK K) | (refine ⟨_, fun _ _ => rfl, hK _ ?_⟩; clear hK K)
        conv => arg 4; whnf
        conv => arg 4; arg 1; whnf
        refine pt_loadX (fun W hW => load_s _ _ W ((hW.cell (World.block_lt_of_cell? _ _ x0)).trans x0)) (by rfl) rfl rfl ?_
        try simp only [Act.put, List.setIfInBounds_toArray, List.set_cons_zero, List.set_cons_succ]
        conv => arg 4; whnf
        conv => arg 4; arg 1; whnf
        refine pt_free (by rfl) (fun K hK => ?_)
        go_big_quiet_op
        first | (refine hK _ ?_; clear hK K) | (refine ⟨_, fun _ _ => rfl, hK _ ?_⟩; clear hK K)
        conv => arg 4; whnf
        conv => arg 4; arg 1; whnf
        refine pt_eff (by rfl) (fun K hK => ?_)
        go_wp2_with fail
        refine (find_any _ _ l c hat4 y.id).mono ?_
        rintro e w5 ⟨rfl, hb5⟩
        rw [HPI.out]
        refine hK _ _ hb5 ?_
        clear hK K
        try simp only [Act.put, List.setIfInBounds_toArray, List.set_cons_zero, List.set_cons_succ]
        have q0 := (hb5.cell (World.block_lt_of_cell? _ _ x0)).trans x0
        have q1 := (hb5.cell (World.block_lt_of_cell? _ _ x1)).trans x1
        have hX5 := (hb5.block X (by exact (Array.getElem?_eq_some_iff.1 hX).1)).trans hX
        have hb6 := hb4.trans (hb5.mono hb4.size)
        have hat5 := hat4.below hb5
        conv => arg 4; whnf
        conv => arg 4; arg 1; whnf
        refine pt_free (by rfl) (fun K hK => ?_)
        go_big_quiet_op
        first | (refine hK _ ?_; clear hK K) | (refine ⟨_, fun _ _ => rfl, hK _ ?_⟩; clear hK K)
        try simp only [z1, z2, z3, z4, Bool.not_true, Bool.not_false, bne]
        conv => arg 4; whnf
        conv => arg 4; arg 1; whnf
        refine pt_free (by rfl) (fun K hK => ?_)
        go_big_quiet_op
        first | (refine hK _ ?_; clear hK K) | (refine ⟨_, fun _ _ => rfl, hK _ ?_⟩; clear hK K)
        conv => arg 4; whnf
        conv => arg 4; arg 1; whnf
        refine pt_free_skip (by rfl) ?_
        try simp only [Act.put, List.setIfInBounds_toArray, List.set_cons_zero, List.set_cons_succ]
        conv => arg 4; whnf
        conv => arg 4; arg 1; whnf
        refine pt_free_skip (by rfl) ?_
        try simp only [Act.put, List.setIfInBounds_toArray, List.set_cons_zero, List.set_cons_succ]
        conv => arg 4; whnf
        conv => arg 4; arg 1; whnf
        refine pt_free_skip (by rfl) ?_
        try simp only [Act.put, List.setIfInBounds_toArray, List.set_cons_zero, List.set_cons_succ]
        conv => arg 4; whnf
        conv => arg 4; arg 1; whnf
        refine pt_free_skip (by rfl) ?_
        try simp only [Act.put, List.setIfInBounds_toArray, List.set_cons_zero, List.set_cons_succ]
        conv => arg 4; whnf
        conv => arg 4; arg 1; whnf
        refine pt_free (by rfl) (fun K hK => ?_)
        go_big_quiet_op
        first | (refine hK _ ?_; clear hK K) | (refine ⟨_, fun _ _ => rfl, hK _ ?_⟩; clear hK K)
        conv => arg 4; whnf
        conv => arg 4; arg 1; whnf
        refine pt_free (by rfl) (fun K hK => ?_)
        go_big_quiet_op
        first | (refine hK _ ?_; clear hK K) | (refine ⟨_, fun _ _ => rfl, hK _ ?_⟩; clear hK K)
        conv => arg 4; whnf
        conv => arg 4; arg 1; whnf
        refine pt_free_skip (by rfl) ?_
        try simp only [Act.put, List.setIfInBounds_toArray, List.set_cons_zero, List.set_cons_succ]
        conv => arg 4; whnf
        conv => arg 4; arg 1; whnf
        refine pt_free_skip (by rfl) ?_
        try simp only [Act.put, List.setIfInBounds_toArray, List.set_cons_zero, List.set_cons_succ]
        conv => arg 4; whnf
        conv => arg 4; arg 1; whnf
        refine pt_free_skip (by rfl) ?_
        try simp only [Act.put, List.setIfInBounds_toArray, List.set_cons_zero, List.set_cons_succ]
        conv => arg 4; whnf
        conv => arg 4; arg 1; whnf
        refine pt_free_skip (by rfl) ?_
        try simp only [Act.put, List.setIfInBounds_toArray, List.set_cons_zero, List.set_cons_succ]
        conv => arg 4; whnf
        conv => arg 4; arg 1; whnf
        refine pt_free_skip (by rfl) ?_
        try simp only [Act.put, List.setIfInBounds_toArray, List.set_cons_zero, List.set_cons_succ]
        conv => arg 4; whnf
        conv => arg 4; arg 1; whnf
        refine pt_free_skip (by rfl) ?_
        try simp only [Act.put, List.setIfInBounds_toArray, List.set_cons_zero, List.set_cons_succ]
        conv => arg 4; whnf
        conv => arg 4; arg 1; whnf
        refine pt_free_skip (by rfl) ?_
        try simp only [Act.put, List.setIfInBounds_toArray, List.set_cons_zero, List.set_cons_succ]
        conv => arg 4; whnf
        conv => arg 4; arg 1; whnf
        refine pt_free_skip (by rfl) ?_
        try simp only [Act.put, List.setIfInBounds_toArray, List.set_cons_zero, List.set_cons_succ]
        conv => arg 4; whnf
        conv => arg 4; arg 1; whnf
        refine pt_free_skip (by rfl) ?_
        try simp only [Act.put, List.setIfInBounds_toArray, List.set_cons_zero, List.set_cons_succ]
        conv => arg 4; whnf
        conv => arg 4; arg 1; whnf
        refine pt_free_skip (by rfl) ?_
        try simp only [Act.put, List.setIfInBounds_toArray, List.set_cons_zero, List.set_cons_succ]
        conv => arg 4; whnf
        conv => arg 4; arg 1; whnf
        refine pt_free_skip (by rfl) ?_
        try simp only [Act.put, List.setIfInBounds_toArray, List.set_cons_zero, List.set_cons_succ]
        conv => arg 4; whnf
        conv => arg 4; arg 1; whnf
        refine pt_free_skip (by rfl) ?_
        try simp only [Act.put, List.setIfInBounds_toArray, List.set_cons_zero, List.set_cons_succ]
        conv => arg 4; whnf
        conv => arg 4; arg 1; whnf
        refine pt_free_skip (by rfl) ?_
        try simp only [Act.put, List.setIfInBounds_toArray, List.set_cons_zero, List.set_cons_succ]
        conv => arg 4; whnf
        conv => arg 4; arg 1; whnf
        refine pt_free_skip (by rfl) ?_
        try simp only [Act.put, List.setIfInBounds_toArray, List.set_cons_zero, List.set_cons_succ]
        conv => arg 4; whnf
        conv => arg 4; arg 1; whnf
        refine pt_free_skip (by rfl) ?_
        try simp only [Act.put, List.setIfInBounds_toArray, List.set_cons_zero, List.set_cons_succ]
        conv => arg 4; whnf
        conv => arg 4; arg 1; whnf
        refine pt_free (by rfl) (fun K hK => ?_)
        go_big_quiet_op
        first | (refine hK _ ?_; clear hK K) | (refine ⟨_, fun _ _ => rfl, hK _ ?_⟩; clear hK K)
        refine pt_nil ?_
        go_wp2_with fail
        go_ret
        exact ⟨false, rfl, ⟨fun h9 => (by cases h9), fun h9 => absurd (h9 i y HY.out) HNO.out⟩, hb6⟩
    · have hie : i = l.length := by omega
      go_wp2_with fail
      go_ret
      exact ⟨true, rfl, ⟨fun _ k y hy => hpre.out k y (by have := (List.getElem?_eq_some_iff.1 hy).1; omega) hy, fun _ => rfl⟩, hb⟩
end Go.Proofs.Ytfhgnolfhiffbaa
