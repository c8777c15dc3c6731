/- The walk of CodeJust. Written by codejust.py. -/
import Derived.Test.YtfjjdmiddigkiaaCodeJustA
import Derived.Test.YtfjjdmiddigkiaaPlan
namespace Go.Proofs.Ytfjjdmiddigkiaa
open Go.RowKit

/-- bytes told: they convert to the text, in every later world -/
theorem rdj {w w' : World} {l : List UInt8} {e : Ending} (h : BytesRd w l e w') :
    ∃ A c, e = .returned (.slice A l.length c) ∧ (∀ W, Ext w' W → (convert 23 9 (.slice A l.length c)).run Try.prog W = .ok (.string ⟨l.toArray⟩) W) ∧ Ext w w' := by
  obtain ⟨A, c, rfl, h1, _, h3⟩ := h
  exact ⟨A, c, rfl, fun W hW => run_str_of (P := Try.prog) Try.underlying23 Try.underlying5 Try.underlying9 rfl (h1.below hW), h3⟩

set_option maxRecDepth 100000 in
set_option maxHeartbeats 1000000 in
theorem codeJust_nn (w : World) (B : Option Addr) (b : List UInt8) (cb : Nat) (k : Nat) (hB : At1 vByte w B b) (hcb : b.length ≤ cb) (hk2 : k < 256) (h1 : b.length ≤ 300) (hg : Code.getAt b k = none) (hl : listAt b k = none) :
    Calls Try.prog 5 #[.slice B b.length cb, .int .u8 (k : Int)] w fun e w' => e = .returned (.bool true) ∧ Below w.heap.size w w' := by
  have hw8 : IntKind.i64.wrap (k : Int) = k := by simp [IntKind.wrap, IntKind.signed, IntKind.bits]; omega
  have HG := Lib.hid hg
  have HL := Lib.hid hl
  clear hg hl
  go_enter Try.func5, Try.ntmps5
  go_wp2_with fail
  refine (get_no hB HG.out).mono ?_
  rintro e w2 ⟨rfl, rfl⟩
  go_wp2_with fail
  refine (getL_no hB hcb (by omega) HL.out).mono ?_
  rintro e w3 ⟨rfl, hb3⟩
  have H3 : Hid (Below w.heap.size w w3.drew) := hb3.drew
  clear hb3
  go_wp2_with fail
  refine wp_region_plan [(0, false), (1, false), (2, false), (3, false), (4, false), (5, false), (6, false), (7, false), (8, false), (9, false), (10, false), (11, false), (12, false), (15, false), (16, false), (17, false), (18, false), (19, false), (13, true), (14, false), (20, false), (21, false), (22, false)] (by kernel_rfl) (by kernel_rfl) (fun _ _ d _ _ h => by cases d <;> exact h) ?_
  iterate 23 ((conv => arg 4; whnf); (conv => arg 4; arg 1; whnf; arg 1; whnf); (first | (refine plan_skip (by rfl) ?_; simp only [Act.put, List.setIfInBounds_toArray, List.set_cons_zero, List.set_cons_succ]) | (refine plan_free (by rfl) (fun K hK => ?_); go_big_quiet_op; first | (refine hK _ ?_; clear hK K) | (refine ⟨_, fun _ _ => rfl, hK _ ?_⟩; clear hK K))))
  conv => arg 4; whnf
  refine plan_nil ?_
  have H4 : Hid (Below w.heap.size w w3.drew.drew) := H3.out.drew
  clear H3
  go_wp2_with fail
  refine wp_region_plan [(0, false), (1, false), (2, false), (3, false), (4, false), (5, false), (6, false), (7, false), (8, false), (9, false), (10, false), (11, false), (12, false), (15, false), (16, false), (17, false), (18, false), (19, false), (13, true), (14, false), (20, false), (21, false), (22, false)] (by kernel_rfl) (by kernel_rfl) (fun _ _ d _ _ h => by cases d <;> exact h) ?_
  iterate 23 ((conv => arg 4; whnf); (conv => arg 4; arg 1; whnf; arg 1; whnf); (first | (refine plan_skip (by rfl) ?_; simp only [Act.put, List.setIfInBounds_toArray, List.set_cons_zero, List.set_cons_succ]) | (refine plan_free (by rfl) (fun K hK => ?_); go_big_quiet_op; first | (refine hK _ ?_; clear hK K) | (refine ⟨_, fun _ _ => rfl, hK _ ?_⟩; clear hK K))))
  conv => arg 4; whnf
  refine plan_nil ?_
  have H5 := H4
  clear H4
  go_wp2_with fail
  refine (awake_end H5).mono ?_
  rintro e w6 ⟨rfl, hb6⟩
  go_wp2
  go_ret
  exact ⟨rfl, hb6.out⟩

set_option maxRecDepth 100000 in
set_option maxHeartbeats 1000000 in
theorem codeJust_ns (w : World) (B : Option Addr) (b : List UInt8) (cb : Nat) (k : Nat) (hB : At1 vByte w B b) (hcb : b.length ≤ cb) (hk2 : k < 256) (h1 : b.length ≤ 300) (hg : Code.getAt b k = none) {l : List (List UInt8)} {m2 : Nat} (hl : listAt b k = some (l, m2)) :
    Calls Try.prog 5 #[.slice B b.length cb, .int .u8 (k : Int)] w fun e w' => e = .returned (.bool true) ∧ Below w.heap.size w w' := by
  have hw8 : IntKind.i64.wrap (k : Int) = k := by simp [IntKind.wrap, IntKind.signed, IntKind.bits]; omega
  have JL := Lib.hid (listAt_just hl)
  have JP : Hid ((b.drop k).take (m2 - k) = Code.putList ((l.map mkS).map bytesOf)) := by
    rw [map_bytesOf_mkS]; exact JL.out.2.2.1
  have hms : ∀ s ∈ l.map mkS, s.size ≤ 1000 := by
    intro s hs
    obtain ⟨x, hx, rfl⟩ := List.mem_map.1 hs
    have := JL.out.2.2.2.2 x hx
    have e : (mkS x).size = x.length := by rw [← bytesOf_len, bytesOf_mkS]
    omega
  obtain ⟨ad, rfl, _⟩ := hB.2 (by have := JL.out; omega)
  have jx1 : ¬ ((m2 : Int) ≤ (k : Int)) := by have := JL.out.1; omega
  have jx2 : ¬ ((b.length : Int) < (m2 : Int)) := by have := JL.out.2.1; omega
  have jd1 : decide (m2 ≤ k) = false := by have := JL.out.1; simp; omega
  have jd2 : decide (b.length < m2) = false := by have := JL.out.2.1; simp; omega
  have jt1 : (k : Int) ≤ (m2 : Int) := by omega
  have jt2 : (m2 : Int) ≤ (cb : Int) := by omega
  have HG := Lib.hid hg
  have HL := Lib.hid hl
  clear hg hl
  go_enter Try.func5, Try.ntmps5
  go_wp2_with fail
  refine (get_no hB HG.out).mono ?_
  rintro e w2 ⟨rfl, rfl⟩
  go_wp2_with fail
  refine (getL_yes hB hcb (by omega) HL.out).mono ?_
  rintro e w3 ⟨M, cm, rfl, hM, hb3⟩
  have HM := Lib.hid hM
  clear hM
  have H3 : Hid (Below w.heap.size w w3.drew) := hb3.drew
  clear hb3
  go_wp2_with fail
  refine wp_region_plan [(0, false), (1, false), (2, false), (3, false), (4, false), (5, false), (6, false), (7, false), (8, false), (9, false), (10, false), (11, false), (12, false), (15, false), (16, false), (17, false), (18, false), (19, false), (13, true), (14, false), (20, false), (21, false), (22, false)] (by kernel_rfl) (by kernel_rfl) (fun _ _ d _ _ h => by cases d <;> exact h) ?_
  iterate 23 ((conv => arg 4; whnf); (conv => arg 4; arg 1; whnf; arg 1; whnf); (first | (refine plan_skip (by rfl) ?_; simp only [Act.put, List.setIfInBounds_toArray, List.set_cons_zero, List.set_cons_succ]) | (refine plan_free (by rfl) (fun K hK => ?_); go_big_quiet_op; first | (refine hK _ ?_; clear hK K) | (refine ⟨_, fun _ _ => rfl, hK _ ?_⟩; clear hK K))))
  conv => arg 4; whnf
  refine plan_nil ?_
  have x0 : Hid (Below w3.heap.size w3 w3.drew.drew) := (Below.refl _ _).drew.drew
  have H4 : Hid (Below w.heap.size w w3.drew.drew) := H3.out.drew
  clear H3
  go_wp2_with fail
  refine wp_region_plan [(0, false), (1, false), (2, false), (3, false), (4, false), (5, false), (6, false), (7, false), (8, false), (9, false), (10, false), (11, false), (12, false), (15, false), (16, false), (17, false), (18, false), (19, false), (13, true), (14, false), (20, false), (21, false), (22, false)] (by kernel_rfl) (by kernel_rfl) (fun _ _ d _ _ h => by cases d <;> exact h) ?_
  iterate 17 ((conv => arg 4; whnf); (conv => arg 4; arg 1; whnf; arg 1; whnf); (first | (refine plan_skip (by rfl) ?_; simp only [Act.put, List.setIfInBounds_toArray, List.set_cons_zero, List.set_cons_succ]) | (refine plan_free (by rfl) (fun K hK => ?_); go_big_quiet_op; first | (refine hK _ ?_; clear hK K) | (refine ⟨_, fun _ _ => rfl, hK _ ?_⟩; clear hK K))))
  conv => arg 4; whnf
  conv => arg 4; arg 1; whnf; arg 1; whnf
  refine plan_conv rfl rfl (by rfl) (part_conv (hB.below H4.out) JL.out.1 JL.out.2.1 JP.out) ?_
  simp only [Act.put, List.setIfInBounds_toArray, List.set_cons_zero, List.set_cons_succ]
  conv => arg 4; whnf
  conv => arg 4; arg 1; whnf; arg 1; whnf
  refine plan_eff (by rfl) (fun K hK => ?_)
  go_wp2_with fail
  refine ((putList_rd _ M (l.map mkS) l.length cm (by simp) (HM.out.below (x0.out)) (by have := JL.out.2.2.2.1; simp; omega) hms).mono fun _ _ h => rdj h).mono ?_
  rintro e w5 ⟨PX, pX, rfl, hcv, x⟩
  refine hK _ _ x ?_
  clear hK K
  conv => arg 4; whnf
  conv => arg 4; arg 1; whnf; arg 1; whnf
  refine plan_conv rfl rfl (by rfl) hcv ?_
  simp only [Act.put, List.setIfInBounds_toArray, List.set_cons_zero, List.set_cons_succ]
  clear hcv
  iterate 3 ((conv => arg 4; whnf); (conv => arg 4; arg 1; whnf; arg 1; whnf); (first | (refine plan_skip (by rfl) ?_; simp only [Act.put, List.setIfInBounds_toArray, List.set_cons_zero, List.set_cons_succ]) | (refine plan_free (by rfl) (fun K hK => ?_); go_big_quiet_op; first | (refine hK _ ?_; clear hK K) | (refine ⟨_, fun _ _ => rfl, hK _ ?_⟩; clear hK K))))
  conv => arg 4; whnf
  refine plan_nil ?_
  have H5 : Hid (Below w.heap.size w w5) := H4.out.trans (x.mono H4.out.size)
  clear x H4
  go_wp2_with fail
  refine (awake_end H5).mono ?_
  rintro e w6 ⟨rfl, hb6⟩
  go_wp2
  go_ret
  exact ⟨rfl, hb6.out⟩

set_option maxRecDepth 100000 in
set_option maxHeartbeats 1000000 in
theorem codeJust_sn (w : World) (B : Option Addr) (b : List UInt8) (cb : Nat) (k : Nat) (hB : At1 vByte w B b) (hcb : b.length ≤ cb) (hk2 : k < 256) (h1 : b.length ≤ 300) {n m : Nat} (hg : Code.getAt b k = some (n, m)) (hl : listAt b k = none) :
    Calls Try.prog 5 #[.slice B b.length cb, .int .u8 (k : Int)] w fun e w' => e = .returned (.bool true) ∧ Below w.heap.size w w' := by
  have hw8 : IntKind.i64.wrap (k : Int) = k := by simp [IntKind.wrap, IntKind.signed, IntKind.bits]; omega
  have J := Lib.hid (getAt_just hg)
  have JN : Hid ((b.drop k).take (m - k) = Code.putN (n : Int)) := by
    unfold Code.putN
    rw [if_neg (by omega), Int.toNat_natCast]; exact J.out.2.2.1
  have hn2 : (n : Int) ≤ 9223372036854775807 := by have := J.out.2.2.2; omega
  obtain ⟨ad, rfl, _⟩ := hB.2 (by have := J.out; omega)
  have jn1 : ¬ ((m : Int) ≤ (k : Int)) := by have := J.out.1; omega
  have jn2 : ¬ ((b.length : Int) < (m : Int)) := by have := J.out.2.1; omega
  have je1 : decide (m ≤ k) = false := by have := J.out.1; simp; omega
  have je2 : decide (b.length < m) = false := by have := J.out.2.1; simp; omega
  have js1 : (k : Int) ≤ (m : Int) := by omega
  have js2 : (m : Int) ≤ (cb : Int) := by omega
  have HG := Lib.hid hg
  have HL := Lib.hid hl
  clear hg hl
  go_enter Try.func5, Try.ntmps5
  go_wp2_with fail
  refine (get_yes hB HG.out).mono ?_
  rintro e w2 ⟨rfl, rfl⟩
  go_wp2_with fail
  refine (getL_no hB hcb (by omega) HL.out).mono ?_
  rintro e w3 ⟨rfl, hb3⟩
  have H3 : Hid (Below w.heap.size w w3.drew) := hb3.drew
  clear hb3
  go_wp2_with fail
  refine wp_region_plan [(0, false), (1, false), (2, false), (3, false), (4, false), (5, false), (6, false), (7, false), (8, false), (9, false), (10, false), (11, false), (12, false), (15, false), (16, false), (17, false), (18, false), (19, false), (13, true), (14, false), (20, false), (21, false), (22, false)] (by kernel_rfl) (by kernel_rfl) (fun _ _ d _ _ h => by cases d <;> exact h) ?_
  iterate 17 ((conv => arg 4; whnf); (conv => arg 4; arg 1; whnf; arg 1; whnf); (first | (refine plan_skip (by rfl) ?_; simp only [Act.put, List.setIfInBounds_toArray, List.set_cons_zero, List.set_cons_succ]) | (refine plan_free (by rfl) (fun K hK => ?_); go_big_quiet_op; first | (refine hK _ ?_; clear hK K) | (refine ⟨_, fun _ _ => rfl, hK _ ?_⟩; clear hK K))))
  conv => arg 4; whnf
  conv => arg 4; arg 1; whnf; arg 1; whnf
  refine plan_conv rfl rfl (by rfl) (part_conv (hB.below H3.out) J.out.1 J.out.2.1 JN.out) ?_
  simp only [Act.put, List.setIfInBounds_toArray, List.set_cons_zero, List.set_cons_succ]
  conv => arg 4; whnf
  conv => arg 4; arg 1; whnf; arg 1; whnf
  refine plan_eff (by rfl) (fun K hK => ?_)
  go_wp2_with fail
  refine ((put_rd _ (n : Int) hn2).mono fun _ _ h => rdj h).mono ?_
  rintro e w4 ⟨PJ, pJ, rfl, hcv, x⟩
  refine hK _ _ x ?_
  clear hK K
  conv => arg 4; whnf
  conv => arg 4; arg 1; whnf; arg 1; whnf
  refine plan_conv rfl rfl (by rfl) hcv ?_
  simp only [Act.put, List.setIfInBounds_toArray, List.set_cons_zero, List.set_cons_succ]
  clear hcv
  iterate 3 ((conv => arg 4; whnf); (conv => arg 4; arg 1; whnf; arg 1; whnf); (first | (refine plan_skip (by rfl) ?_; simp only [Act.put, List.setIfInBounds_toArray, List.set_cons_zero, List.set_cons_succ]) | (refine plan_free (by rfl) (fun K hK => ?_); go_big_quiet_op; first | (refine hK _ ?_; clear hK K) | (refine ⟨_, fun _ _ => rfl, hK _ ?_⟩; clear hK K))))
  conv => arg 4; whnf
  refine plan_nil ?_
  have H4 : Hid (Below w.heap.size w w4.drew) := (H3.out.trans (x.mono H3.out.size)).drew
  clear x H3
  go_wp2_with fail
  refine wp_region_plan [(0, false), (1, false), (2, false), (3, false), (4, false), (5, false), (6, false), (7, false), (8, false), (9, false), (10, false), (11, false), (12, false), (15, false), (16, false), (17, false), (18, false), (19, false), (13, true), (14, false), (20, false), (21, false), (22, false)] (by kernel_rfl) (by kernel_rfl) (fun _ _ d _ _ h => by cases d <;> exact h) ?_
  iterate 23 ((conv => arg 4; whnf); (conv => arg 4; arg 1; whnf; arg 1; whnf); (first | (refine plan_skip (by rfl) ?_; simp only [Act.put, List.setIfInBounds_toArray, List.set_cons_zero, List.set_cons_succ]) | (refine plan_free (by rfl) (fun K hK => ?_); go_big_quiet_op; first | (refine hK _ ?_; clear hK K) | (refine ⟨_, fun _ _ => rfl, hK _ ?_⟩; clear hK K))))
  conv => arg 4; whnf
  refine plan_nil ?_
  have H5 := H4
  clear H4
  go_wp2_with fail
  refine (awake_end H5).mono ?_
  rintro e w6 ⟨rfl, hb6⟩
  go_wp2
  go_ret
  exact ⟨rfl, hb6.out⟩

set_option maxRecDepth 100000 in
set_option maxHeartbeats 1000000 in
theorem codeJust_ss (w : World) (B : Option Addr) (b : List UInt8) (cb : Nat) (k : Nat) (hB : At1 vByte w B b) (hcb : b.length ≤ cb) (hk2 : k < 256) (h1 : b.length ≤ 300) {n m : Nat} (hg : Code.getAt b k = some (n, m)) {l : List (List UInt8)} {m2 : Nat} (hl : listAt b k = some (l, m2)) :
    Calls Try.prog 5 #[.slice B b.length cb, .int .u8 (k : Int)] w fun e w' => e = .returned (.bool true) ∧ Below w.heap.size w w' := by
  have hw8 : IntKind.i64.wrap (k : Int) = k := by simp [IntKind.wrap, IntKind.signed, IntKind.bits]; omega
  have J := Lib.hid (getAt_just hg)
  have JN : Hid ((b.drop k).take (m - k) = Code.putN (n : Int)) := by
    unfold Code.putN
    rw [if_neg (by omega), Int.toNat_natCast]; exact J.out.2.2.1
  have hn2 : (n : Int) ≤ 9223372036854775807 := by have := J.out.2.2.2; omega
  have JL := Lib.hid (listAt_just hl)
  have JP : Hid ((b.drop k).take (m2 - k) = Code.putList ((l.map mkS).map bytesOf)) := by
    rw [map_bytesOf_mkS]; exact JL.out.2.2.1
  have hms : ∀ s ∈ l.map mkS, s.size ≤ 1000 := by
    intro s hs
    obtain ⟨x, hx, rfl⟩ := List.mem_map.1 hs
    have := JL.out.2.2.2.2 x hx
    have e : (mkS x).size = x.length := by rw [← bytesOf_len, bytesOf_mkS]
    omega
  obtain ⟨ad, rfl, _⟩ := hB.2 (by have := J.out; omega)
  have jn1 : ¬ ((m : Int) ≤ (k : Int)) := by have := J.out.1; omega
  have jn2 : ¬ ((b.length : Int) < (m : Int)) := by have := J.out.2.1; omega
  have je1 : decide (m ≤ k) = false := by have := J.out.1; simp; omega
  have je2 : decide (b.length < m) = false := by have := J.out.2.1; simp; omega
  have js1 : (k : Int) ≤ (m : Int) := by omega
  have js2 : (m : Int) ≤ (cb : Int) := by omega
  have jx1 : ¬ ((m2 : Int) ≤ (k : Int)) := by have := JL.out.1; omega
  have jx2 : ¬ ((b.length : Int) < (m2 : Int)) := by have := JL.out.2.1; omega
  have jd1 : decide (m2 ≤ k) = false := by have := JL.out.1; simp; omega
  have jd2 : decide (b.length < m2) = false := by have := JL.out.2.1; simp; omega
  have jt1 : (k : Int) ≤ (m2 : Int) := by omega
  have jt2 : (m2 : Int) ≤ (cb : Int) := by omega
  have HG := Lib.hid hg
  have HL := Lib.hid hl
  clear hg hl
  go_enter Try.func5, Try.ntmps5
  go_wp2_with fail
  refine (get_yes hB HG.out).mono ?_
  rintro e w2 ⟨rfl, rfl⟩
  go_wp2_with fail
  refine (getL_yes hB hcb (by omega) HL.out).mono ?_
  rintro e w3 ⟨M, cm, rfl, hM, hb3⟩
  have HM := Lib.hid hM
  clear hM
  have H3 : Hid (Below w.heap.size w w3.drew) := hb3.drew
  clear hb3
  go_wp2_with fail
  refine wp_region_plan [(0, false), (1, false), (2, false), (3, false), (4, false), (5, false), (6, false), (7, false), (8, false), (9, false), (10, false), (11, false), (12, false), (15, false), (16, false), (17, false), (18, false), (19, false), (13, true), (14, false), (20, false), (21, false), (22, false)] (by kernel_rfl) (by kernel_rfl) (fun _ _ d _ _ h => by cases d <;> exact h) ?_
  iterate 17 ((conv => arg 4; whnf); (conv => arg 4; arg 1; whnf; arg 1; whnf); (first | (refine plan_skip (by rfl) ?_; simp only [Act.put, List.setIfInBounds_toArray, List.set_cons_zero, List.set_cons_succ]) | (refine plan_free (by rfl) (fun K hK => ?_); go_big_quiet_op; first | (refine hK _ ?_; clear hK K) | (refine ⟨_, fun _ _ => rfl, hK _ ?_⟩; clear hK K))))
  conv => arg 4; whnf
  conv => arg 4; arg 1; whnf; arg 1; whnf
  refine plan_conv rfl rfl (by rfl) (part_conv (hB.below H3.out) J.out.1 J.out.2.1 JN.out) ?_
  simp only [Act.put, List.setIfInBounds_toArray, List.set_cons_zero, List.set_cons_succ]
  conv => arg 4; whnf
  conv => arg 4; arg 1; whnf; arg 1; whnf
  refine plan_eff (by rfl) (fun K hK => ?_)
  go_wp2_with fail
  refine ((put_rd _ (n : Int) hn2).mono fun _ _ h => rdj h).mono ?_
  rintro e w4 ⟨PJ, pJ, rfl, hcv, x⟩
  refine hK _ _ x ?_
  clear hK K
  conv => arg 4; whnf
  conv => arg 4; arg 1; whnf; arg 1; whnf
  refine plan_conv rfl rfl (by rfl) hcv ?_
  simp only [Act.put, List.setIfInBounds_toArray, List.set_cons_zero, List.set_cons_succ]
  clear hcv
  iterate 3 ((conv => arg 4; whnf); (conv => arg 4; arg 1; whnf; arg 1; whnf); (first | (refine plan_skip (by rfl) ?_; simp only [Act.put, List.setIfInBounds_toArray, List.set_cons_zero, List.set_cons_succ]) | (refine plan_free (by rfl) (fun K hK => ?_); go_big_quiet_op; first | (refine hK _ ?_; clear hK K) | (refine ⟨_, fun _ _ => rfl, hK _ ?_⟩; clear hK K))))
  conv => arg 4; whnf
  refine plan_nil ?_
  have x0 : Hid (Below w3.heap.size w3 w4.drew) := ((Below.refl _ w3).drew.trans (show Below w3.heap.size w3.drew w4 from x)).drew
  have H4 : Hid (Below w.heap.size w w4.drew) := (H3.out.trans (x.mono H3.out.size)).drew
  clear x H3
  go_wp2_with fail
  refine wp_region_plan [(0, false), (1, false), (2, false), (3, false), (4, false), (5, false), (6, false), (7, false), (8, false), (9, false), (10, false), (11, false), (12, false), (15, false), (16, false), (17, false), (18, false), (19, false), (13, true), (14, false), (20, false), (21, false), (22, false)] (by kernel_rfl) (by kernel_rfl) (fun _ _ d _ _ h => by cases d <;> exact h) ?_
  iterate 17 ((conv => arg 4; whnf); (conv => arg 4; arg 1; whnf; arg 1; whnf); (first | (refine plan_skip (by rfl) ?_; simp only [Act.put, List.setIfInBounds_toArray, List.set_cons_zero, List.set_cons_succ]) | (refine plan_free (by rfl) (fun K hK => ?_); go_big_quiet_op; first | (refine hK _ ?_; clear hK K) | (refine ⟨_, fun _ _ => rfl, hK _ ?_⟩; clear hK K))))
  conv => arg 4; whnf
  conv => arg 4; arg 1; whnf; arg 1; whnf
  refine plan_conv rfl rfl (by rfl) (part_conv (hB.below H4.out) JL.out.1 JL.out.2.1 JP.out) ?_
  simp only [Act.put, List.setIfInBounds_toArray, List.set_cons_zero, List.set_cons_succ]
  conv => arg 4; whnf
  conv => arg 4; arg 1; whnf; arg 1; whnf
  refine plan_eff (by rfl) (fun K hK => ?_)
  go_wp2_with fail
  refine ((putList_rd _ M (l.map mkS) l.length cm (by simp) (HM.out.below (x0.out)) (by have := JL.out.2.2.2.1; simp; omega) hms).mono fun _ _ h => rdj h).mono ?_
  rintro e w5 ⟨PX, pX, rfl, hcv, x⟩
  refine hK _ _ x ?_
  clear hK K
  conv => arg 4; whnf
  conv => arg 4; arg 1; whnf; arg 1; whnf
  refine plan_conv rfl rfl (by rfl) hcv ?_
  simp only [Act.put, List.setIfInBounds_toArray, List.set_cons_zero, List.set_cons_succ]
  clear hcv
  iterate 3 ((conv => arg 4; whnf); (conv => arg 4; arg 1; whnf; arg 1; whnf); (first | (refine plan_skip (by rfl) ?_; simp only [Act.put, List.setIfInBounds_toArray, List.set_cons_zero, List.set_cons_succ]) | (refine plan_free (by rfl) (fun K hK => ?_); go_big_quiet_op; first | (refine hK _ ?_; clear hK K) | (refine ⟨_, fun _ _ => rfl, hK _ ?_⟩; clear hK K))))
  conv => arg 4; whnf
  refine plan_nil ?_
  have H5 : Hid (Below w.heap.size w w5) := H4.out.trans (x.mono H4.out.size)
  clear x H4
  go_wp2_with fail
  refine (awake_end H5).mono ?_
  rintro e w6 ⟨rfl, hb6⟩
  go_wp2
  go_ret
  exact ⟨rfl, hb6.out⟩

set_option maxRecDepth 100000 in
set_option maxHeartbeats 1000000 in
theorem codeJust_walk (w : World) (B : Option Addr) (b : List UInt8) (cb : Nat) (n0 : Int) (hB : At1 vByte w B b) (hcb : b.length ≤ cb) (hk : (Lit.int .u8 n0).wf = true) :
    Calls Try.prog 5 #[.slice B b.length cb, .int .u8 n0] w fun e w' => e = .returned (.bool true) ∧ Below w.heap.size w w' := by
  obtain ⟨k, rfl, hk2⟩ : ∃ k : Nat, n0 = (k : Int) ∧ k < 256 := by simp [Lit.wf, IntKind.min, IntKind.max, IntKind.signed, IntKind.bits] at hk; exact ⟨n0.toNat, by omega, by omega⟩
  clear hk
  by_cases h1 : 300 < b.length
  · have H0 : Hid (Below w.heap.size w w) := Below.refl _ _
    go_enter Try.func5, Try.ntmps5
    go_wp2_with fail
    refine (awake_end H0).mono ?_
    rintro e w3 ⟨rfl, hb3⟩
    go_wp2
    go_ret
    exact ⟨rfl, hb3.out⟩
  · cases hg : Code.getAt b k with
    | none =>
      cases hl : listAt b k with
      | none => exact codeJust_nn w B b cb k hB hcb hk2 (by omega) hg hl
      | some p => exact codeJust_ns w B b cb k hB hcb hk2 (by omega) hg (l := p.1) (m2 := p.2) hl
    | some q =>
      cases hl : listAt b k with
      | none => exact codeJust_sn w B b cb k hB hcb hk2 (by omega) (n := q.1) (m := q.2) hg hl
      | some p => exact codeJust_ss w B b cb k hB hcb hk2 (by omega) (n := q.1) (m := q.2) hg (l := p.1) (m2 := p.2) hl
end Go.Proofs.Ytfjjdmiddigkiaa
