/- The walk of chequerlaw16.AlignAll. Written by allwalkgen.py. -/
import Derived.Test.YthoccmgfpjfkoaaGreat
import Derived.Test.YthoccmgfpjfkoaaGoneAwake
namespace Go.Proofs.Ythoccmgfpjfkoaa
open Go.RowKit

theorem colsOf_len (rs ts : List SRow) (m : List Int) (ca cb : Nat) : (colsOf rs ts m ca cb).length = ca := by unfold colsOf; rw [rowsOf_len, colKeys_len]
theorem rows_len (rs ts : List SRow) : (rowsOf (rowKeys rs) (rowKeys ts)).length = rs.length := by rw [rowsOf_len, rowKeys_len]

set_option maxRecDepth 100000 in
set_option maxHeartbeats 8000000 in
theorem alignAll_walk (w : World) (A B L : Option Addr) (rs ts : List SRow) (l : List ByteArray) (c d cl : Nat) (name name2 : ByteArray) (cols cols2 : Int)
    (hA : Grid w A rs) (hB : Grid w B ts) (hL : At1 vStr w L l) (hra : Small rs) (hrb : Small ts) (hl : ∀ s ∈ l, s.size ≤ 1048576) :
    Calls Try.prog 4 #[.agg #[.string name, .int .i64 cols, .slice A rs.length c], .agg #[.string name2, .int .i64 cols2, .slice B ts.length d], .slice L l.length cl] w fun e w' => e = .returned (.bool true) ∧ Below w.heap.size w w' := by
  have HRA := Lib.hid hra
  have HRB := Lib.hid hrb
  have HA := Lib.hid hA
  have HB := Lib.hid hB
  have HL := Lib.hid hL
  have HLS := Lib.hid hl
  clear hA hB hL hra hrb hl
  go_enter Try.func4, Try.ntmps4
  go_wp2_with fail
  obtain ⟨W, hW⟩ : ∃ W, W = (((w.alloc (.cells #[.string name, .int .i64 cols, .slice A rs.length c] 24)).alloc (.cells #[.string name2, .int .i64 cols2, .slice B ts.length d] 24)).alloc (.cells #[.string name, .int .i64 cols, .slice A rs.length c, .string name2, .int .i64 cols2, .slice B ts.length d] 24)) := ⟨_, rfl⟩
  have hs0 := heap_alloc_new w (.cells #[.string name, .int .i64 cols, .slice A rs.length c] 24)
  have hs1 := heap_alloc_new (w.alloc (.cells #[.string name, .int .i64 cols, .slice A rs.length c] 24)) (.cells #[.string name2, .int .i64 cols2, .slice B ts.length d] 24)
  rw [World.size_alloc] at hs1
  have hs2 := heap_alloc_new ((w.alloc (.cells #[.string name, .int .i64 cols, .slice A rs.length c] 24)).alloc (.cells #[.string name2, .int .i64 cols2, .slice B ts.length d] 24)) (.cells #[.string name, .int .i64 cols, .slice A rs.length c, .string name2, .int .i64 cols2, .slice B ts.length d] 24)
  rw [World.size_alloc, World.size_alloc] at hs2
  have hS0 : W.heap[w.heap.size]? = some (.cells #[.string name, .int .i64 cols, .slice A rs.length c] 24 (0, 0)) := by rw [hW]; exact (Below.heap_alloc _ _ _ (by simp; try omega)).trans ((Below.heap_alloc _ _ _ (by simp; try omega)).trans (hs0))
  have hS1 : W.heap[w.heap.size + 1]? = some (.cells #[.string name2, .int .i64 cols2, .slice B ts.length d] 24 (0, 0)) := by rw [hW]; exact (Below.heap_alloc _ _ _ (by simp; try omega)).trans (hs1)
  have hS2 : W.heap[w.heap.size + 1 + 1]? = some (.cells #[.string name, .int .i64 cols, .slice A rs.length c, .string name2, .int .i64 cols2, .slice B ts.length d] 24 (0, 0)) := by rw [hW]; exact hs2
  have hsW : W.heap.size = w.heap.size + 3 := by rw [hW]; simp
  have hbW : Below w.heap.size w W := by rw [hW]; exact (((Below.refl _ _).alloc (Nat.le_refl _) _).alloc (by simp; try omega) _).alloc (by simp; try omega) _
  rw [← hW]
  clear hW hs0 hs1 hs2
  have GA := Lib.hid (HA.out.below hbW)
  have GB := Lib.hid (HB.out.below hbW)
  have GL := Lib.hid (HL.out.below hbW)
  clear HA HB HL
  refine (great_any W (w.heap.size + 1 + 1) A B rs ts c d name name2 cols cols2 hS2 GA.out GB.out HRA.out HRB.out).mono ?_
  rintro e w1 ⟨b, rfl, hf, hb1⟩
  have hsz1 := hb1.size
  have hA1 := (hb1.block w.heap.size (by omega)).trans hS0
  have hB1 := (hb1.block (w.heap.size + 1) (by omega)).trans hS1
  obtain ⟨a0, a1, a2⟩ := sheet3 hA1
  obtain ⟨b0, b1, b2⟩ := sheet3 hB1
  clear hS0 hS1 hS2 HRA HRB
  cases b with
  | true =>
    clear hf
    go_wp2_with fail
    refine (awake_any w1).mono ?_
    rintro e wz ⟨rfl, hbz⟩
    go_wp2
    go_ret
    have hbb := hbW.trans (hb1.mono hbW.size)
    exact ⟨rfl, hbb.trans (hbz.mono hbb.size)⟩
  | false =>
    obtain ⟨hfa, hfb⟩ := hf rfl
    have HFA := Lib.hid hfa
    have HFB := Lib.hid hfb
    clear hf hfa hfb
    go_wp2_with fail
    refine (may_any w1 A rs c name cols (GA.out.below hb1)).mono ?_
    rintro e w2 ⟨b, rfl, hm1, hb2⟩
    have hbw2 := hb1.trans (hb2.mono hsz1)
    have hsz2 := hbw2.size
    have hA2 := (hb2.block w.heap.size (by omega)).trans hA1
    have hB2 := (hb2.block (w.heap.size + 1) (by omega)).trans hB1
    clear a0 a1 a2 b0 b1 b2
    obtain ⟨b0, b1, b2⟩ := sheet3 hB2
    clear hA1 hB1 hb2
    cases b with
    | false =>
      clear hm1
      go_wp2_with fail
      refine (awake_any w2).mono ?_
      rintro e wz ⟨rfl, hbz⟩
      go_wp2
      go_ret
      have hbb := hbW.trans (hbw2.mono hbW.size)
      exact ⟨rfl, hbb.trans (hbz.mono hbb.size)⟩
    | true =>
      have HM1 := Lib.hid (hm1 rfl)
      clear hm1
      go_wp2_with fail
      refine (may_any w2 B ts d name2 cols2 (GB.out.below hbw2)).mono ?_
      rintro e w3 ⟨b, rfl, hm2, hb3⟩
      have hbw3 := hbw2.trans (hb3.mono hsz2)
      have hsz3 := hbw3.size
      have hA3 := (hb3.block w.heap.size (by omega)).trans hA2
      have hB3 := (hb3.block (w.heap.size + 1) (by omega)).trans hB2
      clear b0 b1 b2 hA2 hB2 hb3 hbw2 hb1
      cases b with
      | false =>
        clear hm2
        go_wp2_with fail
        refine (awake_any w3).mono ?_
        rintro e wz ⟨rfl, hbz⟩
        go_wp2
        go_ret
        have hbb := hbW.trans (hbw3.mono hbW.size)
        exact ⟨rfl, hbb.trans (hbz.mono hbb.size)⟩
      | true =>
        have HM2 := Lib.hid (hm2 rfl)
        clear hm2
        by_cases h60 : 60 < l.length
        · have h60z : (60 : Int) < (l.length : Int) := by omega
          go_wp2_with fail
          refine (awake_any w3).mono ?_
          rintro e wz ⟨rfl, hbz⟩
          go_wp2
          go_ret
          have hbb := hbW.trans (hbw3.mono hbW.size)
          exact ⟨rfl, hbb.trans (hbz.mono hbb.size)⟩
        · have h60z : ¬ (60 : Int) < (l.length : Int) := by omega
          go_wp2
          obtain ⟨hc0, hc1, _, hwa⟩ := HM1.out
          obtain ⟨hd0, hd1, _, hwb⟩ := HM2.out
          obtain ⟨ca, hca⟩ := Int.eq_ofNat_of_zero_le hc0
          obtain ⟨cb, hcb⟩ := Int.eq_ofNat_of_zero_le hd0
          subst hca hcb
          have HWA : Hid (Wide rs ca) := fun r hr => by have := hwa r hr; omega
          have HWB : Hid (Wide ts cb) := fun r hr => by have := hwb r hr; omega
          have hca : ca ≤ 200 := by omega
          have hcb : cb ≤ 200 := by omega
          have HMA := Lib.hid HFA.out.mild
          have HMB := Lib.hid HFB.out.mild
          clear hc0 hc1 hwa hd0 hd1 hwb HM1 HM2 HFA HFB
          have GA3 := Lib.hid (GA.out.below hbw3)
          have GB3 := Lib.hid (GB.out.below hbw3)
          have GL3 := Lib.hid (GL.out.below hbw3)
          have hbw := hbW.trans (hbw3.mono hbW.size)
          have hl1000 : l.length ≤ 1000 := by omega
          have hlo : w.heap.size + 1 < w3.heap.size := by omega
          clear GA GB GL hbw3 hsz3 hsz2 hsz1 hsW hbW
          have hbV : Below w3.heap.size w3 w3.drew := (Below.refl _ _).drew
          have hsv : w3.heap.size ≤ w3.drew.heap.size := hbV.size
          refine wp_region_tree [] (.free 0 (.free 2 (.eff 1 (.eff 3 (.free 4 (.free 5 (.free 6 (.free 7 (.free 9 (.free 10 (.eff 8 (.eff 11 (.eff 12 (.free 13 (.free 14 (.free 15 (.free 16 (.free 18 (.free 19 (.eff 17 (.eff 20 (.eff 21 (.free 22 (.free 23 (.free 24 (.free 25 (.free 26 (.free 27 (.free 30 (.free 31 (.free 32 (.free 33 (.eff 28 (.eff 29 (.eff 34 (.eff 35 (.eff 36 (.free 37 (.free 38 (.eff 39 (.free 40 (.free 41 (.nil))))))))))))))))))))))))))))))))))))))))))) (by kernel_rfl) (by kernel_rfl) (fun _ _ d _ _ h => by cases d <;> exact h) ?_
          generalize w3.drew = wv at *
          conv => arg 4; whnf
          conv => arg 4; arg 1; whnf
          refine pt_free (by rfl) (fun K hK => ?_)
          go_big_quiet_op
          first | (refine hK _ ?_; clear hK K) | (refine ⟨_, fun _ _ => rfl, hK _ ?_⟩; clear hK K)
          conv => arg 4; whnf
          conv => arg 4; arg 1; whnf
          refine pt_free (by rfl) (fun K hK => ?_)
          go_big_quiet_op
          first | (refine hK _ ?_; clear hK K) | (refine ⟨_, fun _ _ => rfl, hK _ ?_⟩; clear hK K)
          conv => arg 4; whnf
          conv => arg 4; arg 1; whnf
          refine pt_eff (by rfl) (fun K hK => ?_)
          go_wp2_with fail
          refine (key_any _ L l cl (GL3.out.below hbV) hl1000 HLS.out).mono ?_
          rintro e wn ⟨rfl, hbn⟩
          refine hK _ _ hbn ?_
          clear hK K
          have hbV := hbV.trans (hbn.mono hbV.size)
          have hsv := hbV.size
          clear hbn
          generalize wn = wv at *
          conv => arg 4; whnf
          conv => arg 4; arg 1; whnf
          refine pt_eff (by rfl) (fun K hK => ?_)
          go_wp2_with fail
          refine (rkey_any _ L l cl (GL3.out.below hbV) hl1000 HLS.out).mono ?_
          rintro e wn ⟨rfl, hbn⟩
          refine hK _ _ hbn ?_
          clear hK K
          have hbV := hbV.trans (hbn.mono hbV.size)
          have hsv := hbV.size
          clear hbn
          generalize wn = wv at *
          conv => arg 4; whnf
          conv => arg 4; arg 1; whnf
          refine pt_free (by rfl) (fun K hK => ?_)
          go_big_quiet_op
          first | (refine hK _ ?_; clear hK K) | (refine ⟨_, fun _ _ => rfl, hK _ ?_⟩; clear hK K)
          conv => arg 4; whnf
          conv => arg 4; arg 1; whnf
          refine pt_free (by rfl) (fun K hK => ?_)
          go_big_quiet_op
          first | (refine hK _ ?_; clear hK K) | (refine ⟨_, fun _ _ => rfl, hK _ ?_⟩; clear hK K)
          have hAv := (hbV.block w.heap.size (by omega)).trans hA3
          have hAl : w.heap.size < wv.heap.size := (Array.getElem?_eq_some_iff.1 hAv).1
          have hBv := (hbV.block (w.heap.size + 1) (by omega)).trans hB3
          have hBl : w.heap.size + 1 < wv.heap.size := (Array.getElem?_eq_some_iff.1 hBv).1
          conv => arg 4; whnf
          conv => arg 4; arg 1; whnf
          refine pt_loadB (k := w.heap.size) (fun W h => load_sheet _ W _ _ _ _ _ (h.trans hAv)) hAl (by rfl) rfl rfl ?_
          simp only [Act.put, List.setIfInBounds_toArray, List.set_cons_zero, List.set_cons_succ]
          conv => arg 4; whnf
          conv => arg 4; arg 1; whnf
          refine pt_loadB (k := w.heap.size + 1) (fun W h => load_sheet _ W _ _ _ _ _ (h.trans hBv)) hBl (by rfl) rfl rfl ?_
          simp only [Act.put, List.setIfInBounds_toArray, List.set_cons_zero, List.set_cons_succ]
          conv => arg 4; whnf
          conv => arg 4; arg 1; whnf
          refine pt_loadB (k := w.heap.size) (fun W h => load_sheet _ W _ _ _ _ _ (h.trans hAv)) hAl (by rfl) rfl rfl ?_
          simp only [Act.put, List.setIfInBounds_toArray, List.set_cons_zero, List.set_cons_succ]
          conv => arg 4; whnf
          conv => arg 4; arg 1; whnf
          refine pt_loadB (k := w.heap.size + 1) (fun W h => load_sheet _ W _ _ _ _ _ (h.trans hBv)) hBl (by rfl) rfl rfl ?_
          simp only [Act.put, List.setIfInBounds_toArray, List.set_cons_zero, List.set_cons_succ]
          conv => arg 4; whnf
          conv => arg 4; arg 1; whnf
          refine pt_eff (by rfl) (fun K hK => ?_)
          go_wp2_with fail
          refine (alignSheets_any _ A B rs ts c d name name2 ca cb (GA3.out.below hbV) (GB3.out.below hbV) HMA.out HMB.out HWA.out HWB.out hca hcb).mono ?_
          rintro e wn ⟨Z1, e1, Z2, e2, rfl, hZ1, hZ2, hbn⟩
          refine hK _ _ hbn ?_
          clear hK K
          have HZ1 := Lib.hid hZ1
          have HZ2 := Lib.hid hZ2
          clear hZ1 hZ2
          have hbV := hbV.trans (hbn.mono hbV.size)
          have hsv := hbV.size
          clear hbn
          generalize wn = wv at *
          conv => arg 4; whnf
          conv => arg 4; arg 1; whnf
          refine pt_eff (by rfl) (fun K hK => ?_)
          go_wp2_with fail
          refine (rsheets_any _ A B rs ts c d name name2 ca cb (GA3.out.below hbV) (GB3.out.below hbV) HMA.out HMB.out HWA.out HWB.out hca hcb).mono ?_
          rintro e wn ⟨Z3, e3, Z4, e4, rfl, hZ3, hZ4, hbn⟩
          refine hK _ _ hbn ?_
          clear hK K
          have HZ3 := Lib.hid hZ3
          have HZ4 := Lib.hid hZ4
          have HZ5 := Lib.hid (HZ1.out.below hbn)
          have HZ6 := Lib.hid (HZ2.out.below hbn)
          clear hZ3 hZ4 HZ1 HZ2
          have hbV := hbV.trans (hbn.mono hbV.size)
          have hsv := hbV.size
          clear hbn
          generalize wn = wv at *
          conv => arg 4; whnf
          conv => arg 4; arg 1; whnf
          refine pt_eff (by rfl) (fun K hK => ?_)
          go_wp2_with fail
          refine (sameShift_any _ Z1 Z2 Z3 Z4 (rowsOf (rowKeys rs) (rowKeys ts)) (colsOf rs ts (rowsOf (rowKeys rs) (rowKeys ts)) ca cb) name rs.length ca e1 e2 e3 e4 ts.length cb (rows_len _ _) (colsOf_len _ _ _ _ _) HZ5.out HZ6.out HZ3.out HZ4.out).mono ?_
          rintro e wn ⟨rfl, hbn⟩
          refine hK _ _ hbn ?_
          clear hK K
          clear HZ3 HZ4 HZ5 HZ6
          have hbV := hbV.trans (hbn.mono hbV.size)
          have hsv := hbV.size
          clear hbn
          generalize wn = wv at *
          clear hAv hBv hAl hBl
          conv => arg 4; whnf
          conv => arg 4; arg 1; whnf
          refine pt_free (by rfl) (fun K hK => ?_)
          go_big_quiet_op
          first | (refine hK _ ?_; clear hK K) | (refine ⟨_, fun _ _ => rfl, hK _ ?_⟩; clear hK K)
          conv => arg 4; whnf
          conv => arg 4; arg 1; whnf
          refine pt_free (by rfl) (fun K hK => ?_)
          go_big_quiet_op
          first | (refine hK _ ?_; clear hK K) | (refine ⟨_, fun _ _ => rfl, hK _ ?_⟩; clear hK K)
          have hAv := (hbV.block w.heap.size (by omega)).trans hA3
          have hAl : w.heap.size < wv.heap.size := (Array.getElem?_eq_some_iff.1 hAv).1
          have hBv := (hbV.block (w.heap.size + 1) (by omega)).trans hB3
          have hBl : w.heap.size + 1 < wv.heap.size := (Array.getElem?_eq_some_iff.1 hBv).1
          conv => arg 4; whnf
          conv => arg 4; arg 1; whnf
          refine pt_loadB (k := w.heap.size) (fun W h => load_sheet _ W _ _ _ _ _ (h.trans hAv)) hAl (by rfl) rfl rfl ?_
          simp only [Act.put, List.setIfInBounds_toArray, List.set_cons_zero, List.set_cons_succ]
          conv => arg 4; whnf
          conv => arg 4; arg 1; whnf
          refine pt_loadB (k := w.heap.size + 1) (fun W h => load_sheet _ W _ _ _ _ _ (h.trans hBv)) hBl (by rfl) rfl rfl ?_
          simp only [Act.put, List.setIfInBounds_toArray, List.set_cons_zero, List.set_cons_succ]
          conv => arg 4; whnf
          conv => arg 4; arg 1; whnf
          refine pt_loadB (k := w.heap.size) (fun W h => load_sheet _ W _ _ _ _ _ (h.trans hAv)) hAl (by rfl) rfl rfl ?_
          simp only [Act.put, List.setIfInBounds_toArray, List.set_cons_zero, List.set_cons_succ]
          conv => arg 4; whnf
          conv => arg 4; arg 1; whnf
          refine pt_loadB (k := w.heap.size + 1) (fun W h => load_sheet _ W _ _ _ _ _ (h.trans hBv)) hBl (by rfl) rfl rfl ?_
          simp only [Act.put, List.setIfInBounds_toArray, List.set_cons_zero, List.set_cons_succ]
          conv => arg 4; whnf
          conv => arg 4; arg 1; whnf
          refine pt_eff (by rfl) (fun K hK => ?_)
          go_wp2_with fail
          refine (alignRows_rd _ A B rs ts c d name name2 ca cb (GA3.out.below hbV) (GB3.out.below hbV) HMA.out HMB.out).mono ?_
          rintro e wn ⟨Y1, f1, rfl, hY1, _, hbn⟩
          refine hK _ _ hbn ?_
          clear hK K
          have HY1 := Lib.hid hY1
          clear hY1
          have hbV := hbV.trans (hbn.mono hbV.size)
          have hsv := hbV.size
          clear hbn
          generalize wn = wv at *
          conv => arg 4; whnf
          conv => arg 4; arg 1; whnf
          refine pt_eff (by rfl) (fun K hK => ?_)
          go_wp2_with fail
          refine (rrows_rd _ A B rs ts c d name name2 ca cb (GA3.out.below hbV) (GB3.out.below hbV) HMA.out HMB.out).mono ?_
          rintro e wn ⟨Y2, f2, rfl, hY2, _, hbn⟩
          refine hK _ _ hbn ?_
          clear hK K
          have HY2 := Lib.hid hY2
          have HY3 := Lib.hid (HY1.out.below hbn)
          clear hY2 HY1
          have hbV := hbV.trans (hbn.mono hbV.size)
          have hsv := hbV.size
          clear hbn
          generalize wn = wv at *
          conv => arg 4; whnf
          conv => arg 4; arg 1; whnf
          refine pt_eff (by rfl) (fun K hK => ?_)
          go_wp2_with fail
          refine (sameMap_any _ Y1 Y2 (rowsOf (rowKeys rs) (rowKeys ts)) (rowsOf (rowKeys rs) (rowKeys ts)) rs.length rs.length f1 f2 ts.length (rows_len _ _) (rows_len _ _) HY3.out HY2.out rfl).mono ?_
          rintro e wn ⟨rfl, hbn⟩
          refine hK _ _ hbn ?_
          clear hK K
          clear HY2 HY3
          have hbV := hbV.trans (hbn.mono hbV.size)
          have hsv := hbV.size
          clear hbn
          generalize wn = wv at *
          clear hAv hBv hAl hBl
          conv => arg 4; whnf
          conv => arg 4; arg 1; whnf
          refine pt_free (by rfl) (fun K hK => ?_)
          go_big_quiet_op
          first | (refine hK _ ?_; clear hK K) | (refine ⟨_, fun _ _ => rfl, hK _ ?_⟩; clear hK K)
          conv => arg 4; whnf
          conv => arg 4; arg 1; whnf
          refine pt_free (by rfl) (fun K hK => ?_)
          go_big_quiet_op
          first | (refine hK _ ?_; clear hK K) | (refine ⟨_, fun _ _ => rfl, hK _ ?_⟩; clear hK K)
          have hAv := (hbV.block w.heap.size (by omega)).trans hA3
          have hAl : w.heap.size < wv.heap.size := (Array.getElem?_eq_some_iff.1 hAv).1
          have hBv := (hbV.block (w.heap.size + 1) (by omega)).trans hB3
          have hBl : w.heap.size + 1 < wv.heap.size := (Array.getElem?_eq_some_iff.1 hBv).1
          conv => arg 4; whnf
          conv => arg 4; arg 1; whnf
          refine pt_loadB (k := w.heap.size) (fun W h => load_sheet _ W _ _ _ _ _ (h.trans hAv)) hAl (by rfl) rfl rfl ?_
          simp only [Act.put, List.setIfInBounds_toArray, List.set_cons_zero, List.set_cons_succ]
          conv => arg 4; whnf
          conv => arg 4; arg 1; whnf
          refine pt_loadB (k := w.heap.size + 1) (fun W h => load_sheet _ W _ _ _ _ _ (h.trans hBv)) hBl (by rfl) rfl rfl ?_
          simp only [Act.put, List.setIfInBounds_toArray, List.set_cons_zero, List.set_cons_succ]
          conv => arg 4; whnf
          conv => arg 4; arg 1; whnf
          refine pt_loadB (k := w.heap.size) (fun W h => load_sheet _ W _ _ _ _ _ (h.trans hAv)) hAl (by rfl) rfl rfl ?_
          simp only [Act.put, List.setIfInBounds_toArray, List.set_cons_zero, List.set_cons_succ]
          conv => arg 4; whnf
          conv => arg 4; arg 1; whnf
          refine pt_loadB (k := w.heap.size + 1) (fun W h => load_sheet _ W _ _ _ _ _ (h.trans hBv)) hBl (by rfl) rfl rfl ?_
          simp only [Act.put, List.setIfInBounds_toArray, List.set_cons_zero, List.set_cons_succ]
          conv => arg 4; whnf
          conv => arg 4; arg 1; whnf
          refine pt_loadB (k := w.heap.size) (fun W h => load_sheet _ W _ _ _ _ _ (h.trans hAv)) hAl (by rfl) rfl rfl ?_
          simp only [Act.put, List.setIfInBounds_toArray, List.set_cons_zero, List.set_cons_succ]
          conv => arg 4; whnf
          conv => arg 4; arg 1; whnf
          refine pt_loadB (k := w.heap.size + 1) (fun W h => load_sheet _ W _ _ _ _ _ (h.trans hBv)) hBl (by rfl) rfl rfl ?_
          simp only [Act.put, List.setIfInBounds_toArray, List.set_cons_zero, List.set_cons_succ]
          conv => arg 4; whnf
          conv => arg 4; arg 1; whnf
          refine pt_loadB (k := w.heap.size) (fun W h => load_sheet _ W _ _ _ _ _ (h.trans hAv)) hAl (by rfl) rfl rfl ?_
          simp only [Act.put, List.setIfInBounds_toArray, List.set_cons_zero, List.set_cons_succ]
          conv => arg 4; whnf
          conv => arg 4; arg 1; whnf
          refine pt_loadB (k := w.heap.size + 1) (fun W h => load_sheet _ W _ _ _ _ _ (h.trans hBv)) hBl (by rfl) rfl rfl ?_
          simp only [Act.put, List.setIfInBounds_toArray, List.set_cons_zero, List.set_cons_succ]
          conv => arg 4; whnf
          conv => arg 4; arg 1; whnf
          refine pt_eff (by rfl) (fun K hK => ?_)
          go_wp2_with fail
          refine (rrows_rd _ A B rs ts c d name name2 ca cb (GA3.out.below hbV) (GB3.out.below hbV) HMA.out HMB.out).mono ?_
          rintro e wn ⟨Y4, f4, rfl, hY4, _, hbn⟩
          refine hK _ _ hbn ?_
          clear hK K
          have HY4 := Lib.hid hY4
          clear hY4
          have hbV := hbV.trans (hbn.mono hbV.size)
          have hsv := hbV.size
          clear hbn
          generalize wn = wv at *
          conv => arg 4; whnf
          conv => arg 4; arg 1; whnf
          refine pt_eff (by rfl) (fun K hK => ?_)
          go_wp2_with fail
          refine (alignCols_rd _ A B rs ts c d name name2 ca cb Y4 (rowsOf (rowKeys rs) (rowKeys ts)) rs.length f4 ts.length (rows_len _ _) (GA3.out.below hbV) (GB3.out.below hbV) HMA.out HMB.out HWA.out HWB.out HY4.out rfl hca hcb).mono ?_
          rintro e wn ⟨X1, g1, rfl, hX1, _, hbn⟩
          refine hK _ _ hbn ?_
          clear hK K
          have HX1 := Lib.hid hX1
          clear hX1 HY4
          have hbV := hbV.trans (hbn.mono hbV.size)
          have hsv := hbV.size
          clear hbn
          generalize wn = wv at *
          conv => arg 4; whnf
          conv => arg 4; arg 1; whnf
          refine pt_eff (by rfl) (fun K hK => ?_)
          go_wp2_with fail
          refine (rrows_rd _ A B rs ts c d name name2 ca cb (GA3.out.below hbV) (GB3.out.below hbV) HMA.out HMB.out).mono ?_
          rintro e wn ⟨Y5, f5, rfl, hY5, _, hbn⟩
          refine hK _ _ hbn ?_
          clear hK K
          have HY5 := Lib.hid hY5
          have HX2 := Lib.hid (HX1.out.below hbn)
          clear hY5 HX1
          have hbV := hbV.trans (hbn.mono hbV.size)
          have hsv := hbV.size
          clear hbn
          generalize wn = wv at *
          conv => arg 4; whnf
          conv => arg 4; arg 1; whnf
          refine pt_eff (by rfl) (fun K hK => ?_)
          go_wp2_with fail
          refine (rcols_rd _ A B rs ts c d name name2 ca cb Y5 (rowsOf (rowKeys rs) (rowKeys ts)) rs.length f5 ts.length (rows_len _ _) (GA3.out.below hbV) (GB3.out.below hbV) HMA.out HMB.out HWA.out HWB.out HY5.out rfl hca hcb).mono ?_
          rintro e wn ⟨X3, g3, rfl, hX3, _, hbn⟩
          refine hK _ _ hbn ?_
          clear hK K
          have HX3 := Lib.hid hX3
          have HX4 := Lib.hid (HX2.out.below hbn)
          clear hX3 HX2 HY5
          have hbV := hbV.trans (hbn.mono hbV.size)
          have hsv := hbV.size
          clear hbn
          generalize wn = wv at *
          conv => arg 4; whnf
          conv => arg 4; arg 1; whnf
          refine pt_eff (by rfl) (fun K hK => ?_)
          go_wp2_with fail
          refine (sameMap_any _ X1 X3 (colsOf rs ts (rowsOf (rowKeys rs) (rowKeys ts)) ca cb) (colsOf rs ts (rowsOf (rowKeys rs) (rowKeys ts)) ca cb) ca ca g1 g3 cb (colsOf_len _ _ _ _ _) (colsOf_len _ _ _ _ _) HX4.out HX3.out rfl).mono ?_
          rintro e wn ⟨rfl, hbn⟩
          refine hK _ _ hbn ?_
          clear hK K
          clear HX3 HX4
          have hbV := hbV.trans (hbn.mono hbV.size)
          have hsv := hbV.size
          clear hbn
          generalize wn = wv at *
          clear hAv hBv hAl hBl
          conv => arg 4; whnf
          conv => arg 4; arg 1; whnf
          refine pt_free (by rfl) (fun K hK => ?_)
          go_big_quiet_op
          first | (refine hK _ ?_; clear hK K) | (refine ⟨_, fun _ _ => rfl, hK _ ?_⟩; clear hK K)
          conv => arg 4; whnf
          conv => arg 4; arg 1; whnf
          refine pt_free (by rfl) (fun K hK => ?_)
          go_big_quiet_op
          first | (refine hK _ ?_; clear hK K) | (refine ⟨_, fun _ _ => rfl, hK _ ?_⟩; clear hK K)
          conv => arg 4; whnf
          conv => arg 4; arg 1; whnf
          refine pt_eff (by rfl) (fun K hK => ?_)
          go_wp2_with fail
          refine (awake_any _).mono ?_
          rintro e wn ⟨rfl, hbn⟩
          refine hK _ _ hbn ?_
          clear hK K
          have hbV := hbV.trans (hbn.mono hbV.size)
          have hsv := hbV.size
          clear hbn
          generalize wn = wv at *
          conv => arg 4; whnf
          conv => arg 4; arg 1; whnf
          refine pt_free (by rfl) (fun K hK => ?_)
          go_big_quiet_op
          first | (refine hK _ ?_; clear hK K) | (refine ⟨_, fun _ _ => rfl, hK _ ?_⟩; clear hK K)
          conv => arg 4; whnf
          conv => arg 4; arg 1; whnf
          refine pt_free (by rfl) (fun K hK => ?_)
          go_big_quiet_op
          first | (refine hK _ ?_; clear hK K) | (refine ⟨_, fun _ _ => rfl, hK _ ?_⟩; clear hK K)
          refine pt_nil ?_
          go_wp2
          go_ret
          exact ⟨rfl, hbw.trans (hbV.mono hbw.size)⟩
end Go.Proofs.Ythoccmgfpjfkoaa
