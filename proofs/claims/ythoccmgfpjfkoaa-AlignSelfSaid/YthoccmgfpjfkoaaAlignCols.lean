/- The walk of align.Cols. Written by acolsgen.py. -/
import Derived.Test.YthoccmgfpjfkoaaRCols
namespace Go.Proofs.Ythoccmgfpjfkoaa
open Go.RowKit

theorem fromOf_lt {rs ts : List SRow} {ms : List Int} {j : Nat} : ∀ r ∈ fromOf rs ts ms j, r < j := fun r hr => by
  obtain ⟨x, hx, rfl⟩ := List.mem_map.1 hr
  exact (keptTo_lt x hx).1
theorem toOf_lt {rs ts : List SRow} {ms : List Int} {j : Nat} : ∀ r ∈ toOf rs ts ms j, r < ts.length := fun r hr => by
  obtain ⟨x, hx, rfl⟩ := List.mem_map.1 hr
  have := (keptTo_lt x hx).2
  rwa [rowKeys_len] at this
theorem from_reads {w : World} {base : Nat} {x y : Value} {rs ts : List SRow} {ms : List Int} {j : Nat} (h : TwoRows w base x y (keptTo (rowKeys rs) (rowKeys ts) ms j)) (hj : j ≤ 1000) :
    ∃ A c B d, x = .slice A (fromOf rs ts ms j).length c ∧ y = .slice B (toOf rs ts ms j).length d ∧ At1 vInt w A ((fromOf rs ts ms j).map fun r : Nat => (r : Int)) ∧ At1 vInt w B ((toOf rs ts ms j).map fun r : Nat => (r : Int)) := by
  obtain ⟨h1, h2, _⟩ := h
  have hl := keptTo_len (rowKeys rs) (rowKeys ts) ms j
  obtain ⟨A, c, rfl, _, _⟩ := own_form h1
  obtain ⟨B, d, rfl, _, _⟩ := own_form h2
  refine ⟨A, c, B, d, by simp [fromOf], by simp [toOf], At1.of_own (n := (keptTo (rowKeys rs) (rowKeys ts) ms j).length) (by unfold fromOf; rw [List.map_map, List.map_map]; exact h1) (by simp [fromOf]; omega),
    At1.of_own (n := (keptTo (rowKeys rs) (rowKeys ts) ms j).length) (by unfold toOf; rw [List.map_map, List.map_map]; exact h2) (by simp [toOf]; omega)⟩

set_option maxRecDepth 100000 in
set_option maxHeartbeats 4000000 in
theorem alignCols_any (w : World) (A B : Option Addr) (rs ts : List SRow) (c d : Nat) (name name2 : ByteArray) (ca cb : Nat) (M : Option Addr) (ms : List Int) (cm : Nat) (N : Int)
    (hA : Grid w A rs) (hB : Grid w B ts) (hma : Mild rs) (hmb : Mild ts) (hwa : Wide rs ca) (hwb : Wide ts cb) (hM : At1 vInt w M ms) (hml : ms.length = rs.length) (hca : ca ≤ 200) (hcb : cb ≤ 200) :
    Calls Try.prog 20 #[.agg #[.string name, .int .i64 ca, .slice A rs.length c], .agg #[.string name2, .int .i64 cb, .slice B ts.length d], .agg #[.slice M ms.length cm, .int .i64 N]] w fun e w' =>
      ∃ Z c2, e = .returned (.agg #[.slice Z ca c2, .int .i64 cb]) ∧ w'.ownsRow w.heap.size 3 1 (.slice Z ca c2) ca ((colsOf rs ts ms ca cb).map vInt) ∧ Below w.heap.size w w' := by
  have HMA := Lib.hid hma
  have HMB := Lib.hid hmb
  have HWA := Lib.hid hwa
  have HWB := Lib.hid hwb
  have HA := Lib.hid hA
  have HB := Lib.hid hB
  have HM := Lib.hid hM
  have hma1 := hma.1
  have HML := Lib.hid hml
  clear hA hB hM hma hmb hml hwa hwb
  go_enter Try.func20, Try.ntmps20
  go_wp2
  obtain ⟨W, hW⟩ : ∃ W, W = ((((w.alloc (.cells #[.string name, .int .i64 ca, .slice A rs.length c] 24)).alloc (.cells #[.string name2, .int .i64 cb, .slice B ts.length d] 24)).alloc (.cells #[.slice M ms.length cm, .int .i64 N] 30)).alloc (.cells #[.slice none 0 0, .int .i64 0] 30)) := ⟨_, rfl⟩
  have hs0 := heap_alloc_new w (.cells #[.string name, .int .i64 ca, .slice A rs.length c] 24)
  have hs1 := heap_alloc_new (w.alloc (.cells #[.string name, .int .i64 ca, .slice A rs.length c] 24)) (.cells #[.string name2, .int .i64 cb, .slice B ts.length d] 24)
  rw [World.size_alloc] at hs1
  have hs2 := heap_alloc_new ((w.alloc (.cells #[.string name, .int .i64 ca, .slice A rs.length c] 24)).alloc (.cells #[.string name2, .int .i64 cb, .slice B ts.length d] 24)) (.cells #[.slice M ms.length cm, .int .i64 N] 30)
  rw [World.size_alloc, World.size_alloc] at hs2
  have hs3 := heap_alloc_new (((w.alloc (.cells #[.string name, .int .i64 ca, .slice A rs.length c] 24)).alloc (.cells #[.string name2, .int .i64 cb, .slice B ts.length d] 24)).alloc (.cells #[.slice M ms.length cm, .int .i64 N] 30)) (.cells #[.slice none 0 0, .int .i64 0] 30)
  rw [World.size_alloc, World.size_alloc, World.size_alloc] at hs3
  have hS0 : W.heap[w.heap.size]? = some (.cells #[.string name, .int .i64 ca, .slice A rs.length c] 24 (0, 0)) := by rw [hW]; exact (Below.heap_alloc _ _ _ (by simp; try omega)).trans ((Below.heap_alloc _ _ _ (by simp; try omega)).trans ((Below.heap_alloc _ _ _ (by simp; try omega)).trans (hs0)))
  have hS1 : W.heap[w.heap.size + 1]? = some (.cells #[.string name2, .int .i64 cb, .slice B ts.length d] 24 (0, 0)) := by rw [hW]; exact (Below.heap_alloc _ _ _ (by simp; try omega)).trans ((Below.heap_alloc _ _ _ (by simp; try omega)).trans (hs1))
  have hS2 : W.heap[w.heap.size + 1 + 1]? = some (.cells #[.slice M ms.length cm, .int .i64 N] 30 (0, 0)) := by rw [hW]; exact (Below.heap_alloc _ _ _ (by simp; try omega)).trans (hs2)
  have hR : W.heap[w.heap.size + 1 + 1 + 1]? = some (.cells #[.slice none 0 0, .int .i64 0] 30 (0, 0)) := by rw [hW]; exact hs3
  have hsW : W.heap.size = w.heap.size + 4 := by rw [hW]; simp
  have hbW : Below w.heap.size w W := by rw [hW]; exact ((((Below.refl _ _).alloc (Nat.le_refl _) _).alloc (by simp; try omega) _).alloc (by simp; try omega) _).alloc (by simp; try omega) _
  rw [← hW]
  clear hW hs0 hs1 hs2 hs3
  have C0 : CSt w.heap.size A B M rs ts ms c d cm name name2 ca cb N W := ⟨hS0, hS1, hS2, HA.out.below hbW, HB.out.below hbW, HM.out.below hbW⟩
  have C0 := Lib.hid C0
  clear hS0 hS1 hS2 HA HB HM
  obtain ⟨_, _, _, _, _, _, m0, m1⟩ := C0.out.facts
  go_wp2
  clear m0 m1
  go_loopw [7, 8, 9, 10, 14] (fun v u _ _ i wr => ∃ j : Nat, j ≤ rs.length ∧ i = .int .i64 j ∧ TwoRows wr W.heap.size v u (keptTo (rowKeys rs) (rowKeys ts) ms j) ∧ Below W.heap.size W wr) (fun _ _ _ _ i _ => rs.length - (intOf i).toNat)
  case atStart => exact ⟨0, Nat.zero_le _, rfl, ⟨World.ownsRow_nil _ _ _ _, World.ownsRow_nil _ _ _ _, Apart.nil _⟩, Below.refl _ _⟩
  case round =>
    obtain ⟨j, hj, rfl, hT, hb⟩ := hrel
    have hT := Lib.hid hT
    have hsz := hb.size
    have C1 := C0.out.keep hb
    obtain ⟨a0, a1, a2, b0, b1, b2, m0, m1⟩ := C1.facts
    by_cases hlt : j < rs.length
    · have him : j < ms.length := by rw [HML.out]; exact hlt
      obtain ⟨adm, hme, hcm⟩ := C1.gm.at_ him
      subst hme
      have hjm : (j : Int) < (ms.length : Int) := by omega
      have hja : (j : Int) < (rs.length : Int) := by omega
      have HV : Hid (ms[j]? = some ms[j]) := List.getElem?_eq_getElem him
      have l0 : w.heap.size < wr.drew.heap.size := C1.lt.1
      have l1 : w.heap.size + 1 < wr.drew.heap.size := C1.lt.2.1
      have hkl := keptTo_len (rowKeys rs) (rowKeys ts) ms j
      generalize ms[j] = t at *
      by_cases h0 : 0 ≤ t
      · by_cases h1 : t < (ts.length : Int)
        · obtain ⟨tk, rfl⟩ := Int.eq_ofNat_of_zero_le h0
          have htk : tk < ts.length := by omega
          have GA := C1.ga
          have GB := C1.gb
          have hal := alikeB_at HV.out hlt htk
          have htz : (ms.getD j (-1)).toNat = tk := by rw [getD_of HV.out]; simp
          obtain ⟨ada, hae, hca'⟩ := GA.top.at_ hlt
          obtain ⟨adb, hbe, hcb'⟩ := GB.top.at_ htk
          subst hae hbe
          have la : (ada.add j).block < wr.drew.heap.size := World.block_lt_of_cell? wr _ hca'
          have lb : (adb.add tk).block < wr.drew.heap.size := World.block_lt_of_cell? wr _ hcb'
          have RA := Lib.hid ((GA.row rs[j] (List.getElem_mem _)).below (Below.refl _ _).drew)
          have SA := Lib.hid (HMA.out.2 rs[j] (List.getElem_mem _))
          have RB := Lib.hid ((GB.row ts[tk] (List.getElem_mem _)).below (Below.refl _ _).drew)
          have SB := Lib.hid (HMB.out.2 ts[tk] (List.getElem_mem _))
          clear GA GB C1
          generalize rs[j] = r at hca' RA SA hal
          obtain ⟨rA, rl, rc⟩ := r
          generalize ts[tk] = t at hcb' RB SB hal
          obtain ⟨tA, tl, tc⟩ := t
          dsimp only [vRow] at hca' hcb' RA SA RB SB hal
          by_cases hk : keyOf rl = keyOf tl
          · have hkk := str_eq_true hk
            have hyes : Hid (keptTo (rowKeys rs) (rowKeys ts) ms (j + 1) = keptTo (rowKeys rs) (rowKeys ts) ms j ++ [(j, tk)]) := by rw [keptTo_yes (by rw [hal]; exact decide_eq_true hk), htz]; exact rfl
            clear hal htz hk
            go_wp2
            refine wp_region_tree [] (.free 0 (.free 1 (.free 2 (.free 3 (.free 4 (.free 5 (.free 6 (.free 7 (.free 8 (.free 9 (.free 10 (.free 11 (.free 12 (.free 13 (.free 14 (.free 15 (.free 16 (.free 17 (.free 18 (.free 19 (.free 20 (.free 21 (.free 23 (.free 24 (.free 25 (.free 26 (.free 27 (.eff 22 (.eff 28 (.free 29 (.free 30 (.nil)))))))))))))))))))))))))))))))) (by kernel_rfl) (by kernel_rfl) (fun _ _ d _ _ h => by cases d <;> exact h) ?_
            conv => arg 4; whnf
            conv => arg 4; arg 1; whnf
            refine pt_free (by rfl) (fun K hK => ?_)
            go_big_quiet_op
            first | (refine hK _ ?_; clear hK K) | (refine ⟨_, fun _ _ => rfl, hK _ ?_⟩; clear hK K)
            conv => arg 4; whnf
            conv => arg 4; arg 1; whnf
            refine pt_free (by rfl) (fun K hK => ?_)
            go_big_quiet_op
            first | (refine hK _ ?_; clear hK K) | (refine ⟨_, fun _ _ => rfl, hK _ ?_⟩; clear hK K)
            conv => arg 4; whnf
            conv => arg 4; arg 1; whnf
            refine pt_free (by rfl) (fun K hK => ?_)
            go_big_quiet_op
            first | (refine hK _ ?_; clear hK K) | (refine ⟨_, fun _ _ => rfl, hK _ ?_⟩; clear hK K)
            conv => arg 4; whnf
            conv => arg 4; arg 1; whnf
            refine pt_free (by rfl) (fun K hK => ?_)
            go_big_quiet_op
            first | (refine hK _ ?_; clear hK K) | (refine ⟨_, fun _ _ => rfl, hK _ ?_⟩; clear hK K)
            conv => arg 4; whnf
            conv => arg 4; arg 1; whnf
            refine pt_free (by rfl) (fun K hK => ?_)
            go_big_quiet_op
            first | (refine hK _ ?_; clear hK K) | (refine ⟨_, fun _ _ => rfl, hK _ ?_⟩; clear hK K)
            conv => arg 4; whnf
            conv => arg 4; arg 1; whnf
            refine pt_load (fun W h => load_rows _ _ W h) (p := ⟨w.heap.size + 1, 2, none⟩) b2 l1 (by rfl) rfl rfl ?_
            simp only [Act.put, List.setIfInBounds_toArray, List.set_cons_zero, List.set_cons_succ]
            conv => arg 4; whnf
            conv => arg 4; arg 1; whnf
            refine pt_free (by rfl) (fun K hK => ?_)
            go_big_quiet_op
            first | (refine hK _ ?_; clear hK K) | (refine ⟨_, fun _ _ => rfl, hK _ ?_⟩; clear hK K)
            conv => arg 4; whnf
            conv => arg 4; arg 1; whnf
            refine pt_free (by rfl) (fun K hK => ?_)
            go_big_quiet_op
            first | (refine hK _ ?_; clear hK K) | (refine ⟨_, fun _ _ => rfl, hK _ ?_⟩; clear hK K)
            conv => arg 4; whnf
            conv => arg 4; arg 1; whnf
            refine pt_free (by rfl) (fun K hK => ?_)
            go_big_quiet_op
            first | (refine hK _ ?_; clear hK K) | (refine ⟨_, fun _ _ => rfl, hK _ ?_⟩; clear hK K)
            conv => arg 4; whnf
            conv => arg 4; arg 1; whnf
            refine pt_free (by rfl) (fun K hK => ?_)
            go_big_quiet_op
            first | (refine hK _ ?_; clear hK K) | (refine ⟨_, fun _ _ => rfl, hK _ ?_⟩; clear hK K)
            conv => arg 4; whnf
            conv => arg 4; arg 1; whnf
            refine pt_free (by rfl) (fun K hK => ?_)
            go_big_quiet_op
            first | (refine hK _ ?_; clear hK K) | (refine ⟨_, fun _ _ => rfl, hK _ ?_⟩; clear hK K)
            conv => arg 4; whnf
            conv => arg 4; arg 1; whnf
            refine pt_free (by rfl) (fun K hK => ?_)
            go_big_quiet_op
            first | (refine hK _ ?_; clear hK K) | (refine ⟨_, fun _ _ => rfl, hK _ ?_⟩; clear hK K)
            conv => arg 4; whnf
            conv => arg 4; arg 1; whnf
            refine pt_load (fun W h => load_rows _ _ W h) (p := ⟨w.heap.size, 2, none⟩) a2 l0 (by rfl) rfl rfl ?_
            simp only [Act.put, List.setIfInBounds_toArray, List.set_cons_zero, List.set_cons_succ]
            conv => arg 4; whnf
            conv => arg 4; arg 1; whnf
            refine pt_free (by rfl) (fun K hK => ?_)
            go_big_quiet_op
            first | (refine hK _ ?_; clear hK K) | (refine ⟨_, fun _ _ => rfl, hK _ ?_⟩; clear hK K)
            conv => arg 4; whnf
            conv => arg 4; arg 1; whnf
            refine pt_free (by rfl) (fun K hK => ?_)
            go_big_quiet_op
            first | (refine hK _ ?_; clear hK K) | (refine ⟨_, fun _ _ => rfl, hK _ ?_⟩; clear hK K)
            conv => arg 4; whnf
            conv => arg 4; arg 1; whnf
            refine pt_free (by rfl) (fun K hK => ?_)
            go_big_quiet_op
            first | (refine hK _ ?_; clear hK K) | (refine ⟨_, fun _ _ => rfl, hK _ ?_⟩; clear hK K)
            conv => arg 4; whnf
            conv => arg 4; arg 1; whnf
            refine pt_free (by rfl) (fun K hK => ?_)
            go_big_quiet_op
            first | (refine hK _ ?_; clear hK K) | (refine ⟨_, fun _ _ => rfl, hK _ ?_⟩; clear hK K)
            conv => arg 4; whnf
            conv => arg 4; arg 1; whnf
            refine pt_free (by rfl) (fun K hK => ?_)
            go_big_quiet_op
            first | (refine hK _ ?_; clear hK K) | (refine ⟨_, fun _ _ => rfl, hK _ ?_⟩; clear hK K)
            conv => arg 4; whnf
            conv => arg 4; arg 1; whnf
            refine pt_load (fun W h => load_rows _ _ W h) (p := ⟨w.heap.size, 2, none⟩) a2 l0 (by rfl) rfl rfl ?_
            simp only [Act.put, List.setIfInBounds_toArray, List.set_cons_zero, List.set_cons_succ]
            conv => arg 4; whnf
            conv => arg 4; arg 1; whnf
            refine pt_free (by rfl) (fun K hK => ?_)
            go_big_quiet_op
            first | (refine hK _ ?_; clear hK K) | (refine ⟨_, fun _ _ => rfl, hK _ ?_⟩; clear hK K)
            conv => arg 4; whnf
            conv => arg 4; arg 1; whnf
            refine pt_free (by rfl) (fun K hK => ?_)
            go_big_quiet_op
            first | (refine hK _ ?_; clear hK K) | (refine ⟨_, fun _ _ => rfl, hK _ ?_⟩; clear hK K)
            conv => arg 4; whnf
            conv => arg 4; arg 1; whnf
            refine pt_load (fun W h => load_strs _ _ W h) (p := ada.add j) hca' la (by rfl) rfl rfl ?_
            simp only [Act.put, List.setIfInBounds_toArray, List.set_cons_zero, List.set_cons_succ]
            conv => arg 4; whnf
            conv => arg 4; arg 1; whnf
            refine pt_free (by rfl) (fun K hK => ?_)
            go_big_quiet_op
            first | (refine hK _ ?_; clear hK K) | (refine ⟨_, fun _ _ => rfl, hK _ ?_⟩; clear hK K)
            conv => arg 4; whnf
            conv => arg 4; arg 1; whnf
            refine pt_load (fun W h => load_rows _ _ W h) (p := ⟨w.heap.size + 1, 2, none⟩) b2 l1 (by rfl) rfl rfl ?_
            simp only [Act.put, List.setIfInBounds_toArray, List.set_cons_zero, List.set_cons_succ]
            conv => arg 4; whnf
            conv => arg 4; arg 1; whnf
            refine pt_free (by rfl) (fun K hK => ?_)
            go_big_quiet_op
            first | (refine hK _ ?_; clear hK K) | (refine ⟨_, fun _ _ => rfl, hK _ ?_⟩; clear hK K)
            conv => arg 4; whnf
            conv => arg 4; arg 1; whnf
            refine pt_free (by rfl) (fun K hK => ?_)
            go_big_quiet_op
            first | (refine hK _ ?_; clear hK K) | (refine ⟨_, fun _ _ => rfl, hK _ ?_⟩; clear hK K)
            conv => arg 4; whnf
            conv => arg 4; arg 1; whnf
            refine pt_load (fun W h => load_strs _ _ W h) (p := adb.add tk) hcb' lb (by rfl) rfl rfl ?_
            simp only [Act.put, List.setIfInBounds_toArray, List.set_cons_zero, List.set_cons_succ]
            conv => arg 4; whnf
            conv => arg 4; arg 1; whnf
            refine pt_eff (by rfl) (fun K hK => ?_)
            go_wp2_with fail
            refine (key_any _ rA rl rc RA.out SA.out.1 SA.out.2).mono ?_
            rintro e w1 ⟨rfl, hb1⟩
            refine hK _ _ hb1 ?_
            clear hK K
            conv => arg 4; whnf
            conv => arg 4; arg 1; whnf
            refine pt_eff (by rfl) (fun K hK => ?_)
            go_wp2_with fail
            refine (key_any _ tA tl tc (RB.out.below hb1) SB.out.1 SB.out.2).mono ?_
            rintro e w2 ⟨rfl, hb2⟩
            refine hK _ _ hb2 ?_
            clear hK K
            have hdd := (Below.refl wr.heap.size wr).drew.trans (hb1.trans (hb2.mono hb1.size))
            have hbb := hb.trans (hdd.mono hsz)
            have hsb := hbb.size
            have hT2 : TwoRows w2 W.heap.size _ _ (keptTo (rowKeys rs) (rowKeys ts) ms j) := ⟨own_below hT.out.1 hdd, own_below hT.out.2.1 hdd, hT.out.2.2⟩
            clear hdd hb1 hb2 hb hcm
            conv => arg 4; whnf
            conv => arg 4; arg 1; whnf
            refine pt_free (by rfl) (fun K hK => ?_)
            go_big_quiet_op
            first | (refine hK _ ?_; clear hK K) | (refine ⟨_, fun _ _ => rfl, hK _ ?_⟩; clear hK K)
            conv => arg 4; whnf
            conv => arg 4; arg 1; whnf
            refine pt_free (by rfl) (fun K hK => ?_)
            go_big_quiet_op
            first | (refine hK _ ?_; clear hK K) | (refine ⟨_, fun _ _ => rfl, hK _ ?_⟩; clear hK K)
            refine pt_nil ?_
            obtain ⟨hRx, hRy, hap⟩ := hT2
            clear hsz hT
            go_wp2_with (first | (at_builtin; refine wpList_app1 eInt rfl rfl hRx rfl rfl (by first | rfl | simp) rfl (by omega) (by first | omega | (simp; omega)) ?_; intro v1 w3 hown1 hg1 hk1; have hy1 := own_other hRy hap hg1; have hs1 := hg1.size) | (at_builtin; refine wpList_app1 eInt rfl rfl hy1 rfl rfl (by first | rfl | simp) rfl (by omega) (by first | omega | (simp; omega)) ?_; intro v2 w4 hown2 hg2 hk2))
            go_roundw
            case rel =>
              have hb1 := below_grown hbb hRx hg1 (Nat.le_refl _) hsb
              have hb2 := below_grown hb1 hy1 hg2 (Nat.le_refl _) hb1.size
              have hap1 := apart_grown hRy hap hk1 (Nat.le_succ _)
              have hx2 := own_other hown1 hap1.symm hg2
              have hap2 := (apart_grown hown1 hap1.symm hk2 (Nat.le_succ _)).symm
              exact ⟨j + 1, by omega, by go_num, by rw [hyes.out]; exact ⟨by simpa using hx2, by simpa using hown2, hap2⟩, hb2⟩
            case measure => first | (simp [intOf]; done) | (simp [intOf]; omega)
          · have hkk := str_eq_false hk
            have hno : Hid (keptTo (rowKeys rs) (rowKeys ts) ms (j + 1) = keptTo (rowKeys rs) (rowKeys ts) ms j) := keptTo_no (by rw [hal, decide_eq_false hk]; simp)
            clear hal htz hk
            go_wp2
            refine wp_region_tree [] (.free 0 (.free 1 (.free 2 (.free 3 (.free 4 (.free 5 (.free 6 (.free 7 (.free 8 (.free 9 (.free 10 (.free 11 (.free 12 (.free 13 (.free 14 (.free 15 (.free 16 (.free 17 (.free 18 (.free 19 (.free 20 (.free 21 (.free 23 (.free 24 (.free 25 (.free 26 (.free 27 (.eff 22 (.eff 28 (.free 29 (.free 30 (.nil)))))))))))))))))))))))))))))))) (by kernel_rfl) (by kernel_rfl) (fun _ _ d _ _ h => by cases d <;> exact h) ?_
            conv => arg 4; whnf
            conv => arg 4; arg 1; whnf
            refine pt_free (by rfl) (fun K hK => ?_)
            go_big_quiet_op
            first | (refine hK _ ?_; clear hK K) | (refine ⟨_, fun _ _ => rfl, hK _ ?_⟩; clear hK K)
            conv => arg 4; whnf
            conv => arg 4; arg 1; whnf
            refine pt_free (by rfl) (fun K hK => ?_)
            go_big_quiet_op
            first | (refine hK _ ?_; clear hK K) | (refine ⟨_, fun _ _ => rfl, hK _ ?_⟩; clear hK K)
            conv => arg 4; whnf
            conv => arg 4; arg 1; whnf
            refine pt_free (by rfl) (fun K hK => ?_)
            go_big_quiet_op
            first | (refine hK _ ?_; clear hK K) | (refine ⟨_, fun _ _ => rfl, hK _ ?_⟩; clear hK K)
            conv => arg 4; whnf
            conv => arg 4; arg 1; whnf
            refine pt_free (by rfl) (fun K hK => ?_)
            go_big_quiet_op
            first | (refine hK _ ?_; clear hK K) | (refine ⟨_, fun _ _ => rfl, hK _ ?_⟩; clear hK K)
            conv => arg 4; whnf
            conv => arg 4; arg 1; whnf
            refine pt_free (by rfl) (fun K hK => ?_)
            go_big_quiet_op
            first | (refine hK _ ?_; clear hK K) | (refine ⟨_, fun _ _ => rfl, hK _ ?_⟩; clear hK K)
            conv => arg 4; whnf
            conv => arg 4; arg 1; whnf
            refine pt_load (fun W h => load_rows _ _ W h) (p := ⟨w.heap.size + 1, 2, none⟩) b2 l1 (by rfl) rfl rfl ?_
            simp only [Act.put, List.setIfInBounds_toArray, List.set_cons_zero, List.set_cons_succ]
            conv => arg 4; whnf
            conv => arg 4; arg 1; whnf
            refine pt_free (by rfl) (fun K hK => ?_)
            go_big_quiet_op
            first | (refine hK _ ?_; clear hK K) | (refine ⟨_, fun _ _ => rfl, hK _ ?_⟩; clear hK K)
            conv => arg 4; whnf
            conv => arg 4; arg 1; whnf
            refine pt_free (by rfl) (fun K hK => ?_)
            go_big_quiet_op
            first | (refine hK _ ?_; clear hK K) | (refine ⟨_, fun _ _ => rfl, hK _ ?_⟩; clear hK K)
            conv => arg 4; whnf
            conv => arg 4; arg 1; whnf
            refine pt_free (by rfl) (fun K hK => ?_)
            go_big_quiet_op
            first | (refine hK _ ?_; clear hK K) | (refine ⟨_, fun _ _ => rfl, hK _ ?_⟩; clear hK K)
            conv => arg 4; whnf
            conv => arg 4; arg 1; whnf
            refine pt_free (by rfl) (fun K hK => ?_)
            go_big_quiet_op
            first | (refine hK _ ?_; clear hK K) | (refine ⟨_, fun _ _ => rfl, hK _ ?_⟩; clear hK K)
            conv => arg 4; whnf
            conv => arg 4; arg 1; whnf
            refine pt_free (by rfl) (fun K hK => ?_)
            go_big_quiet_op
            first | (refine hK _ ?_; clear hK K) | (refine ⟨_, fun _ _ => rfl, hK _ ?_⟩; clear hK K)
            conv => arg 4; whnf
            conv => arg 4; arg 1; whnf
            refine pt_free (by rfl) (fun K hK => ?_)
            go_big_quiet_op
            first | (refine hK _ ?_; clear hK K) | (refine ⟨_, fun _ _ => rfl, hK _ ?_⟩; clear hK K)
            conv => arg 4; whnf
            conv => arg 4; arg 1; whnf
            refine pt_load (fun W h => load_rows _ _ W h) (p := ⟨w.heap.size, 2, none⟩) a2 l0 (by rfl) rfl rfl ?_
            simp only [Act.put, List.setIfInBounds_toArray, List.set_cons_zero, List.set_cons_succ]
            conv => arg 4; whnf
            conv => arg 4; arg 1; whnf
            refine pt_free (by rfl) (fun K hK => ?_)
            go_big_quiet_op
            first | (refine hK _ ?_; clear hK K) | (refine ⟨_, fun _ _ => rfl, hK _ ?_⟩; clear hK K)
            conv => arg 4; whnf
            conv => arg 4; arg 1; whnf
            refine pt_free (by rfl) (fun K hK => ?_)
            go_big_quiet_op
            first | (refine hK _ ?_; clear hK K) | (refine ⟨_, fun _ _ => rfl, hK _ ?_⟩; clear hK K)
            conv => arg 4; whnf
            conv => arg 4; arg 1; whnf
            refine pt_free (by rfl) (fun K hK => ?_)
            go_big_quiet_op
            first | (refine hK _ ?_; clear hK K) | (refine ⟨_, fun _ _ => rfl, hK _ ?_⟩; clear hK K)
            conv => arg 4; whnf
            conv => arg 4; arg 1; whnf
            refine pt_free (by rfl) (fun K hK => ?_)
            go_big_quiet_op
            first | (refine hK _ ?_; clear hK K) | (refine ⟨_, fun _ _ => rfl, hK _ ?_⟩; clear hK K)
            conv => arg 4; whnf
            conv => arg 4; arg 1; whnf
            refine pt_free (by rfl) (fun K hK => ?_)
            go_big_quiet_op
            first | (refine hK _ ?_; clear hK K) | (refine ⟨_, fun _ _ => rfl, hK _ ?_⟩; clear hK K)
            conv => arg 4; whnf
            conv => arg 4; arg 1; whnf
            refine pt_load (fun W h => load_rows _ _ W h) (p := ⟨w.heap.size, 2, none⟩) a2 l0 (by rfl) rfl rfl ?_
            simp only [Act.put, List.setIfInBounds_toArray, List.set_cons_zero, List.set_cons_succ]
            conv => arg 4; whnf
            conv => arg 4; arg 1; whnf
            refine pt_free (by rfl) (fun K hK => ?_)
            go_big_quiet_op
            first | (refine hK _ ?_; clear hK K) | (refine ⟨_, fun _ _ => rfl, hK _ ?_⟩; clear hK K)
            conv => arg 4; whnf
            conv => arg 4; arg 1; whnf
            refine pt_free (by rfl) (fun K hK => ?_)
            go_big_quiet_op
            first | (refine hK _ ?_; clear hK K) | (refine ⟨_, fun _ _ => rfl, hK _ ?_⟩; clear hK K)
            conv => arg 4; whnf
            conv => arg 4; arg 1; whnf
            refine pt_load (fun W h => load_strs _ _ W h) (p := ada.add j) hca' la (by rfl) rfl rfl ?_
            simp only [Act.put, List.setIfInBounds_toArray, List.set_cons_zero, List.set_cons_succ]
            conv => arg 4; whnf
            conv => arg 4; arg 1; whnf
            refine pt_free (by rfl) (fun K hK => ?_)
            go_big_quiet_op
            first | (refine hK _ ?_; clear hK K) | (refine ⟨_, fun _ _ => rfl, hK _ ?_⟩; clear hK K)
            conv => arg 4; whnf
            conv => arg 4; arg 1; whnf
            refine pt_load (fun W h => load_rows _ _ W h) (p := ⟨w.heap.size + 1, 2, none⟩) b2 l1 (by rfl) rfl rfl ?_
            simp only [Act.put, List.setIfInBounds_toArray, List.set_cons_zero, List.set_cons_succ]
            conv => arg 4; whnf
            conv => arg 4; arg 1; whnf
            refine pt_free (by rfl) (fun K hK => ?_)
            go_big_quiet_op
            first | (refine hK _ ?_; clear hK K) | (refine ⟨_, fun _ _ => rfl, hK _ ?_⟩; clear hK K)
            conv => arg 4; whnf
            conv => arg 4; arg 1; whnf
            refine pt_free (by rfl) (fun K hK => ?_)
            go_big_quiet_op
            first | (refine hK _ ?_; clear hK K) | (refine ⟨_, fun _ _ => rfl, hK _ ?_⟩; clear hK K)
            conv => arg 4; whnf
            conv => arg 4; arg 1; whnf
            refine pt_load (fun W h => load_strs _ _ W h) (p := adb.add tk) hcb' lb (by rfl) rfl rfl ?_
            simp only [Act.put, List.setIfInBounds_toArray, List.set_cons_zero, List.set_cons_succ]
            conv => arg 4; whnf
            conv => arg 4; arg 1; whnf
            refine pt_eff (by rfl) (fun K hK => ?_)
            go_wp2_with fail
            refine (key_any _ rA rl rc RA.out SA.out.1 SA.out.2).mono ?_
            rintro e w1 ⟨rfl, hb1⟩
            refine hK _ _ hb1 ?_
            clear hK K
            conv => arg 4; whnf
            conv => arg 4; arg 1; whnf
            refine pt_eff (by rfl) (fun K hK => ?_)
            go_wp2_with fail
            refine (key_any _ tA tl tc (RB.out.below hb1) SB.out.1 SB.out.2).mono ?_
            rintro e w2 ⟨rfl, hb2⟩
            refine hK _ _ hb2 ?_
            clear hK K
            have hdd := (Below.refl wr.heap.size wr).drew.trans (hb1.trans (hb2.mono hb1.size))
            have hbb := hb.trans (hdd.mono hsz)
            have hsb := hbb.size
            have hT2 : TwoRows w2 W.heap.size _ _ (keptTo (rowKeys rs) (rowKeys ts) ms j) := ⟨own_below hT.out.1 hdd, own_below hT.out.2.1 hdd, hT.out.2.2⟩
            clear hdd hb1 hb2 hb hcm
            conv => arg 4; whnf
            conv => arg 4; arg 1; whnf
            refine pt_free (by rfl) (fun K hK => ?_)
            go_big_quiet_op
            first | (refine hK _ ?_; clear hK K) | (refine ⟨_, fun _ _ => rfl, hK _ ?_⟩; clear hK K)
            conv => arg 4; whnf
            conv => arg 4; arg 1; whnf
            refine pt_free (by rfl) (fun K hK => ?_)
            go_big_quiet_op
            first | (refine hK _ ?_; clear hK K) | (refine ⟨_, fun _ _ => rfl, hK _ ?_⟩; clear hK K)
            refine pt_nil ?_
            go_wp2
            go_roundw
            case rel => exact ⟨j + 1, by omega, by go_num, by rw [hno.out]; exact hT2, hbb⟩
            case measure => first | (simp [intOf]; done) | (simp [intOf]; omega)
        · have hno : Hid (keptTo (rowKeys rs) (rowKeys ts) ms (j + 1) = keptTo (rowKeys rs) (rowKeys ts) ms j) := keptTo_no (by rw [alikeB_far HV.out (by rw [rowKeys_len]; exact h1)]; simp)
          clear C1
          go_wp2
          have hd : decide (t < (ts.length : Int)) = false := decide_eq_false (by omega)
          refine wp_region_tree [] (.free 0 (.free 1 (.free 2 (.free 3 (.free 4 (.free 5 (.free 6 (.free 7 (.free 8 (.free 9 (.free 10 (.free 11 (.free 12 (.free 13 (.free 14 (.free 15 (.free 16 (.free 17 (.free 18 (.free 19 (.free 20 (.free 21 (.free 23 (.free 24 (.free 25 (.free 26 (.free 27 (.eff 22 (.eff 28 (.free 29 (.free 30 (.nil)))))))))))))))))))))))))))))))) (by kernel_rfl) (by kernel_rfl) (fun _ _ d _ _ h => by cases d <;> exact h) ?_
          conv => arg 4; whnf
          conv => arg 4; arg 1; whnf
          refine pt_free (by rfl) (fun K hK => ?_)
          go_big_quiet_op
          first | (refine hK _ ?_; clear hK K) | (refine ⟨_, fun _ _ => rfl, hK _ ?_⟩; clear hK K)
          conv => arg 4; whnf
          conv => arg 4; arg 1; whnf
          refine pt_free (by rfl) (fun K hK => ?_)
          go_big_quiet_op
          first | (refine hK _ ?_; clear hK K) | (refine ⟨_, fun _ _ => rfl, hK _ ?_⟩; clear hK K)
          conv => arg 4; whnf
          conv => arg 4; arg 1; whnf
          refine pt_free (by rfl) (fun K hK => ?_)
          go_big_quiet_op
          first | (refine hK _ ?_; clear hK K) | (refine ⟨_, fun _ _ => rfl, hK _ ?_⟩; clear hK K)
          conv => arg 4; whnf
          conv => arg 4; arg 1; whnf
          refine pt_free (by rfl) (fun K hK => ?_)
          go_big_quiet_op
          first | (refine hK _ ?_; clear hK K) | (refine ⟨_, fun _ _ => rfl, hK _ ?_⟩; clear hK K)
          conv => arg 4; whnf
          conv => arg 4; arg 1; whnf
          refine pt_free (by rfl) (fun K hK => ?_)
          go_big_quiet_op
          first | (refine hK _ ?_; clear hK K) | (refine ⟨_, fun _ _ => rfl, hK _ ?_⟩; clear hK K)
          conv => arg 4; whnf
          conv => arg 4; arg 1; whnf
          refine pt_load (fun W h => load_rows _ _ W h) (p := ⟨w.heap.size + 1, 2, none⟩) b2 l1 (by rfl) rfl rfl ?_
          simp only [Act.put, List.setIfInBounds_toArray, List.set_cons_zero, List.set_cons_succ]
          conv => arg 4; whnf
          conv => arg 4; arg 1; whnf
          refine pt_free (by rfl) (fun K hK => ?_)
          go_big_quiet_op
          first | (refine hK _ ?_; clear hK K) | (refine ⟨_, fun _ _ => rfl, hK _ ?_⟩; clear hK K)
          conv => arg 4; whnf
          conv => arg 4; arg 1; whnf
          refine pt_free (by rfl) (fun K hK => ?_)
          go_big_quiet_op
          first | (refine hK _ ?_; clear hK K) | (refine ⟨_, fun _ _ => rfl, hK _ ?_⟩; clear hK K)
          conv => arg 4; whnf
          conv => arg 4; arg 1; whnf
          refine pt_free (by rfl) (fun K hK => ?_)
          go_big_quiet_op
          first | (refine hK _ ?_; clear hK K) | (refine ⟨_, fun _ _ => rfl, hK _ ?_⟩; clear hK K)
          conv => arg 4; whnf
          conv => arg 4; arg 1; whnf
          refine pt_free (by rfl) (fun K hK => ?_)
          go_big_quiet_op
          first | (refine hK _ ?_; clear hK K) | (refine ⟨_, fun _ _ => rfl, hK _ ?_⟩; clear hK K)
          conv => arg 4; whnf
          conv => arg 4; arg 1; whnf
          refine pt_free_skip (by rfl) ?_
          simp only [Act.put, List.setIfInBounds_toArray, List.set_cons_zero, List.set_cons_succ]
          conv => arg 4; whnf
          conv => arg 4; arg 1; whnf
          refine pt_free_skip (by rfl) ?_
          simp only [Act.put, List.setIfInBounds_toArray, List.set_cons_zero, List.set_cons_succ]
          conv => arg 4; whnf
          conv => arg 4; arg 1; whnf
          refine pt_free_skip (by rfl) ?_
          simp only [Act.put, List.setIfInBounds_toArray, List.set_cons_zero, List.set_cons_succ]
          conv => arg 4; whnf
          conv => arg 4; arg 1; whnf
          refine pt_free_skip (by rfl) ?_
          simp only [Act.put, List.setIfInBounds_toArray, List.set_cons_zero, List.set_cons_succ]
          conv => arg 4; whnf
          conv => arg 4; arg 1; whnf
          refine pt_free_skip (by rfl) ?_
          simp only [Act.put, List.setIfInBounds_toArray, List.set_cons_zero, List.set_cons_succ]
          conv => arg 4; whnf
          conv => arg 4; arg 1; whnf
          refine pt_free (by rfl) (fun K hK => ?_)
          go_big_quiet_op
          first | (refine hK _ ?_; clear hK K) | (refine ⟨_, fun _ _ => rfl, hK _ ?_⟩; clear hK K)
          conv => arg 4; whnf
          conv => arg 4; arg 1; whnf
          refine pt_free (by rfl) (fun K hK => ?_)
          go_big_quiet_op
          first | (refine hK _ ?_; clear hK K) | (refine ⟨_, fun _ _ => rfl, hK _ ?_⟩; clear hK K)
          conv => arg 4; whnf
          conv => arg 4; arg 1; whnf
          refine pt_free_skip (by rfl) ?_
          simp only [Act.put, List.setIfInBounds_toArray, List.set_cons_zero, List.set_cons_succ]
          conv => arg 4; whnf
          conv => arg 4; arg 1; whnf
          refine pt_free_skip (by rfl) ?_
          simp only [Act.put, List.setIfInBounds_toArray, List.set_cons_zero, List.set_cons_succ]
          conv => arg 4; whnf
          conv => arg 4; arg 1; whnf
          refine pt_free_skip (by rfl) ?_
          simp only [Act.put, List.setIfInBounds_toArray, List.set_cons_zero, List.set_cons_succ]
          conv => arg 4; whnf
          conv => arg 4; arg 1; whnf
          refine pt_free_skip (by rfl) ?_
          simp only [Act.put, List.setIfInBounds_toArray, List.set_cons_zero, List.set_cons_succ]
          conv => arg 4; whnf
          conv => arg 4; arg 1; whnf
          refine pt_free_skip (by rfl) ?_
          simp only [Act.put, List.setIfInBounds_toArray, List.set_cons_zero, List.set_cons_succ]
          conv => arg 4; whnf
          conv => arg 4; arg 1; whnf
          refine pt_free_skip (by rfl) ?_
          simp only [Act.put, List.setIfInBounds_toArray, List.set_cons_zero, List.set_cons_succ]
          conv => arg 4; whnf
          conv => arg 4; arg 1; whnf
          refine pt_free_skip (by rfl) ?_
          simp only [Act.put, List.setIfInBounds_toArray, List.set_cons_zero, List.set_cons_succ]
          conv => arg 4; whnf
          conv => arg 4; arg 1; whnf
          refine pt_free_skip (by rfl) ?_
          simp only [Act.put, List.setIfInBounds_toArray, List.set_cons_zero, List.set_cons_succ]
          conv => arg 4; whnf
          conv => arg 4; arg 1; whnf
          refine pt_free_skip (by rfl) ?_
          simp only [Act.put, List.setIfInBounds_toArray, List.set_cons_zero, List.set_cons_succ]
          conv => arg 4; whnf
          conv => arg 4; arg 1; whnf
          refine pt_free_skip (by rfl) ?_
          simp only [Act.put, List.setIfInBounds_toArray, List.set_cons_zero, List.set_cons_succ]
          conv => arg 4; whnf
          conv => arg 4; arg 1; whnf
          refine pt_eff_skip (by rfl) ?_
          simp only [Act.put, List.setIfInBounds_toArray, List.set_cons_zero, List.set_cons_succ]
          conv => arg 4; whnf
          conv => arg 4; arg 1; whnf
          refine pt_eff_skip (by rfl) ?_
          simp only [Act.put, List.setIfInBounds_toArray, List.set_cons_zero, List.set_cons_succ]
          conv => arg 4; whnf
          conv => arg 4; arg 1; whnf
          refine pt_free_skip (by rfl) ?_
          simp only [Act.put, List.setIfInBounds_toArray, List.set_cons_zero, List.set_cons_succ]
          conv => arg 4; whnf
          conv => arg 4; arg 1; whnf
          refine pt_free (by rfl) (fun K hK => ?_)
          go_big_quiet_op
          first | (refine hK _ ?_; clear hK K) | (refine ⟨_, fun _ _ => rfl, hK _ ?_⟩; clear hK K)
          refine pt_nil ?_
          go_wp2
          go_roundw
          case rel => exact ⟨j + 1, by omega, by go_num, by rw [hno.out]; exact ⟨own_below hT.out.1 (Below.refl _ _).drew, own_below hT.out.2.1 (Below.refl _ _).drew, hT.out.2.2⟩, hb.drew⟩
          case measure => first | (simp [intOf]; done) | (simp [intOf]; omega)
      · have hno : Hid (keptTo (rowKeys rs) (rowKeys ts) ms (j + 1) = keptTo (rowKeys rs) (rowKeys ts) ms j) := keptTo_no (by rw [alikeB_neg HV.out h0]; simp)
        clear C1
        go_wp2
        have hd : decide (0 ≤ t) = false := decide_eq_false (by omega)
        refine wp_region_tree [] (.free 0 (.free 1 (.free 2 (.free 3 (.free 4 (.free 5 (.free 6 (.free 7 (.free 8 (.free 9 (.free 10 (.free 11 (.free 12 (.free 13 (.free 14 (.free 15 (.free 16 (.free 17 (.free 18 (.free 19 (.free 20 (.free 21 (.free 23 (.free 24 (.free 25 (.free 26 (.free 27 (.eff 22 (.eff 28 (.free 29 (.free 30 (.nil)))))))))))))))))))))))))))))))) (by kernel_rfl) (by kernel_rfl) (fun _ _ d _ _ h => by cases d <;> exact h) ?_
        conv => arg 4; whnf
        conv => arg 4; arg 1; whnf
        refine pt_free (by rfl) (fun K hK => ?_)
        go_big_quiet_op
        first | (refine hK _ ?_; clear hK K) | (refine ⟨_, fun _ _ => rfl, hK _ ?_⟩; clear hK K)
        conv => arg 4; whnf
        conv => arg 4; arg 1; whnf
        refine pt_free (by rfl) (fun K hK => ?_)
        go_big_quiet_op
        first | (refine hK _ ?_; clear hK K) | (refine ⟨_, fun _ _ => rfl, hK _ ?_⟩; clear hK K)
        conv => arg 4; whnf
        conv => arg 4; arg 1; whnf
        refine pt_free (by rfl) (fun K hK => ?_)
        go_big_quiet_op
        first | (refine hK _ ?_; clear hK K) | (refine ⟨_, fun _ _ => rfl, hK _ ?_⟩; clear hK K)
        conv => arg 4; whnf
        conv => arg 4; arg 1; whnf
        refine pt_free_skip (by rfl) ?_
        simp only [Act.put, List.setIfInBounds_toArray, List.set_cons_zero, List.set_cons_succ]
        conv => arg 4; whnf
        conv => arg 4; arg 1; whnf
        refine pt_free_skip (by rfl) ?_
        simp only [Act.put, List.setIfInBounds_toArray, List.set_cons_zero, List.set_cons_succ]
        conv => arg 4; whnf
        conv => arg 4; arg 1; whnf
        refine pt_free_skip (by rfl) ?_
        simp only [Act.put, List.setIfInBounds_toArray, List.set_cons_zero, List.set_cons_succ]
        conv => arg 4; whnf
        conv => arg 4; arg 1; whnf
        refine pt_free_skip (by rfl) ?_
        simp only [Act.put, List.setIfInBounds_toArray, List.set_cons_zero, List.set_cons_succ]
        conv => arg 4; whnf
        conv => arg 4; arg 1; whnf
        refine pt_free_skip (by rfl) ?_
        simp only [Act.put, List.setIfInBounds_toArray, List.set_cons_zero, List.set_cons_succ]
        conv => arg 4; whnf
        conv => arg 4; arg 1; whnf
        refine pt_free (by rfl) (fun K hK => ?_)
        go_big_quiet_op
        first | (refine hK _ ?_; clear hK K) | (refine ⟨_, fun _ _ => rfl, hK _ ?_⟩; clear hK K)
        conv => arg 4; whnf
        conv => arg 4; arg 1; whnf
        refine pt_free (by rfl) (fun K hK => ?_)
        go_big_quiet_op
        first | (refine hK _ ?_; clear hK K) | (refine ⟨_, fun _ _ => rfl, hK _ ?_⟩; clear hK K)
        conv => arg 4; whnf
        conv => arg 4; arg 1; whnf
        refine pt_free_skip (by rfl) ?_
        simp only [Act.put, List.setIfInBounds_toArray, List.set_cons_zero, List.set_cons_succ]
        conv => arg 4; whnf
        conv => arg 4; arg 1; whnf
        refine pt_free_skip (by rfl) ?_
        simp only [Act.put, List.setIfInBounds_toArray, List.set_cons_zero, List.set_cons_succ]
        conv => arg 4; whnf
        conv => arg 4; arg 1; whnf
        refine pt_free_skip (by rfl) ?_
        simp only [Act.put, List.setIfInBounds_toArray, List.set_cons_zero, List.set_cons_succ]
        conv => arg 4; whnf
        conv => arg 4; arg 1; whnf
        refine pt_free_skip (by rfl) ?_
        simp only [Act.put, List.setIfInBounds_toArray, List.set_cons_zero, List.set_cons_succ]
        conv => arg 4; whnf
        conv => arg 4; arg 1; whnf
        refine pt_free_skip (by rfl) ?_
        simp only [Act.put, List.setIfInBounds_toArray, List.set_cons_zero, List.set_cons_succ]
        conv => arg 4; whnf
        conv => arg 4; arg 1; whnf
        refine pt_free (by rfl) (fun K hK => ?_)
        go_big_quiet_op
        first | (refine hK _ ?_; clear hK K) | (refine ⟨_, fun _ _ => rfl, hK _ ?_⟩; clear hK K)
        conv => arg 4; whnf
        conv => arg 4; arg 1; whnf
        refine pt_free (by rfl) (fun K hK => ?_)
        go_big_quiet_op
        first | (refine hK _ ?_; clear hK K) | (refine ⟨_, fun _ _ => rfl, hK _ ?_⟩; clear hK K)
        conv => arg 4; whnf
        conv => arg 4; arg 1; whnf
        refine pt_free_skip (by rfl) ?_
        simp only [Act.put, List.setIfInBounds_toArray, List.set_cons_zero, List.set_cons_succ]
        conv => arg 4; whnf
        conv => arg 4; arg 1; whnf
        refine pt_free_skip (by rfl) ?_
        simp only [Act.put, List.setIfInBounds_toArray, List.set_cons_zero, List.set_cons_succ]
        conv => arg 4; whnf
        conv => arg 4; arg 1; whnf
        refine pt_free_skip (by rfl) ?_
        simp only [Act.put, List.setIfInBounds_toArray, List.set_cons_zero, List.set_cons_succ]
        conv => arg 4; whnf
        conv => arg 4; arg 1; whnf
        refine pt_free_skip (by rfl) ?_
        simp only [Act.put, List.setIfInBounds_toArray, List.set_cons_zero, List.set_cons_succ]
        conv => arg 4; whnf
        conv => arg 4; arg 1; whnf
        refine pt_free_skip (by rfl) ?_
        simp only [Act.put, List.setIfInBounds_toArray, List.set_cons_zero, List.set_cons_succ]
        conv => arg 4; whnf
        conv => arg 4; arg 1; whnf
        refine pt_free_skip (by rfl) ?_
        simp only [Act.put, List.setIfInBounds_toArray, List.set_cons_zero, List.set_cons_succ]
        conv => arg 4; whnf
        conv => arg 4; arg 1; whnf
        refine pt_free_skip (by rfl) ?_
        simp only [Act.put, List.setIfInBounds_toArray, List.set_cons_zero, List.set_cons_succ]
        conv => arg 4; whnf
        conv => arg 4; arg 1; whnf
        refine pt_free_skip (by rfl) ?_
        simp only [Act.put, List.setIfInBounds_toArray, List.set_cons_zero, List.set_cons_succ]
        conv => arg 4; whnf
        conv => arg 4; arg 1; whnf
        refine pt_free_skip (by rfl) ?_
        simp only [Act.put, List.setIfInBounds_toArray, List.set_cons_zero, List.set_cons_succ]
        conv => arg 4; whnf
        conv => arg 4; arg 1; whnf
        refine pt_free_skip (by rfl) ?_
        simp only [Act.put, List.setIfInBounds_toArray, List.set_cons_zero, List.set_cons_succ]
        conv => arg 4; whnf
        conv => arg 4; arg 1; whnf
        refine pt_eff_skip (by rfl) ?_
        simp only [Act.put, List.setIfInBounds_toArray, List.set_cons_zero, List.set_cons_succ]
        conv => arg 4; whnf
        conv => arg 4; arg 1; whnf
        refine pt_eff_skip (by rfl) ?_
        simp only [Act.put, List.setIfInBounds_toArray, List.set_cons_zero, List.set_cons_succ]
        conv => arg 4; whnf
        conv => arg 4; arg 1; whnf
        refine pt_free_skip (by rfl) ?_
        simp only [Act.put, List.setIfInBounds_toArray, List.set_cons_zero, List.set_cons_succ]
        conv => arg 4; whnf
        conv => arg 4; arg 1; whnf
        refine pt_free (by rfl) (fun K hK => ?_)
        go_big_quiet_op
        first | (refine hK _ ?_; clear hK K) | (refine ⟨_, fun _ _ => rfl, hK _ ?_⟩; clear hK K)
        refine pt_nil ?_
        go_wp2
        go_roundw
        case rel => exact ⟨j + 1, by omega, by go_num, by rw [hno.out]; exact ⟨own_below hT.out.1 (Below.refl _ _).drew, own_below hT.out.2.1 (Below.refl _ _).drew, hT.out.2.2⟩, hb.drew⟩
        case measure => first | (simp [intOf]; done) | (simp [intOf]; omega)
    · obtain rfl : j = rs.length := by omega
      obtain ⟨X, c1, Y, d1, rfl, rfl, hX, hY⟩ := from_reads hT.out hma1
      have HX := Lib.hid (At1.drew hX)
      have HY := Lib.hid (At1.drew hY)
      have hfl := fromOf_len rs ts ms rs.length
      have htl := toOf_len rs ts ms rs.length
      have HPQ : Hid (colsOf rs ts ms ca cb = rowsOf (colKeys rs (fromOf rs ts ms rs.length) ca) (colKeys ts (toOf rs ts ms rs.length) cb)) := rfl
      have HF := Lib.hid (fromOf_lt (rs := rs) (ts := ts) (ms := ms) (j := rs.length))
      have HT := Lib.hid (toOf_lt (rs := rs) (ts := ts) (ms := ms) (j := rs.length))
      have GA := Lib.hid (C1.ga.below (w' := wr.drew) (Below.refl _ _).drew)
      have GB := Lib.hid (C1.gb.below (w' := wr.drew) (Below.refl _ _).drew)
      have hl0 : w.heap.size < wr.drew.heap.size := C1.lt.1
      have hl1 : w.heap.size + 1 < wr.drew.heap.size := C1.lt.2.1
      have hsa := C1.sa
      have hsb := C1.sb
      have hRR := (hb.block (w.heap.size + 1 + 1 + 1) (by omega)).trans hR
      have hlR : w.heap.size + 1 + 1 + 1 < wr.heap.size := by omega
      have hbw := hbW.trans (hb.mono hbW.size)
      clear hX hY C1
      have hjn : decide (rs.length < ms.length) = false := decide_eq_false (by rw [HML.out]; omega)
      generalize fromOf rs ts ms rs.length = fs at *
      generalize toOf rs ts ms rs.length = tos at *
      go_wp2
      refine wp_region_tree [7] (.free 0 (.free 1 (.free 3 (.free 4 (.eff 2 (.eff 5 (.eff 6 (.last 7 (.nil))))))))) (by kernel_rfl) (by kernel_rfl) (fun _ _ d _ _ h => by cases d <;> exact h) ?_
      clear a0 a1 a2 b0 b1 b2 m0 m1
      conv => arg 4; whnf
      conv => arg 4; arg 1; whnf
      refine pt_loadB (k := w.heap.size) (fun W h => load_sheet _ W _ _ _ _ _ (h.trans hsa)) hl0 (by rfl) rfl rfl ?_
      simp only [Act.put, List.setIfInBounds_toArray, List.set_cons_zero, List.set_cons_succ]
      conv => arg 4; whnf
      conv => arg 4; arg 1; whnf
      refine pt_free (by rfl) (fun K hK => ?_)
      go_big_quiet_op
      first | (refine hK _ ?_; clear hK K) | (refine ⟨_, fun _ _ => rfl, hK _ ?_⟩; clear hK K)
      conv => arg 4; whnf
      conv => arg 4; arg 1; whnf
      refine pt_loadB (k := w.heap.size + 1) (fun W h => load_sheet _ W _ _ _ _ _ (h.trans hsb)) hl1 (by rfl) rfl rfl ?_
      simp only [Act.put, List.setIfInBounds_toArray, List.set_cons_zero, List.set_cons_succ]
      conv => arg 4; whnf
      conv => arg 4; arg 1; whnf
      refine pt_free (by rfl) (fun K hK => ?_)
      go_big_quiet_op
      first | (refine hK _ ?_; clear hK K) | (refine ⟨_, fun _ _ => rfl, hK _ ?_⟩; clear hK K)
      conv => arg 4; whnf
      conv => arg 4; arg 1; whnf
      refine pt_eff (by rfl) (fun K hK => ?_)
      go_wp2_with fail
      refine (columns_any _ A rs rs.length c name ca X fs fs.length c1 rfl rfl GA.out HMA.out HWA.out HX.out HF.out (by omega) (by omega)).mono ?_
      rintro e w1 ⟨Z1, e1, rfl, hZ1, hb1⟩
      refine hK _ _ hb1 ?_
      clear hK K
      conv => arg 4; whnf
      conv => arg 4; arg 1; whnf
      refine pt_eff (by rfl) (fun K hK => ?_)
      go_wp2_with fail
      refine (columns_any _ B ts ts.length d name2 cb Y tos tos.length d1 rfl rfl (GB.out.below hb1) HMB.out HWB.out (HY.out.below hb1) HT.out (by omega) (by omega)).mono ?_
      rintro e w2 ⟨Z2, e2, rfl, hZ2, hb2⟩
      refine hK _ _ hb2 ?_
      clear hK K
      conv => arg 4; whnf
      conv => arg 4; arg 1; whnf
      refine pt_eff (by rfl) (fun K hK => ?_)
      go_wp2_with fail
      refine (paired_rd _ Z1 Z2 (colKeys rs fs ca) (colKeys ts tos cb) ca cb e1 e2 (colKeys_len _ _ _) (colKeys_len _ _ _) (hZ1.below hb2) hZ2 (by rw [colKeys_len]; omega) (by rw [colKeys_len]; omega)).mono ?_
      rintro e w3 ⟨Z, cz, rfl, hown, hb3⟩
      refine hK _ _ hb3 ?_
      clear hK K
      have hs2 : wr.heap.size ≤ w2.heap.size := Nat.le_trans (show wr.heap.size ≤ w1.heap.size from hb1.size) hb2.size
      have hbb : Below wr.heap.size wr w3 := (Below.refl wr.heap.size wr).drew.trans (hb1.trans ((hb2.mono hb1.size).trans (hb3.mono hs2)))
      have hrz := (hbb.block _ hlR).trans hRR
      obtain ⟨h0, h1, h2, h3⟩ := zfacts hrz
      conv => arg 4; whnf
      conv => arg 4; arg 1; whnf
      refine pt_last (by rfl) (fun K hK => ?_)
      go_wp2
      refine pt_nil ?_
      go_wp2
      obtain ⟨q0, q1, q2, q3⟩ := RSt.result (M := cb) hrz hown (hbw.trans (hbb.mono hbw.size)) (by omega)
      refine bodyPost_ret (v := .agg #[.slice Z ca cz, .int .i64 cb]) ?_ rfl ?_
      · simp [results, Try.f20, go_sem, q0, q1]
      · exact ⟨_, _, rfl, by rw [HPQ.out]; exact own_base q2 (by omega), q3⟩
end Go.Proofs.Ythoccmgfpjfkoaa
