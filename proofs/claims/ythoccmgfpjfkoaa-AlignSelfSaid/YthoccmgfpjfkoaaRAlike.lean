/- The walk of chequerref15.alike. Written by ralikegen.py. -/
import Derived.Test.YthoccmgfpjfkoaaAlignColumns
import Derived.Test.YthoccmgfpjfkoaaGoneStep
namespace Go.Proofs.Ythoccmgfpjfkoaa
open Go.RowKit

theorem load_strs (p : Addr) (v : Value) (W : World) (h : W.cell? p = some v) : (Instr.loadAt 26 (.pointer (some p))).run Try.prog W = .ok v W := by simp [go_sem, h]
theorem getD_of {ms : List Int} {i : Nat} {t : Int} (h : ms[i]? = some t) : ms.getD i (-1) = t := by simp [List.getD, h]
theorem alikeB_neg {p q : List ByteArray} {ms : List Int} {i : Nat} {t : Int} (h : ms[i]? = some t) (h0 : ¬ 0 ≤ t) : alikeB p q ms i = false := by
  unfold alikeB; rw [getD_of h]; exact decide_eq_false fun h => h0 h.1
theorem alikeB_far {p q : List ByteArray} {ms : List Int} {i : Nat} {t : Int} (h : ms[i]? = some t) (h0 : ¬ t < (q.length : Int)) : alikeB p q ms i = false := by
  unfold alikeB; rw [getD_of h]; exact decide_eq_false fun h => h0 h.2.1
theorem alikeB_at {rs ts : List SRow} {ms : List Int} {i tk : Nat} (h : ms[i]? = some (tk : Int)) (hi : i < rs.length) (ht : tk < ts.length) : alikeB (rowKeys rs) (rowKeys ts) ms i = decide (keyOf rs[i].l = keyOf ts[tk].l) := by
  unfold alikeB
  rw [getD_of h, rowKeys_len]
  have e1 : (rowKeys rs)[i]? = some (keyOf rs[i].l) := by simp [rowKeys, hi]
  have e2 : (rowKeys ts)[((tk : Nat) : Int).toNat]? = some (keyOf ts[tk].l) := by simp [rowKeys, ht]
  rw [e1, e2]
  refine decide_eq_decide.2 ⟨fun h => Option.some.inj h.2.2, fun h => ⟨by omega, by omega, by rw [h]⟩⟩

set_option maxRecDepth 100000 in
set_option maxHeartbeats 2000000 in
theorem ralike_any (w : World) (A B : Option Addr) (rs ts : List SRow) (c d : Nat) (name name2 : ByteArray) (cols cols2 : Int) (M : Option Addr) (ms : List Int) (cm : Nat) (N : Int) (i : Nat)
    (hA : Grid w A rs) (hB : Grid w B ts) (hma : Mild rs) (hmb : Mild ts) (hM : At1 vInt w M ms) (hi : i < rs.length) (hml : ms.length = rs.length) :
    Calls Try.prog 37 #[.agg #[.string name, .int .i64 cols, .slice A rs.length c], .agg #[.string name2, .int .i64 cols2, .slice B ts.length d], .agg #[.slice M ms.length cm, .int .i64 N], .int .i64 i] w fun e w' =>
      e = .returned (.bool (alikeB (rowKeys rs) (rowKeys ts) ms i)) ∧ Below w.heap.size w w' := by
  have HMA := Lib.hid hma
  have HMB := Lib.hid hmb
  have HA := Lib.hid hA
  have HB := Lib.hid hB
  have HM := Lib.hid hM
  have him : i < ms.length := by omega
  have HML := Lib.hid hml
  clear hA hB hM hma hmb hml
  go_enter Try.func37, Try.ntmps37
  go_wp2
  obtain ⟨W, hW⟩ : ∃ W, W = (((w.alloc (.cells #[.string name, .int .i64 cols, .slice A rs.length c] 24)).alloc (.cells #[.string name2, .int .i64 cols2, .slice B ts.length d] 24)).alloc (.cells #[.slice M ms.length cm, .int .i64 N] 30)) := ⟨_, rfl⟩
  have hs0 := heap_alloc_new w (.cells #[.string name, .int .i64 cols, .slice A rs.length c] 24)
  have hs1 := heap_alloc_new (w.alloc (.cells #[.string name, .int .i64 cols, .slice A rs.length c] 24)) (.cells #[.string name2, .int .i64 cols2, .slice B ts.length d] 24)
  rw [World.size_alloc] at hs1
  have hs2 := heap_alloc_new ((w.alloc (.cells #[.string name, .int .i64 cols, .slice A rs.length c] 24)).alloc (.cells #[.string name2, .int .i64 cols2, .slice B ts.length d] 24)) (.cells #[.slice M ms.length cm, .int .i64 N] 30)
  rw [World.size_alloc, World.size_alloc] at hs2
  have hS0 : W.heap[w.heap.size]? = some (.cells #[.string name, .int .i64 cols, .slice A rs.length c] 24 (0, 0)) := by rw [hW]; exact (Below.heap_alloc _ _ _ (by simp; try omega)).trans ((Below.heap_alloc _ _ _ (by simp; try omega)).trans (hs0))
  have hS1 : W.heap[w.heap.size + 1]? = some (.cells #[.string name2, .int .i64 cols2, .slice B ts.length d] 24 (0, 0)) := by rw [hW]; exact (Below.heap_alloc _ _ _ (by simp; try omega)).trans (hs1)
  have hS2 : W.heap[w.heap.size + 1 + 1]? = some (.cells #[.slice M ms.length cm, .int .i64 N] 30 (0, 0)) := by rw [hW]; exact hs2
  have hsW : W.heap.size = w.heap.size + 3 := by rw [hW]; simp
  have hbW : Below w.heap.size w W := by rw [hW]; exact (((Below.refl _ _).alloc (Nat.le_refl _) _).alloc (by simp; try omega) _).alloc (by simp; try omega) _
  rw [← hW]
  clear hW hs0 hs1 hs2
  obtain ⟨adm, hme, hcm⟩ := (HM.out.below hbW).at_ him
  subst hme
  have lm : (adm.add i).block < W.drew.heap.size := World.block_lt_of_cell? W _ hcm
  have HV : Hid (ms[i]? = some ms[i]) := List.getElem?_eq_getElem him
  obtain ⟨m0, m1, _⟩ := zfacts hS2
  obtain ⟨_, _, a2⟩ := sheet3 hS0
  obtain ⟨_, _, b2⟩ := sheet3 hS1
  have l0 : w.heap.size < W.drew.heap.size := by show _ < W.heap.size; omega
  have l1 : w.heap.size + 1 < W.drew.heap.size := by show _ < W.heap.size; omega
  have l2 : w.heap.size + 1 + 1 < W.drew.heap.size := by show _ < W.heap.size; omega
  have himz : (i : Int) < (ms.length : Int) := by omega
  generalize ms[i] = t at *
  refine wp_region_tree [] (.free 0 (.free 1 (.free 2 (.free 3 (.free 4 (.free 5 (.free 6 (.free 7 (.free 8 (.free 9 (.free 10 (.free 11 (.free 12 (.free 13 (.free 14 (.free 15 (.free 16 (.free 17 (.free 18 (.free 19 (.free 20 (.free 21 (.free 22 (.free 23 (.free 24 (.free 25 (.free 26 (.free 27 (.free 28 (.free 29 (.free 31 (.free 32 (.free 33 (.free 34 (.free 35 (.free 36 (.free 37 (.free 38 (.free 39 (.eff 30 (.eff 40 (.free 41 (.free 42 (.free 43 (.nil))))))))))))))))))))))))))))))))))))))))))))) (by kernel_rfl) (by kernel_rfl) (fun _ _ d _ _ h => by cases d <;> exact h) ?_
  by_cases h0 : 0 ≤ t
  · by_cases h1 : t < (ts.length : Int)
    · obtain ⟨tk, rfl⟩ := Int.eq_ofNat_of_zero_le h0
      have htk : tk < ts.length := by omega
      have GA := HA.out.below hbW
      have GB := HB.out.below hbW
      have hal := Lib.hid (alikeB_at HV.out hi htk)
      obtain ⟨ada, hae, hca⟩ := GA.top.at_ hi
      obtain ⟨adb, hbe, hcb⟩ := GB.top.at_ htk
      subst hae hbe
      have la : (ada.add i).block < W.drew.heap.size := World.block_lt_of_cell? W _ hca
      have lb : (adb.add tk).block < W.drew.heap.size := World.block_lt_of_cell? W _ hcb
      have RA := Lib.hid ((GA.row rs[i] (List.getElem_mem _)).below (Below.refl _ _).drew)
      have SA := Lib.hid (HMA.out.2 rs[i] (List.getElem_mem _))
      have RB := Lib.hid ((GB.row ts[tk] (List.getElem_mem _)).below (Below.refl _ _).drew)
      have SB := Lib.hid (HMB.out.2 ts[tk] (List.getElem_mem _))
      have hiz : (i : Int) < (rs.length : Int) := by omega
      clear GA GB
      generalize rs[i] = r at hca RA SA hal
      obtain ⟨rA, rl, rc⟩ := r
      generalize ts[tk] = t at hcb RB SB hal
      obtain ⟨tA, tl, tc⟩ := t
      dsimp only [vRow] at hca hcb RA SA RB SB hal
      by_cases hk : keyOf rl = keyOf tl
      · rw [decide_eq_true hk] at hal
        have hkk := str_eq_true hk
        conv => arg 4; whnf
        conv => arg 4; arg 1; whnf
        refine pt_free (by rfl) (fun K hK => ?_)
        go_big_quiet_op
        first | (refine hK _ ?_; clear hK K) | (refine ⟨_, fun _ _ => rfl, hK _ ?_⟩; clear hK K)
        conv => arg 4; whnf
        conv => arg 4; arg 1; whnf
        refine pt_free (by rfl) (fun K hK => ?_)
        go_big_quiet_op
        first | (refine hK _ ?_; clear hK K) | (refine ⟨_, fun _ _ => rfl, hK _ ?_⟩; clear hK K)
        conv => arg 4; whnf
        conv => arg 4; arg 1; whnf
        refine pt_load (fun W h => load_ints _ _ W h) (p := ⟨w.heap.size + 1 + 1, 0, none⟩) m0 l2 (by rfl) rfl rfl ?_
        simp only [Act.put, List.setIfInBounds_toArray, List.set_cons_zero, List.set_cons_succ]
        conv => arg 4; whnf
        conv => arg 4; arg 1; whnf
        refine pt_free (by rfl) (fun K hK => ?_)
        go_big_quiet_op
        first | (refine hK _ ?_; clear hK K) | (refine ⟨_, fun _ _ => rfl, hK _ ?_⟩; clear hK K)
        conv => arg 4; whnf
        conv => arg 4; arg 1; whnf
        refine pt_free (by rfl) (fun K hK => ?_)
        go_big_quiet_op
        first | (refine hK _ ?_; clear hK K) | (refine ⟨_, fun _ _ => rfl, hK _ ?_⟩; clear hK K)
        conv => arg 4; whnf
        conv => arg 4; arg 1; whnf
        refine pt_free (by rfl) (fun K hK => ?_)
        go_big_quiet_op
        first | (refine hK _ ?_; clear hK K) | (refine ⟨_, fun _ _ => rfl, hK _ ?_⟩; clear hK K)
        conv => arg 4; whnf
        conv => arg 4; arg 1; whnf
        refine pt_free (by rfl) (fun K hK => ?_)
        go_big_quiet_op
        first | (refine hK _ ?_; clear hK K) | (refine ⟨_, fun _ _ => rfl, hK _ ?_⟩; clear hK K)
        conv => arg 4; whnf
        conv => arg 4; arg 1; whnf
        refine pt_load (fun W h => load_ints _ _ W h) (p := ⟨w.heap.size + 1 + 1, 0, none⟩) m0 l2 (by rfl) rfl rfl ?_
        simp only [Act.put, List.setIfInBounds_toArray, List.set_cons_zero, List.set_cons_succ]
        conv => arg 4; whnf
        conv => arg 4; arg 1; whnf
        refine pt_free (by rfl) (fun K hK => ?_)
        go_big_quiet_op
        first | (refine hK _ ?_; clear hK K) | (refine ⟨_, fun _ _ => rfl, hK _ ?_⟩; clear hK K)
        conv => arg 4; whnf
        conv => arg 4; arg 1; whnf
        refine pt_free (by rfl) (fun K hK => ?_)
        go_big_quiet_op
        first | (refine hK _ ?_; clear hK K) | (refine ⟨_, fun _ _ => rfl, hK _ ?_⟩; clear hK K)
        conv => arg 4; whnf
        conv => arg 4; arg 1; whnf
        refine pt_load (fun W h => load_int _ _ W h) (p := adm.add i) hcm lm (by rfl) rfl rfl ?_
        simp only [Act.put, List.setIfInBounds_toArray, List.set_cons_zero, List.set_cons_succ]
        conv => arg 4; whnf
        conv => arg 4; arg 1; whnf
        refine pt_free (by rfl) (fun K hK => ?_)
        go_big_quiet_op
        first | (refine hK _ ?_; clear hK K) | (refine ⟨_, fun _ _ => rfl, hK _ ?_⟩; clear hK K)
        conv => arg 4; whnf
        conv => arg 4; arg 1; whnf
        refine pt_free (by rfl) (fun K hK => ?_)
        go_big_quiet_op
        first | (refine hK _ ?_; clear hK K) | (refine ⟨_, fun _ _ => rfl, hK _ ?_⟩; clear hK K)
        conv => arg 4; whnf
        conv => arg 4; arg 1; whnf
        refine pt_free (by rfl) (fun K hK => ?_)
        go_big_quiet_op
        first | (refine hK _ ?_; clear hK K) | (refine ⟨_, fun _ _ => rfl, hK _ ?_⟩; clear hK K)
        conv => arg 4; whnf
        conv => arg 4; arg 1; whnf
        refine pt_free (by rfl) (fun K hK => ?_)
        go_big_quiet_op
        first | (refine hK _ ?_; clear hK K) | (refine ⟨_, fun _ _ => rfl, hK _ ?_⟩; clear hK K)
        conv => arg 4; whnf
        conv => arg 4; arg 1; whnf
        refine pt_load (fun W h => load_ints _ _ W h) (p := ⟨w.heap.size + 1 + 1, 0, none⟩) m0 l2 (by rfl) rfl rfl ?_
        simp only [Act.put, List.setIfInBounds_toArray, List.set_cons_zero, List.set_cons_succ]
        conv => arg 4; whnf
        conv => arg 4; arg 1; whnf
        refine pt_free (by rfl) (fun K hK => ?_)
        go_big_quiet_op
        first | (refine hK _ ?_; clear hK K) | (refine ⟨_, fun _ _ => rfl, hK _ ?_⟩; clear hK K)
        conv => arg 4; whnf
        conv => arg 4; arg 1; whnf
        refine pt_free (by rfl) (fun K hK => ?_)
        go_big_quiet_op
        first | (refine hK _ ?_; clear hK K) | (refine ⟨_, fun _ _ => rfl, hK _ ?_⟩; clear hK K)
        conv => arg 4; whnf
        conv => arg 4; arg 1; whnf
        refine pt_load (fun W h => load_int _ _ W h) (p := adm.add i) hcm lm (by rfl) rfl rfl ?_
        simp only [Act.put, List.setIfInBounds_toArray, List.set_cons_zero, List.set_cons_succ]
        conv => arg 4; whnf
        conv => arg 4; arg 1; whnf
        refine pt_free (by rfl) (fun K hK => ?_)
        go_big_quiet_op
        first | (refine hK _ ?_; clear hK K) | (refine ⟨_, fun _ _ => rfl, hK _ ?_⟩; clear hK K)
        conv => arg 4; whnf
        conv => arg 4; arg 1; whnf
        refine pt_load (fun W h => load_rows _ _ W h) (p := ⟨w.heap.size + 1, 2, none⟩) b2 l1 (by rfl) rfl rfl ?_
        simp only [Act.put, List.setIfInBounds_toArray, List.set_cons_zero, List.set_cons_succ]
        conv => arg 4; whnf
        conv => arg 4; arg 1; whnf
        refine pt_free (by rfl) (fun K hK => ?_)
        go_big_quiet_op
        first | (refine hK _ ?_; clear hK K) | (refine ⟨_, fun _ _ => rfl, hK _ ?_⟩; clear hK K)
        conv => arg 4; whnf
        conv => arg 4; arg 1; whnf
        refine pt_free (by rfl) (fun K hK => ?_)
        go_big_quiet_op
        first | (refine hK _ ?_; clear hK K) | (refine ⟨_, fun _ _ => rfl, hK _ ?_⟩; clear hK K)
        conv => arg 4; whnf
        conv => arg 4; arg 1; whnf
        refine pt_free (by rfl) (fun K hK => ?_)
        go_big_quiet_op
        first | (refine hK _ ?_; clear hK K) | (refine ⟨_, fun _ _ => rfl, hK _ ?_⟩; clear hK K)
        conv => arg 4; whnf
        conv => arg 4; arg 1; whnf
        refine pt_free (by rfl) (fun K hK => ?_)
        go_big_quiet_op
        first | (refine hK _ ?_; clear hK K) | (refine ⟨_, fun _ _ => rfl, hK _ ?_⟩; clear hK K)
        conv => arg 4; whnf
        conv => arg 4; arg 1; whnf
        refine pt_free (by rfl) (fun K hK => ?_)
        go_big_quiet_op
        first | (refine hK _ ?_; clear hK K) | (refine ⟨_, fun _ _ => rfl, hK _ ?_⟩; clear hK K)
        conv => arg 4; whnf
        conv => arg 4; arg 1; whnf
        refine pt_load (fun W h => load_rows _ _ W h) (p := ⟨w.heap.size, 2, none⟩) a2 l0 (by rfl) rfl rfl ?_
        simp only [Act.put, List.setIfInBounds_toArray, List.set_cons_zero, List.set_cons_succ]
        conv => arg 4; whnf
        conv => arg 4; arg 1; whnf
        refine pt_free (by rfl) (fun K hK => ?_)
        go_big_quiet_op
        first | (refine hK _ ?_; clear hK K) | (refine ⟨_, fun _ _ => rfl, hK _ ?_⟩; clear hK K)
        conv => arg 4; whnf
        conv => arg 4; arg 1; whnf
        refine pt_free (by rfl) (fun K hK => ?_)
        go_big_quiet_op
        first | (refine hK _ ?_; clear hK K) | (refine ⟨_, fun _ _ => rfl, hK _ ?_⟩; clear hK K)
        conv => arg 4; whnf
        conv => arg 4; arg 1; whnf
        refine pt_load (fun W h => load_strs _ _ W h) (p := ada.add i) hca la (by rfl) rfl rfl ?_
        simp only [Act.put, List.setIfInBounds_toArray, List.set_cons_zero, List.set_cons_succ]
        conv => arg 4; whnf
        conv => arg 4; arg 1; whnf
        refine pt_free (by rfl) (fun K hK => ?_)
        go_big_quiet_op
        first | (refine hK _ ?_; clear hK K) | (refine ⟨_, fun _ _ => rfl, hK _ ?_⟩; clear hK K)
        conv => arg 4; whnf
        conv => arg 4; arg 1; whnf
        refine pt_load (fun W h => load_rows _ _ W h) (p := ⟨w.heap.size + 1, 2, none⟩) b2 l1 (by rfl) rfl rfl ?_
        simp only [Act.put, List.setIfInBounds_toArray, List.set_cons_zero, List.set_cons_succ]
        conv => arg 4; whnf
        conv => arg 4; arg 1; whnf
        refine pt_free (by rfl) (fun K hK => ?_)
        go_big_quiet_op
        first | (refine hK _ ?_; clear hK K) | (refine ⟨_, fun _ _ => rfl, hK _ ?_⟩; clear hK K)
        conv => arg 4; whnf
        conv => arg 4; arg 1; whnf
        refine pt_load (fun W h => load_ints _ _ W h) (p := ⟨w.heap.size + 1 + 1, 0, none⟩) m0 l2 (by rfl) rfl rfl ?_
        simp only [Act.put, List.setIfInBounds_toArray, List.set_cons_zero, List.set_cons_succ]
        conv => arg 4; whnf
        conv => arg 4; arg 1; whnf
        refine pt_free (by rfl) (fun K hK => ?_)
        go_big_quiet_op
        first | (refine hK _ ?_; clear hK K) | (refine ⟨_, fun _ _ => rfl, hK _ ?_⟩; clear hK K)
        conv => arg 4; whnf
        conv => arg 4; arg 1; whnf
        refine pt_free (by rfl) (fun K hK => ?_)
        go_big_quiet_op
        first | (refine hK _ ?_; clear hK K) | (refine ⟨_, fun _ _ => rfl, hK _ ?_⟩; clear hK K)
        conv => arg 4; whnf
        conv => arg 4; arg 1; whnf
        refine pt_load (fun W h => load_int _ _ W h) (p := adm.add i) hcm lm (by rfl) rfl rfl ?_
        simp only [Act.put, List.setIfInBounds_toArray, List.set_cons_zero, List.set_cons_succ]
        conv => arg 4; whnf
        conv => arg 4; arg 1; whnf
        refine pt_free (by rfl) (fun K hK => ?_)
        go_big_quiet_op
        first | (refine hK _ ?_; clear hK K) | (refine ⟨_, fun _ _ => rfl, hK _ ?_⟩; clear hK K)
        conv => arg 4; whnf
        conv => arg 4; arg 1; whnf
        refine pt_load (fun W h => load_strs _ _ W h) (p := adb.add tk) hcb lb (by rfl) rfl rfl ?_
        simp only [Act.put, List.setIfInBounds_toArray, List.set_cons_zero, List.set_cons_succ]
        conv => arg 4; whnf
        conv => arg 4; arg 1; whnf
        refine pt_eff (by rfl) (fun K hK => ?_)
        go_wp2_with fail
        refine (rkey_any _ rA rl rc RA.out SA.out.1 SA.out.2).mono ?_
        rintro e w1 ⟨rfl, hb1⟩
        refine hK _ _ hb1 ?_
        clear hK K
        conv => arg 4; whnf
        conv => arg 4; arg 1; whnf
        refine pt_eff (by rfl) (fun K hK => ?_)
        go_wp2_with fail
        refine (rkey_any _ tA tl tc (RB.out.below hb1) SB.out.1 SB.out.2).mono ?_
        rintro e w2 ⟨rfl, hb2⟩
        refine hK _ _ hb2 ?_
        clear hK K
        have hbb := hbW.drew.trans ((hb1.mono hbW.size).trans (hb2.mono (Nat.le_trans hbW.size hb1.size)))
        conv => arg 4; whnf
        conv => arg 4; arg 1; whnf
        refine pt_free (by rfl) (fun K hK => ?_)
        go_big_quiet_op
        first | (refine hK _ ?_; clear hK K) | (refine ⟨_, fun _ _ => rfl, hK _ ?_⟩; clear hK K)
        conv => arg 4; whnf
        conv => arg 4; arg 1; whnf
        refine pt_free (by rfl) (fun K hK => ?_)
        go_big_quiet_op
        first | (refine hK _ ?_; clear hK K) | (refine ⟨_, fun _ _ => rfl, hK _ ?_⟩; clear hK K)
        conv => arg 4; whnf
        conv => arg 4; arg 1; whnf
        refine pt_free (by rfl) (fun K hK => ?_)
        go_big_quiet_op
        first | (refine hK _ ?_; clear hK K) | (refine ⟨_, fun _ _ => rfl, hK _ ?_⟩; clear hK K)
        refine pt_nil ?_
        go_wp2
        go_ret
        exact ⟨by rw [hal.out]; rfl, hbb⟩
      · rw [decide_eq_false hk] at hal
        have hkk := str_eq_false hk
        conv => arg 4; whnf
        conv => arg 4; arg 1; whnf
        refine pt_free (by rfl) (fun K hK => ?_)
        go_big_quiet_op
        first | (refine hK _ ?_; clear hK K) | (refine ⟨_, fun _ _ => rfl, hK _ ?_⟩; clear hK K)
        conv => arg 4; whnf
        conv => arg 4; arg 1; whnf
        refine pt_free (by rfl) (fun K hK => ?_)
        go_big_quiet_op
        first | (refine hK _ ?_; clear hK K) | (refine ⟨_, fun _ _ => rfl, hK _ ?_⟩; clear hK K)
        conv => arg 4; whnf
        conv => arg 4; arg 1; whnf
        refine pt_load (fun W h => load_ints _ _ W h) (p := ⟨w.heap.size + 1 + 1, 0, none⟩) m0 l2 (by rfl) rfl rfl ?_
        simp only [Act.put, List.setIfInBounds_toArray, List.set_cons_zero, List.set_cons_succ]
        conv => arg 4; whnf
        conv => arg 4; arg 1; whnf
        refine pt_free (by rfl) (fun K hK => ?_)
        go_big_quiet_op
        first | (refine hK _ ?_; clear hK K) | (refine ⟨_, fun _ _ => rfl, hK _ ?_⟩; clear hK K)
        conv => arg 4; whnf
        conv => arg 4; arg 1; whnf
        refine pt_free (by rfl) (fun K hK => ?_)
        go_big_quiet_op
        first | (refine hK _ ?_; clear hK K) | (refine ⟨_, fun _ _ => rfl, hK _ ?_⟩; clear hK K)
        conv => arg 4; whnf
        conv => arg 4; arg 1; whnf
        refine pt_free (by rfl) (fun K hK => ?_)
        go_big_quiet_op
        first | (refine hK _ ?_; clear hK K) | (refine ⟨_, fun _ _ => rfl, hK _ ?_⟩; clear hK K)
        conv => arg 4; whnf
        conv => arg 4; arg 1; whnf
        refine pt_free (by rfl) (fun K hK => ?_)
        go_big_quiet_op
        first | (refine hK _ ?_; clear hK K) | (refine ⟨_, fun _ _ => rfl, hK _ ?_⟩; clear hK K)
        conv => arg 4; whnf
        conv => arg 4; arg 1; whnf
        refine pt_load (fun W h => load_ints _ _ W h) (p := ⟨w.heap.size + 1 + 1, 0, none⟩) m0 l2 (by rfl) rfl rfl ?_
        simp only [Act.put, List.setIfInBounds_toArray, List.set_cons_zero, List.set_cons_succ]
        conv => arg 4; whnf
        conv => arg 4; arg 1; whnf
        refine pt_free (by rfl) (fun K hK => ?_)
        go_big_quiet_op
        first | (refine hK _ ?_; clear hK K) | (refine ⟨_, fun _ _ => rfl, hK _ ?_⟩; clear hK K)
        conv => arg 4; whnf
        conv => arg 4; arg 1; whnf
        refine pt_free (by rfl) (fun K hK => ?_)
        go_big_quiet_op
        first | (refine hK _ ?_; clear hK K) | (refine ⟨_, fun _ _ => rfl, hK _ ?_⟩; clear hK K)
        conv => arg 4; whnf
        conv => arg 4; arg 1; whnf
        refine pt_load (fun W h => load_int _ _ W h) (p := adm.add i) hcm lm (by rfl) rfl rfl ?_
        simp only [Act.put, List.setIfInBounds_toArray, List.set_cons_zero, List.set_cons_succ]
        conv => arg 4; whnf
        conv => arg 4; arg 1; whnf
        refine pt_free (by rfl) (fun K hK => ?_)
        go_big_quiet_op
        first | (refine hK _ ?_; clear hK K) | (refine ⟨_, fun _ _ => rfl, hK _ ?_⟩; clear hK K)
        conv => arg 4; whnf
        conv => arg 4; arg 1; whnf
        refine pt_free (by rfl) (fun K hK => ?_)
        go_big_quiet_op
        first | (refine hK _ ?_; clear hK K) | (refine ⟨_, fun _ _ => rfl, hK _ ?_⟩; clear hK K)
        conv => arg 4; whnf
        conv => arg 4; arg 1; whnf
        refine pt_free (by rfl) (fun K hK => ?_)
        go_big_quiet_op
        first | (refine hK _ ?_; clear hK K) | (refine ⟨_, fun _ _ => rfl, hK _ ?_⟩; clear hK K)
        conv => arg 4; whnf
        conv => arg 4; arg 1; whnf
        refine pt_free (by rfl) (fun K hK => ?_)
        go_big_quiet_op
        first | (refine hK _ ?_; clear hK K) | (refine ⟨_, fun _ _ => rfl, hK _ ?_⟩; clear hK K)
        conv => arg 4; whnf
        conv => arg 4; arg 1; whnf
        refine pt_load (fun W h => load_ints _ _ W h) (p := ⟨w.heap.size + 1 + 1, 0, none⟩) m0 l2 (by rfl) rfl rfl ?_
        simp only [Act.put, List.setIfInBounds_toArray, List.set_cons_zero, List.set_cons_succ]
        conv => arg 4; whnf
        conv => arg 4; arg 1; whnf
        refine pt_free (by rfl) (fun K hK => ?_)
        go_big_quiet_op
        first | (refine hK _ ?_; clear hK K) | (refine ⟨_, fun _ _ => rfl, hK _ ?_⟩; clear hK K)
        conv => arg 4; whnf
        conv => arg 4; arg 1; whnf
        refine pt_free (by rfl) (fun K hK => ?_)
        go_big_quiet_op
        first | (refine hK _ ?_; clear hK K) | (refine ⟨_, fun _ _ => rfl, hK _ ?_⟩; clear hK K)
        conv => arg 4; whnf
        conv => arg 4; arg 1; whnf
        refine pt_load (fun W h => load_int _ _ W h) (p := adm.add i) hcm lm (by rfl) rfl rfl ?_
        simp only [Act.put, List.setIfInBounds_toArray, List.set_cons_zero, List.set_cons_succ]
        conv => arg 4; whnf
        conv => arg 4; arg 1; whnf
        refine pt_free (by rfl) (fun K hK => ?_)
        go_big_quiet_op
        first | (refine hK _ ?_; clear hK K) | (refine ⟨_, fun _ _ => rfl, hK _ ?_⟩; clear hK K)
        conv => arg 4; whnf
        conv => arg 4; arg 1; whnf
        refine pt_load (fun W h => load_rows _ _ W h) (p := ⟨w.heap.size + 1, 2, none⟩) b2 l1 (by rfl) rfl rfl ?_
        simp only [Act.put, List.setIfInBounds_toArray, List.set_cons_zero, List.set_cons_succ]
        conv => arg 4; whnf
        conv => arg 4; arg 1; whnf
        refine pt_free (by rfl) (fun K hK => ?_)
        go_big_quiet_op
        first | (refine hK _ ?_; clear hK K) | (refine ⟨_, fun _ _ => rfl, hK _ ?_⟩; clear hK K)
        conv => arg 4; whnf
        conv => arg 4; arg 1; whnf
        refine pt_free (by rfl) (fun K hK => ?_)
        go_big_quiet_op
        first | (refine hK _ ?_; clear hK K) | (refine ⟨_, fun _ _ => rfl, hK _ ?_⟩; clear hK K)
        conv => arg 4; whnf
        conv => arg 4; arg 1; whnf
        refine pt_free (by rfl) (fun K hK => ?_)
        go_big_quiet_op
        first | (refine hK _ ?_; clear hK K) | (refine ⟨_, fun _ _ => rfl, hK _ ?_⟩; clear hK K)
        conv => arg 4; whnf
        conv => arg 4; arg 1; whnf
        refine pt_free (by rfl) (fun K hK => ?_)
        go_big_quiet_op
        first | (refine hK _ ?_; clear hK K) | (refine ⟨_, fun _ _ => rfl, hK _ ?_⟩; clear hK K)
        conv => arg 4; whnf
        conv => arg 4; arg 1; whnf
        refine pt_free (by rfl) (fun K hK => ?_)
        go_big_quiet_op
        first | (refine hK _ ?_; clear hK K) | (refine ⟨_, fun _ _ => rfl, hK _ ?_⟩; clear hK K)
        conv => arg 4; whnf
        conv => arg 4; arg 1; whnf
        refine pt_load (fun W h => load_rows _ _ W h) (p := ⟨w.heap.size, 2, none⟩) a2 l0 (by rfl) rfl rfl ?_
        simp only [Act.put, List.setIfInBounds_toArray, List.set_cons_zero, List.set_cons_succ]
        conv => arg 4; whnf
        conv => arg 4; arg 1; whnf
        refine pt_free (by rfl) (fun K hK => ?_)
        go_big_quiet_op
        first | (refine hK _ ?_; clear hK K) | (refine ⟨_, fun _ _ => rfl, hK _ ?_⟩; clear hK K)
        conv => arg 4; whnf
        conv => arg 4; arg 1; whnf
        refine pt_free (by rfl) (fun K hK => ?_)
        go_big_quiet_op
        first | (refine hK _ ?_; clear hK K) | (refine ⟨_, fun _ _ => rfl, hK _ ?_⟩; clear hK K)
        conv => arg 4; whnf
        conv => arg 4; arg 1; whnf
        refine pt_load (fun W h => load_strs _ _ W h) (p := ada.add i) hca la (by rfl) rfl rfl ?_
        simp only [Act.put, List.setIfInBounds_toArray, List.set_cons_zero, List.set_cons_succ]
        conv => arg 4; whnf
        conv => arg 4; arg 1; whnf
        refine pt_free (by rfl) (fun K hK => ?_)
        go_big_quiet_op
        first | (refine hK _ ?_; clear hK K) | (refine ⟨_, fun _ _ => rfl, hK _ ?_⟩; clear hK K)
        conv => arg 4; whnf
        conv => arg 4; arg 1; whnf
        refine pt_load (fun W h => load_rows _ _ W h) (p := ⟨w.heap.size + 1, 2, none⟩) b2 l1 (by rfl) rfl rfl ?_
        simp only [Act.put, List.setIfInBounds_toArray, List.set_cons_zero, List.set_cons_succ]
        conv => arg 4; whnf
        conv => arg 4; arg 1; whnf
        refine pt_free (by rfl) (fun K hK => ?_)
        go_big_quiet_op
        first | (refine hK _ ?_; clear hK K) | (refine ⟨_, fun _ _ => rfl, hK _ ?_⟩; clear hK K)
        conv => arg 4; whnf
        conv => arg 4; arg 1; whnf
        refine pt_load (fun W h => load_ints _ _ W h) (p := ⟨w.heap.size + 1 + 1, 0, none⟩) m0 l2 (by rfl) rfl rfl ?_
        simp only [Act.put, List.setIfInBounds_toArray, List.set_cons_zero, List.set_cons_succ]
        conv => arg 4; whnf
        conv => arg 4; arg 1; whnf
        refine pt_free (by rfl) (fun K hK => ?_)
        go_big_quiet_op
        first | (refine hK _ ?_; clear hK K) | (refine ⟨_, fun _ _ => rfl, hK _ ?_⟩; clear hK K)
        conv => arg 4; whnf
        conv => arg 4; arg 1; whnf
        refine pt_free (by rfl) (fun K hK => ?_)
        go_big_quiet_op
        first | (refine hK _ ?_; clear hK K) | (refine ⟨_, fun _ _ => rfl, hK _ ?_⟩; clear hK K)
        conv => arg 4; whnf
        conv => arg 4; arg 1; whnf
        refine pt_load (fun W h => load_int _ _ W h) (p := adm.add i) hcm lm (by rfl) rfl rfl ?_
        simp only [Act.put, List.setIfInBounds_toArray, List.set_cons_zero, List.set_cons_succ]
        conv => arg 4; whnf
        conv => arg 4; arg 1; whnf
        refine pt_free (by rfl) (fun K hK => ?_)
        go_big_quiet_op
        first | (refine hK _ ?_; clear hK K) | (refine ⟨_, fun _ _ => rfl, hK _ ?_⟩; clear hK K)
        conv => arg 4; whnf
        conv => arg 4; arg 1; whnf
        refine pt_load (fun W h => load_strs _ _ W h) (p := adb.add tk) hcb lb (by rfl) rfl rfl ?_
        simp only [Act.put, List.setIfInBounds_toArray, List.set_cons_zero, List.set_cons_succ]
        conv => arg 4; whnf
        conv => arg 4; arg 1; whnf
        refine pt_eff (by rfl) (fun K hK => ?_)
        go_wp2_with fail
        refine (rkey_any _ rA rl rc RA.out SA.out.1 SA.out.2).mono ?_
        rintro e w1 ⟨rfl, hb1⟩
        refine hK _ _ hb1 ?_
        clear hK K
        conv => arg 4; whnf
        conv => arg 4; arg 1; whnf
        refine pt_eff (by rfl) (fun K hK => ?_)
        go_wp2_with fail
        refine (rkey_any _ tA tl tc (RB.out.below hb1) SB.out.1 SB.out.2).mono ?_
        rintro e w2 ⟨rfl, hb2⟩
        refine hK _ _ hb2 ?_
        clear hK K
        have hbb := hbW.drew.trans ((hb1.mono hbW.size).trans (hb2.mono (Nat.le_trans hbW.size hb1.size)))
        conv => arg 4; whnf
        conv => arg 4; arg 1; whnf
        refine pt_free (by rfl) (fun K hK => ?_)
        go_big_quiet_op
        first | (refine hK _ ?_; clear hK K) | (refine ⟨_, fun _ _ => rfl, hK _ ?_⟩; clear hK K)
        conv => arg 4; whnf
        conv => arg 4; arg 1; whnf
        refine pt_free (by rfl) (fun K hK => ?_)
        go_big_quiet_op
        first | (refine hK _ ?_; clear hK K) | (refine ⟨_, fun _ _ => rfl, hK _ ?_⟩; clear hK K)
        conv => arg 4; whnf
        conv => arg 4; arg 1; whnf
        refine pt_free (by rfl) (fun K hK => ?_)
        go_big_quiet_op
        first | (refine hK _ ?_; clear hK K) | (refine ⟨_, fun _ _ => rfl, hK _ ?_⟩; clear hK K)
        refine pt_nil ?_
        go_wp2
        go_ret
        exact ⟨by rw [hal.out]; rfl, hbb⟩
    · have hal := alikeB_far (p := rowKeys rs) (q := rowKeys ts) HV.out (by rw [rowKeys_len]; exact h1)
      conv => arg 4; whnf
      conv => arg 4; arg 1; whnf
      refine pt_free (by rfl) (fun K hK => ?_)
      go_big_quiet_op
      first | (refine hK _ ?_; clear hK K) | (refine ⟨_, fun _ _ => rfl, hK _ ?_⟩; clear hK K)
      conv => arg 4; whnf
      conv => arg 4; arg 1; whnf
      refine pt_free (by rfl) (fun K hK => ?_)
      go_big_quiet_op
      first | (refine hK _ ?_; clear hK K) | (refine ⟨_, fun _ _ => rfl, hK _ ?_⟩; clear hK K)
      conv => arg 4; whnf
      conv => arg 4; arg 1; whnf
      refine pt_load (fun W h => load_ints _ _ W h) (p := ⟨w.heap.size + 1 + 1, 0, none⟩) m0 l2 (by rfl) rfl rfl ?_
      simp only [Act.put, List.setIfInBounds_toArray, List.set_cons_zero, List.set_cons_succ]
      conv => arg 4; whnf
      conv => arg 4; arg 1; whnf
      refine pt_free (by rfl) (fun K hK => ?_)
      go_big_quiet_op
      first | (refine hK _ ?_; clear hK K) | (refine ⟨_, fun _ _ => rfl, hK _ ?_⟩; clear hK K)
      conv => arg 4; whnf
      conv => arg 4; arg 1; whnf
      refine pt_free (by rfl) (fun K hK => ?_)
      go_big_quiet_op
      first | (refine hK _ ?_; clear hK K) | (refine ⟨_, fun _ _ => rfl, hK _ ?_⟩; clear hK K)
      conv => arg 4; whnf
      conv => arg 4; arg 1; whnf
      refine pt_free (by rfl) (fun K hK => ?_)
      go_big_quiet_op
      first | (refine hK _ ?_; clear hK K) | (refine ⟨_, fun _ _ => rfl, hK _ ?_⟩; clear hK K)
      conv => arg 4; whnf
      conv => arg 4; arg 1; whnf
      refine pt_free (by rfl) (fun K hK => ?_)
      go_big_quiet_op
      first | (refine hK _ ?_; clear hK K) | (refine ⟨_, fun _ _ => rfl, hK _ ?_⟩; clear hK K)
      conv => arg 4; whnf
      conv => arg 4; arg 1; whnf
      refine pt_load (fun W h => load_ints _ _ W h) (p := ⟨w.heap.size + 1 + 1, 0, none⟩) m0 l2 (by rfl) rfl rfl ?_
      simp only [Act.put, List.setIfInBounds_toArray, List.set_cons_zero, List.set_cons_succ]
      conv => arg 4; whnf
      conv => arg 4; arg 1; whnf
      refine pt_free (by rfl) (fun K hK => ?_)
      go_big_quiet_op
      first | (refine hK _ ?_; clear hK K) | (refine ⟨_, fun _ _ => rfl, hK _ ?_⟩; clear hK K)
      conv => arg 4; whnf
      conv => arg 4; arg 1; whnf
      refine pt_free (by rfl) (fun K hK => ?_)
      go_big_quiet_op
      first | (refine hK _ ?_; clear hK K) | (refine ⟨_, fun _ _ => rfl, hK _ ?_⟩; clear hK K)
      conv => arg 4; whnf
      conv => arg 4; arg 1; whnf
      refine pt_load (fun W h => load_int _ _ W h) (p := adm.add i) hcm lm (by rfl) rfl rfl ?_
      simp only [Act.put, List.setIfInBounds_toArray, List.set_cons_zero, List.set_cons_succ]
      conv => arg 4; whnf
      conv => arg 4; arg 1; whnf
      refine pt_free (by rfl) (fun K hK => ?_)
      go_big_quiet_op
      first | (refine hK _ ?_; clear hK K) | (refine ⟨_, fun _ _ => rfl, hK _ ?_⟩; clear hK K)
      conv => arg 4; whnf
      conv => arg 4; arg 1; whnf
      refine pt_free (by rfl) (fun K hK => ?_)
      go_big_quiet_op
      first | (refine hK _ ?_; clear hK K) | (refine ⟨_, fun _ _ => rfl, hK _ ?_⟩; clear hK K)
      conv => arg 4; whnf
      conv => arg 4; arg 1; whnf
      refine pt_free (by rfl) (fun K hK => ?_)
      go_big_quiet_op
      first | (refine hK _ ?_; clear hK K) | (refine ⟨_, fun _ _ => rfl, hK _ ?_⟩; clear hK K)
      conv => arg 4; whnf
      conv => arg 4; arg 1; whnf
      refine pt_free (by rfl) (fun K hK => ?_)
      go_big_quiet_op
      first | (refine hK _ ?_; clear hK K) | (refine ⟨_, fun _ _ => rfl, hK _ ?_⟩; clear hK K)
      conv => arg 4; whnf
      conv => arg 4; arg 1; whnf
      refine pt_load (fun W h => load_ints _ _ W h) (p := ⟨w.heap.size + 1 + 1, 0, none⟩) m0 l2 (by rfl) rfl rfl ?_
      simp only [Act.put, List.setIfInBounds_toArray, List.set_cons_zero, List.set_cons_succ]
      conv => arg 4; whnf
      conv => arg 4; arg 1; whnf
      refine pt_free (by rfl) (fun K hK => ?_)
      go_big_quiet_op
      first | (refine hK _ ?_; clear hK K) | (refine ⟨_, fun _ _ => rfl, hK _ ?_⟩; clear hK K)
      conv => arg 4; whnf
      conv => arg 4; arg 1; whnf
      refine pt_free (by rfl) (fun K hK => ?_)
      go_big_quiet_op
      first | (refine hK _ ?_; clear hK K) | (refine ⟨_, fun _ _ => rfl, hK _ ?_⟩; clear hK K)
      conv => arg 4; whnf
      conv => arg 4; arg 1; whnf
      refine pt_load (fun W h => load_int _ _ W h) (p := adm.add i) hcm lm (by rfl) rfl rfl ?_
      simp only [Act.put, List.setIfInBounds_toArray, List.set_cons_zero, List.set_cons_succ]
      conv => arg 4; whnf
      conv => arg 4; arg 1; whnf
      refine pt_free (by rfl) (fun K hK => ?_)
      go_big_quiet_op
      first | (refine hK _ ?_; clear hK K) | (refine ⟨_, fun _ _ => rfl, hK _ ?_⟩; clear hK K)
      conv => arg 4; whnf
      conv => arg 4; arg 1; whnf
      refine pt_load (fun W h => load_rows _ _ W h) (p := ⟨w.heap.size + 1, 2, none⟩) b2 l1 (by rfl) rfl rfl ?_
      simp only [Act.put, List.setIfInBounds_toArray, List.set_cons_zero, List.set_cons_succ]
      conv => arg 4; whnf
      conv => arg 4; arg 1; whnf
      refine pt_free (by rfl) (fun K hK => ?_)
      go_big_quiet_op
      first | (refine hK _ ?_; clear hK K) | (refine ⟨_, fun _ _ => rfl, hK _ ?_⟩; clear hK K)
      conv => arg 4; whnf
      conv => arg 4; arg 1; whnf
      refine pt_free (by rfl) (fun K hK => ?_)
      go_big_quiet_op
      first | (refine hK _ ?_; clear hK K) | (refine ⟨_, fun _ _ => rfl, hK _ ?_⟩; clear hK K)
      conv => arg 4; whnf
      conv => arg 4; arg 1; whnf
      refine pt_free (by rfl) (fun K hK => ?_)
      go_big_quiet_op
      first | (refine hK _ ?_; clear hK K) | (refine ⟨_, fun _ _ => rfl, hK _ ?_⟩; clear hK K)
      conv => arg 4; whnf
      conv => arg 4; arg 1; whnf
      refine pt_free (by rfl) (fun K hK => ?_)
      go_big_quiet_op
      first | (refine hK _ ?_; clear hK K) | (refine ⟨_, fun _ _ => rfl, hK _ ?_⟩; clear hK K)
      conv => arg 4; whnf
      conv => arg 4; arg 1; whnf
      refine pt_free_skip (by rfl) ?_
      simp only [Act.put, List.setIfInBounds_toArray, List.set_cons_zero, List.set_cons_succ]
      conv => arg 4; whnf
      conv => arg 4; arg 1; whnf
      refine pt_free_skip (by rfl) ?_
      simp only [Act.put, List.setIfInBounds_toArray, List.set_cons_zero, List.set_cons_succ]
      conv => arg 4; whnf
      conv => arg 4; arg 1; whnf
      refine pt_free_skip (by rfl) ?_
      simp only [Act.put, List.setIfInBounds_toArray, List.set_cons_zero, List.set_cons_succ]
      conv => arg 4; whnf
      conv => arg 4; arg 1; whnf
      refine pt_free_skip (by rfl) ?_
      simp only [Act.put, List.setIfInBounds_toArray, List.set_cons_zero, List.set_cons_succ]
      conv => arg 4; whnf
      conv => arg 4; arg 1; whnf
      refine pt_free_skip (by rfl) ?_
      simp only [Act.put, List.setIfInBounds_toArray, List.set_cons_zero, List.set_cons_succ]
      conv => arg 4; whnf
      conv => arg 4; arg 1; whnf
      refine pt_free_skip (by rfl) ?_
      simp only [Act.put, List.setIfInBounds_toArray, List.set_cons_zero, List.set_cons_succ]
      conv => arg 4; whnf
      conv => arg 4; arg 1; whnf
      refine pt_free_skip (by rfl) ?_
      simp only [Act.put, List.setIfInBounds_toArray, List.set_cons_zero, List.set_cons_succ]
      conv => arg 4; whnf
      conv => arg 4; arg 1; whnf
      refine pt_free_skip (by rfl) ?_
      simp only [Act.put, List.setIfInBounds_toArray, List.set_cons_zero, List.set_cons_succ]
      conv => arg 4; whnf
      conv => arg 4; arg 1; whnf
      refine pt_free_skip (by rfl) ?_
      simp only [Act.put, List.setIfInBounds_toArray, List.set_cons_zero, List.set_cons_succ]
      conv => arg 4; whnf
      conv => arg 4; arg 1; whnf
      refine pt_free_skip (by rfl) ?_
      simp only [Act.put, List.setIfInBounds_toArray, List.set_cons_zero, List.set_cons_succ]
      conv => arg 4; whnf
      conv => arg 4; arg 1; whnf
      refine pt_free_skip (by rfl) ?_
      simp only [Act.put, List.setIfInBounds_toArray, List.set_cons_zero, List.set_cons_succ]
      conv => arg 4; whnf
      conv => arg 4; arg 1; whnf
      refine pt_free_skip (by rfl) ?_
      simp only [Act.put, List.setIfInBounds_toArray, List.set_cons_zero, List.set_cons_succ]
      conv => arg 4; whnf
      conv => arg 4; arg 1; whnf
      refine pt_free_skip (by rfl) ?_
      simp only [Act.put, List.setIfInBounds_toArray, List.set_cons_zero, List.set_cons_succ]
      conv => arg 4; whnf
      conv => arg 4; arg 1; whnf
      refine pt_free_skip (by rfl) ?_
      simp only [Act.put, List.setIfInBounds_toArray, List.set_cons_zero, List.set_cons_succ]
      conv => arg 4; whnf
      conv => arg 4; arg 1; whnf
      refine pt_eff_skip (by rfl) ?_
      simp only [Act.put, List.setIfInBounds_toArray, List.set_cons_zero, List.set_cons_succ]
      conv => arg 4; whnf
      conv => arg 4; arg 1; whnf
      refine pt_eff_skip (by rfl) ?_
      simp only [Act.put, List.setIfInBounds_toArray, List.set_cons_zero, List.set_cons_succ]
      conv => arg 4; whnf
      conv => arg 4; arg 1; whnf
      refine pt_free_skip (by rfl) ?_
      simp only [Act.put, List.setIfInBounds_toArray, List.set_cons_zero, List.set_cons_succ]
      conv => arg 4; whnf
      conv => arg 4; arg 1; whnf
      refine pt_free (by rfl) (fun K hK => ?_)
      go_big_quiet_op
      first | (refine hK _ ?_; clear hK K) | (refine ⟨_, fun _ _ => rfl, hK _ ?_⟩; clear hK K)
      conv => arg 4; whnf
      conv => arg 4; arg 1; whnf
      refine pt_free (by rfl) (fun K hK => ?_)
      go_big_quiet_op
      first | (refine hK _ ?_; clear hK K) | (refine ⟨_, fun _ _ => rfl, hK _ ?_⟩; clear hK K)
      refine pt_nil ?_
      go_wp2
      go_ret
      exact ⟨by first | rfl | (rw [hal]; rfl), hbW.drew⟩
  · have hal := alikeB_neg (p := rowKeys rs) (q := rowKeys ts) HV.out h0
    conv => arg 4; whnf
    conv => arg 4; arg 1; whnf
    refine pt_free (by rfl) (fun K hK => ?_)
    go_big_quiet_op
    first | (refine hK _ ?_; clear hK K) | (refine ⟨_, fun _ _ => rfl, hK _ ?_⟩; clear hK K)
    conv => arg 4; whnf
    conv => arg 4; arg 1; whnf
    refine pt_free (by rfl) (fun K hK => ?_)
    go_big_quiet_op
    first | (refine hK _ ?_; clear hK K) | (refine ⟨_, fun _ _ => rfl, hK _ ?_⟩; clear hK K)
    conv => arg 4; whnf
    conv => arg 4; arg 1; whnf
    refine pt_load (fun W h => load_ints _ _ W h) (p := ⟨w.heap.size + 1 + 1, 0, none⟩) m0 l2 (by rfl) rfl rfl ?_
    simp only [Act.put, List.setIfInBounds_toArray, List.set_cons_zero, List.set_cons_succ]
    conv => arg 4; whnf
    conv => arg 4; arg 1; whnf
    refine pt_free (by rfl) (fun K hK => ?_)
    go_big_quiet_op
    first | (refine hK _ ?_; clear hK K) | (refine ⟨_, fun _ _ => rfl, hK _ ?_⟩; clear hK K)
    conv => arg 4; whnf
    conv => arg 4; arg 1; whnf
    refine pt_free (by rfl) (fun K hK => ?_)
    go_big_quiet_op
    first | (refine hK _ ?_; clear hK K) | (refine ⟨_, fun _ _ => rfl, hK _ ?_⟩; clear hK K)
    conv => arg 4; whnf
    conv => arg 4; arg 1; whnf
    refine pt_free (by rfl) (fun K hK => ?_)
    go_big_quiet_op
    first | (refine hK _ ?_; clear hK K) | (refine ⟨_, fun _ _ => rfl, hK _ ?_⟩; clear hK K)
    conv => arg 4; whnf
    conv => arg 4; arg 1; whnf
    refine pt_free (by rfl) (fun K hK => ?_)
    go_big_quiet_op
    first | (refine hK _ ?_; clear hK K) | (refine ⟨_, fun _ _ => rfl, hK _ ?_⟩; clear hK K)
    conv => arg 4; whnf
    conv => arg 4; arg 1; whnf
    refine pt_load (fun W h => load_ints _ _ W h) (p := ⟨w.heap.size + 1 + 1, 0, none⟩) m0 l2 (by rfl) rfl rfl ?_
    simp only [Act.put, List.setIfInBounds_toArray, List.set_cons_zero, List.set_cons_succ]
    conv => arg 4; whnf
    conv => arg 4; arg 1; whnf
    refine pt_free (by rfl) (fun K hK => ?_)
    go_big_quiet_op
    first | (refine hK _ ?_; clear hK K) | (refine ⟨_, fun _ _ => rfl, hK _ ?_⟩; clear hK K)
    conv => arg 4; whnf
    conv => arg 4; arg 1; whnf
    refine pt_free (by rfl) (fun K hK => ?_)
    go_big_quiet_op
    first | (refine hK _ ?_; clear hK K) | (refine ⟨_, fun _ _ => rfl, hK _ ?_⟩; clear hK K)
    conv => arg 4; whnf
    conv => arg 4; arg 1; whnf
    refine pt_load (fun W h => load_int _ _ W h) (p := adm.add i) hcm lm (by rfl) rfl rfl ?_
    simp only [Act.put, List.setIfInBounds_toArray, List.set_cons_zero, List.set_cons_succ]
    conv => arg 4; whnf
    conv => arg 4; arg 1; whnf
    refine pt_free (by rfl) (fun K hK => ?_)
    go_big_quiet_op
    first | (refine hK _ ?_; clear hK K) | (refine ⟨_, fun _ _ => rfl, hK _ ?_⟩; clear hK K)
    conv => arg 4; whnf
    conv => arg 4; arg 1; whnf
    refine pt_free (by rfl) (fun K hK => ?_)
    go_big_quiet_op
    first | (refine hK _ ?_; clear hK K) | (refine ⟨_, fun _ _ => rfl, hK _ ?_⟩; clear hK K)
    conv => arg 4; whnf
    conv => arg 4; arg 1; whnf
    refine pt_free (by rfl) (fun K hK => ?_)
    go_big_quiet_op
    first | (refine hK _ ?_; clear hK K) | (refine ⟨_, fun _ _ => rfl, hK _ ?_⟩; clear hK K)
    conv => arg 4; whnf
    conv => arg 4; arg 1; whnf
    refine pt_free_skip (by rfl) ?_
    simp only [Act.put, List.setIfInBounds_toArray, List.set_cons_zero, List.set_cons_succ]
    conv => arg 4; whnf
    conv => arg 4; arg 1; whnf
    refine pt_free_skip (by rfl) ?_
    simp only [Act.put, List.setIfInBounds_toArray, List.set_cons_zero, List.set_cons_succ]
    conv => arg 4; whnf
    conv => arg 4; arg 1; whnf
    refine pt_free_skip (by rfl) ?_
    simp only [Act.put, List.setIfInBounds_toArray, List.set_cons_zero, List.set_cons_succ]
    conv => arg 4; whnf
    conv => arg 4; arg 1; whnf
    refine pt_free_skip (by rfl) ?_
    simp only [Act.put, List.setIfInBounds_toArray, List.set_cons_zero, List.set_cons_succ]
    conv => arg 4; whnf
    conv => arg 4; arg 1; whnf
    refine pt_free_skip (by rfl) ?_
    simp only [Act.put, List.setIfInBounds_toArray, List.set_cons_zero, List.set_cons_succ]
    conv => arg 4; whnf
    conv => arg 4; arg 1; whnf
    refine pt_free_skip (by rfl) ?_
    simp only [Act.put, List.setIfInBounds_toArray, List.set_cons_zero, List.set_cons_succ]
    conv => arg 4; whnf
    conv => arg 4; arg 1; whnf
    refine pt_free_skip (by rfl) ?_
    simp only [Act.put, List.setIfInBounds_toArray, List.set_cons_zero, List.set_cons_succ]
    conv => arg 4; whnf
    conv => arg 4; arg 1; whnf
    refine pt_free_skip (by rfl) ?_
    simp only [Act.put, List.setIfInBounds_toArray, List.set_cons_zero, List.set_cons_succ]
    conv => arg 4; whnf
    conv => arg 4; arg 1; whnf
    refine pt_free_skip (by rfl) ?_
    simp only [Act.put, List.setIfInBounds_toArray, List.set_cons_zero, List.set_cons_succ]
    conv => arg 4; whnf
    conv => arg 4; arg 1; whnf
    refine pt_free (by rfl) (fun K hK => ?_)
    go_big_quiet_op
    first | (refine hK _ ?_; clear hK K) | (refine ⟨_, fun _ _ => rfl, hK _ ?_⟩; clear hK K)
    conv => arg 4; whnf
    conv => arg 4; arg 1; whnf
    refine pt_free (by rfl) (fun K hK => ?_)
    go_big_quiet_op
    first | (refine hK _ ?_; clear hK K) | (refine ⟨_, fun _ _ => rfl, hK _ ?_⟩; clear hK K)
    conv => arg 4; whnf
    conv => arg 4; arg 1; whnf
    refine pt_free_skip (by rfl) ?_
    simp only [Act.put, List.setIfInBounds_toArray, List.set_cons_zero, List.set_cons_succ]
    conv => arg 4; whnf
    conv => arg 4; arg 1; whnf
    refine pt_free_skip (by rfl) ?_
    simp only [Act.put, List.setIfInBounds_toArray, List.set_cons_zero, List.set_cons_succ]
    conv => arg 4; whnf
    conv => arg 4; arg 1; whnf
    refine pt_free_skip (by rfl) ?_
    simp only [Act.put, List.setIfInBounds_toArray, List.set_cons_zero, List.set_cons_succ]
    conv => arg 4; whnf
    conv => arg 4; arg 1; whnf
    refine pt_free_skip (by rfl) ?_
    simp only [Act.put, List.setIfInBounds_toArray, List.set_cons_zero, List.set_cons_succ]
    conv => arg 4; whnf
    conv => arg 4; arg 1; whnf
    refine pt_free_skip (by rfl) ?_
    simp only [Act.put, List.setIfInBounds_toArray, List.set_cons_zero, List.set_cons_succ]
    conv => arg 4; whnf
    conv => arg 4; arg 1; whnf
    refine pt_free_skip (by rfl) ?_
    simp only [Act.put, List.setIfInBounds_toArray, List.set_cons_zero, List.set_cons_succ]
    conv => arg 4; whnf
    conv => arg 4; arg 1; whnf
    refine pt_free_skip (by rfl) ?_
    simp only [Act.put, List.setIfInBounds_toArray, List.set_cons_zero, List.set_cons_succ]
    conv => arg 4; whnf
    conv => arg 4; arg 1; whnf
    refine pt_free_skip (by rfl) ?_
    simp only [Act.put, List.setIfInBounds_toArray, List.set_cons_zero, List.set_cons_succ]
    conv => arg 4; whnf
    conv => arg 4; arg 1; whnf
    refine pt_free_skip (by rfl) ?_
    simp only [Act.put, List.setIfInBounds_toArray, List.set_cons_zero, List.set_cons_succ]
    conv => arg 4; whnf
    conv => arg 4; arg 1; whnf
    refine pt_free_skip (by rfl) ?_
    simp only [Act.put, List.setIfInBounds_toArray, List.set_cons_zero, List.set_cons_succ]
    conv => arg 4; whnf
    conv => arg 4; arg 1; whnf
    refine pt_free_skip (by rfl) ?_
    simp only [Act.put, List.setIfInBounds_toArray, List.set_cons_zero, List.set_cons_succ]
    conv => arg 4; whnf
    conv => arg 4; arg 1; whnf
    refine pt_free_skip (by rfl) ?_
    simp only [Act.put, List.setIfInBounds_toArray, List.set_cons_zero, List.set_cons_succ]
    conv => arg 4; whnf
    conv => arg 4; arg 1; whnf
    refine pt_free_skip (by rfl) ?_
    simp only [Act.put, List.setIfInBounds_toArray, List.set_cons_zero, List.set_cons_succ]
    conv => arg 4; whnf
    conv => arg 4; arg 1; whnf
    refine pt_free_skip (by rfl) ?_
    simp only [Act.put, List.setIfInBounds_toArray, List.set_cons_zero, List.set_cons_succ]
    conv => arg 4; whnf
    conv => arg 4; arg 1; whnf
    refine pt_eff_skip (by rfl) ?_
    simp only [Act.put, List.setIfInBounds_toArray, List.set_cons_zero, List.set_cons_succ]
    conv => arg 4; whnf
    conv => arg 4; arg 1; whnf
    refine pt_eff_skip (by rfl) ?_
    simp only [Act.put, List.setIfInBounds_toArray, List.set_cons_zero, List.set_cons_succ]
    conv => arg 4; whnf
    conv => arg 4; arg 1; whnf
    refine pt_free_skip (by rfl) ?_
    simp only [Act.put, List.setIfInBounds_toArray, List.set_cons_zero, List.set_cons_succ]
    conv => arg 4; whnf
    conv => arg 4; arg 1; whnf
    refine pt_free (by rfl) (fun K hK => ?_)
    go_big_quiet_op
    first | (refine hK _ ?_; clear hK K) | (refine ⟨_, fun _ _ => rfl, hK _ ?_⟩; clear hK K)
    conv => arg 4; whnf
    conv => arg 4; arg 1; whnf
    refine pt_free (by rfl) (fun K hK => ?_)
    go_big_quiet_op
    first | (refine hK _ ?_; clear hK K) | (refine ⟨_, fun _ _ => rfl, hK _ ?_⟩; clear hK K)
    refine pt_nil ?_
    go_wp2
    go_ret
    exact ⟨by first | rfl | (rw [hal]; rfl), hbW.drew⟩
end Go.Proofs.Ythoccmgfpjfkoaa
