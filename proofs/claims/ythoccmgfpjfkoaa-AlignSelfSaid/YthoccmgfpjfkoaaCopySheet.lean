/- The walks of chequerref7.CopySheet, Same. Written by copygen.py. -/
import Derived.Test.YthoccmgfpjfkoaaOwnRows
namespace Go.Proofs.Ythoccmgfpjfkoaa
open Go.RowKit

theorem sheet_store {W : World} {O : Nat} {a b c x y z : Value} (h : W.heap[O]? = some (.cells #[a, b, c] 24 (0, 0))) : (((W.setCell ⟨O, 0, none⟩ x).setCell ⟨O, 1, none⟩ y).setCell ⟨O, 2, none⟩ z).heap[O]? = some (.cells #[x, y, z] 24 (0, 0)) := by
  simp [World.setCell, Array.getElem?_modify, h]
theorem sheet_store2 {W : World} {O : Nat} {a b c z : Value} (h : W.heap[O]? = some (.cells #[a, b, c] 24 (0, 0))) : (W.setCell ⟨O, 2, none⟩ z).heap[O]? = some (.cells #[a, b, z] 24 (0, 0)) := by
  simp [World.setCell, Array.getElem?_modify, h]
theorem sheet3f {w1 : World} {g : Nat} {a b c : Value} {t : TypeId} (z : w1.heap[g]? = some (.cells #[a, b, c] t (0, 0))) : w1.frozen? ⟨g, 0, none⟩ = false ∧ w1.frozen? ⟨g, 1, none⟩ = false ∧ w1.frozen? ⟨g, 2, none⟩ = false :=
  ⟨by simp [World.frozen?, z], by simp [World.frozen?, z], by simp [World.frozen?, z]⟩
theorem apart_new {W : World} {base : Nat} {rs : List SRow} {v x : Value} {G : Nat} (h : OwnRows W base v rs) (hG : W.heap.size ≤ G) (hx : ∀ k, x.ownBlock = some k → G ≤ k) : ∀ r ∈ rs, Apart (vRow r) x := fun r hr k hk hk' => by
  have := ((h.row r hr).lt k hk).2
  have := hx k hk'
  omega
theorem run_minB {P : Program} (ts : Array TypeId) (t : TypeId) (k k' : IntKind) (x y : Int) (w : World) : (Builtin.min_ ts t #[.int k x, .int k' y]).run P w = .ok (.int k (min x y)) w := by
  rw [run_min_int2]
  congr 2
  split <;> omega
def CopyPost (w : World) (name : ByteArray) (cols : Int) (rs : List SRow) (e : Ending) (w' : World) : Prop :=
  ∃ A c ts, e = .returned (.agg #[.string name, .int .i64 cols, .slice A (List.length ts) c]) ∧ OwnRows w' w.heap.size (.slice A ts.length c) ts ∧ Same ts rs ∧ Below w.heap.size w w'

set_option maxRecDepth 100000 in
set_option maxHeartbeats 2000000 in
theorem copySheet_any (w : World) (A : Option Addr) (rs : List SRow) (n c : Nat) (name : ByteArray) (cols : Int) (hn : rs.length = n) (hA : Grid w A rs) (hm : Mild rs) :
    Calls Try.prog 24 #[.agg #[.string name, .int .i64 cols, .slice A n c]] w (CopyPost w name cols rs) := by
  subst hn
  have HM := Lib.hid hm
  have HA := Lib.hid hA
  have hm1 := hm.1
  clear hA hm
  go_enter Try.func24, Try.ntmps24
  go_wp2
  obtain ⟨W, hW⟩ : ∃ W, W = (((w.alloc (.cells #[.string name, .int .i64 cols, .slice A rs.length c] 24)).alloc (.cells #[.string ⟨#[]⟩, .int .i64 0, .slice none 0 0] 24)).alloc (.cells #[.string name, .int .i64 cols, .slice none 0 0] 24)) := ⟨_, rfl⟩
  have hs0 := heap_alloc_new w (.cells #[.string name, .int .i64 cols, .slice A rs.length c] 24)
  have hs1 := heap_alloc_new (w.alloc (.cells #[.string name, .int .i64 cols, .slice A rs.length c] 24)) (.cells #[.string ⟨#[]⟩, .int .i64 0, .slice none 0 0] 24)
  rw [World.size_alloc] at hs1
  have hs2 := heap_alloc_new ((w.alloc (.cells #[.string name, .int .i64 cols, .slice A rs.length c] 24)).alloc (.cells #[.string ⟨#[]⟩, .int .i64 0, .slice none 0 0] 24)) (.cells #[.string name, .int .i64 cols, .slice none 0 0] 24)
  rw [World.size_alloc, World.size_alloc] at hs2
  have hS0 : W.heap[w.heap.size]? = some (.cells #[.string name, .int .i64 cols, .slice A rs.length c] 24 (0, 0)) := by rw [hW]; exact (Below.heap_alloc _ _ _ (by simp; try omega)).trans ((Below.heap_alloc _ _ _ (by simp; try omega)).trans (hs0))
  have hR : W.heap[w.heap.size + 1]? = some (.cells #[.string ⟨#[]⟩, .int .i64 0, .slice none 0 0] 24 (0, 0)) := by rw [hW]; exact (Below.heap_alloc _ _ _ (by simp; try omega)).trans (hs1)
  have hT : W.heap[w.heap.size + 1 + 1]? = some (.cells #[.string name, .int .i64 cols, .slice none 0 0] 24 (0, 0)) := by rw [hW]; exact hs2
  have hsW : W.heap.size = w.heap.size + 3 := by rw [hW]; simp
  have hbW : Below w.heap.size w W := by rw [hW]; exact (((Below.refl _ _).alloc (Nat.le_refl _) _).alloc (by simp; try omega) _).alloc (by simp; try omega) _
  rw [← hW]
  clear hW hs0 hs1 hs2
  obtain ⟨O, hO⟩ : ∃ O, w.heap.size + 1 + 1 = O := ⟨_, rfl⟩
  have hOn : O ≠ w.heap.size ∧ O ≠ w.heap.size + 1 ∧ w.heap.size ≤ O ∧ O < W.heap.size := by omega
  rw [hO] at hT ⊢
  clear hO
  go_loopw [4] (fun i wr => ∃ (k : Nat) (v : Value) (ts : List SRow), k ≤ rs.length ∧ i = .int .i64 k ∧ wr.heap[O]? = some (.cells #[.string name, .int .i64 cols, v] 24 (0, 0)) ∧ OwnRows wr (w.heap.size + 3) v ts ∧ Same ts (rs.take k) ∧ w.heap.size + 3 ≤ wr.heap.size ∧ wr.heap[w.heap.size]? = some (.cells #[.string name, .int .i64 cols, .slice A rs.length c] 24 (0, 0)) ∧ wr.heap[w.heap.size + 1]? = some (.cells #[.string ⟨#[]⟩, .int .i64 0, .slice none 0 0] 24 (0, 0)) ∧ Below w.heap.size w wr) (fun i _ => rs.length - (intOf i).toNat)
  case atStart => exact ⟨0, _, [], Nat.zero_le _, rfl, hT, OwnRows.nil, rfl, by omega, hS0, hR, hbW⟩
  case round =>
    obtain ⟨k, v, ts, hk, rfl, hTO, HOW, hsame, hsz, hS1, hR1, hb'⟩ := hrel
    obtain ⟨_, _, x2⟩ := sheet3 hS1
    obtain ⟨t0, t1, t2⟩ := sheet3 hTO
    obtain ⟨z0, z1, z2⟩ := sheet3f hTO
    have HSM := Lib.hid hsame
    have hlen : ts.length ≤ rs.length := by have := hsame.len; rw [List.length_take] at this; omega
    clear hsame
    by_cases hlt : k < rs.length
    · obtain ⟨ad, hae, hc⟩ := (HA.out.below hb').top.at_ hlt
      have hrw := (HA.out.below hb').row rs[k] (List.getElem_mem _)
      have hms := HM.out.2 rs[k] (List.getElem_mem _)
      have hsn : Hid (rs.take (k + 1) = rs.take k ++ [rs[k]]) := take_snoc hlt
      generalize rs[k] = r at hc hrw hms hsn
      obtain ⟨rA, rl, rc⟩ := r
      subst hae
      dsimp only [vRow] at hc hrw hms hsn
      have HRW := Lib.hid hrw
      have hml := hms.1
      have hkz : (k : Int) < (rs.length : Int) := by omega
      have l0 : w.heap.size < wr.drew.heap.size := by show _ < wr.heap.size; omega
      have lO : O < wr.drew.heap.size := by show _ < wr.heap.size; omega
      have lc : (ad.add k).block < wr.drew.heap.size := World.block_lt_of_cell? wr _ hc
      obtain ⟨A1, c1, rfl⟩ := HOW.form
      clear hrw hms
      go_wp2
      refine wp_region_tree [10, 11, 12] (.free 0 (.free 1 (.free 3 (.free 4 (.free 5 (.free 6 (.free 7 (.eff 2 (.eff 8 (.eff 9 (.last 10 (.last 11 (.last 12 (.nil)))))))))))))) (by kernel_rfl) (by kernel_rfl) (fun _ _ d _ _ h => by cases d <;> exact h) ?_
      conv => arg 4; whnf
      conv => arg 4; arg 1; whnf
      refine pt_free (by rfl) (fun K hK => ?_)
      go_big_quiet_op
      first | (refine hK _ ?_; clear hK K) | (refine ⟨_, fun _ _ => rfl, hK _ ?_⟩; clear hK K)
      conv => arg 4; whnf
      conv => arg 4; arg 1; whnf
      refine pt_load (fun W h => load_rows _ _ W h) (p := ⟨O, 2, none⟩) t2 lO (by rfl) rfl rfl ?_
      simp only [Act.put, List.setIfInBounds_toArray, List.set_cons_zero, List.set_cons_succ]
      conv => arg 4; whnf
      conv => arg 4; arg 1; whnf
      refine pt_free (by rfl) (fun K hK => ?_)
      go_big_quiet_op
      first | (refine hK _ ?_; clear hK K) | (refine ⟨_, fun _ _ => rfl, hK _ ?_⟩; clear hK K)
      conv => arg 4; whnf
      conv => arg 4; arg 1; whnf
      refine pt_load (fun W h => load_rows _ _ W h) (p := ⟨w.heap.size, 2, none⟩) x2 l0 (by rfl) rfl rfl ?_
      simp only [Act.put, List.setIfInBounds_toArray, List.set_cons_zero, List.set_cons_succ]
      conv => arg 4; whnf
      conv => arg 4; arg 1; whnf
      refine pt_free (by rfl) (fun K hK => ?_)
      go_big_quiet_op
      first | (refine hK _ ?_; clear hK K) | (refine ⟨_, fun _ _ => rfl, hK _ ?_⟩; clear hK K)
      conv => arg 4; whnf
      conv => arg 4; arg 1; whnf
      refine pt_free (by rfl) (fun K hK => ?_)
      go_big_quiet_op
      first | (refine hK _ ?_; clear hK K) | (refine ⟨_, fun _ _ => rfl, hK _ ?_⟩; clear hK K)
      conv => arg 4; whnf
      conv => arg 4; arg 1; whnf
      refine pt_load (fun W h => load_strs _ _ W h) (p := ad.add k) hc lc (by rfl) rfl rfl ?_
      simp only [Act.put, List.setIfInBounds_toArray, List.set_cons_zero, List.set_cons_succ]
      have O1 := HOW.keep (W' := wr.drew) (Below.refl _ _).drew
      have T1 : wr.drew.heap[O]? = some (.cells #[.string name, .int .i64 cols, .slice A1 ts.length c1] 24 (0, 0)) := hTO
      have S1 : wr.drew.heap[w.heap.size]? = _ := hS1
      have R1 : wr.drew.heap[w.heap.size + 1]? = _ := hR1
      have hbd : Below w.heap.size w wr.drew := hb'.drew
      have hsd : w.heap.size + 3 ≤ wr.drew.heap.size := hsz
      have A1r := HRW.out.below (w' := wr.drew) (Below.refl _ _).drew
      generalize wr.drew = wd at *
      clear hTO x2 t0 t1 t2 z0 z1 z2 HOW hb' hc HRW hS1 hR1 l0 lO lc hsz
      conv => arg 4; whnf
      conv => arg 4; arg 1; whnf
      refine pt_eff (by rfl) (fun K hK => ?_)
      go_wp2
      refine hK _ _ ((Below.refl _ _).alloc (Nat.le_refl _) _) ?_
      clear hK K
      obtain ⟨G, hGe⟩ : ∃ G, wd.heap.size = G := ⟨_, rfl⟩
      obtain ⟨Wa, hWa⟩ : ∃ Wa, Wa = wd.alloc (.cells #[] 9) := ⟨_, rfl⟩
      have ea : Below wd.heap.size wd Wa := by rw [hWa]; exact (Below.refl _ _).alloc (Nat.le_refl _) _
      have hGa : Wa.heap[G]? = some (.cells #[] 9 (0, 0)) := by rw [hWa, ← hGe]; exact heap_alloc_new _ _
      have hGl : w.heap.size + 3 ≤ G := by omega
      have hGd : wd.heap.size ≤ G := by omega
      have hGs : G < Wa.heap.size := (Array.getElem?_eq_some_iff.1 hGa).1
      rw [← hWa, hGe]
      clear hWa hGe
      conv => arg 4; whnf
      conv => arg 4; arg 1; whnf
      refine pt_eff (by rfl) (fun K hK => ?_)
      refine wp_appLit (base := G) eStr (by rfl) (by rfl) hGa (Nat.le_refl _) (by rfl) rfl (A1r.below ea) (by omega) (fun v1 Wb hv1 q1 => ?_)
      obtain ⟨A2, c2, rfl, _⟩ := own_form hv1
      refine hK _ _ q1 ?_
      clear hK K
      simp only [Act.put, List.setIfInBounds_toArray, List.set_cons_zero, List.set_cons_succ]
      have eb : Below wd.heap.size wd Wb := ea.trans (q1.mono ea.size)
      have hsb := eb.size
      have O2 := O1.keep eb
      have T2 := (eb.block O (by omega)).trans T1
      have S2 := (eb.block w.heap.size (by omega)).trans S1
      have R2 := (eb.block (w.heap.size + 1) (by omega)).trans R1
      have hbb := hbd.trans (eb.mono hbd.size)
      have hap := apart_new (W := wd) (x := vRow ⟨A2, rl, c2⟩) (G := G) O1 hGd (fun k hk => (hv1.lt k hk).1)
      have hv2 : Wb.ownsRow (w.heap.size + 3) 9 1 (vRow ⟨A2, rl, c2⟩) rl.length (rl.map vStr) := own_base hv1 hGl
      clear ea q1 hGa eb O1 T1 S1 R1 hbd hv1 A1r hGs hGd
      conv => arg 4; whnf
      conv => arg 4; arg 1; whnf
      refine pt_eff (by rfl) (fun K hK => ?_)
      go_wp2
      refine hK _ _ ((Below.refl _ _).alloc (Nat.le_refl _) _) ?_
      clear hK K
      conv => arg 4; whnf
      conv => arg 4; arg 1; whnf
      refine pt_last (by rfl) (fun K hK => ?_)
      refine wp_app1 eRow (by rfl) O2.top (by rfl) (by rfl) (by first | rfl | (rw [World.size_alloc])) rfl (by omega) (by omega) (fun v2 W3 hown3 hg3 hk3 => ?_)
      obtain ⟨A3, c3, rfl, _⟩ := own_form hown3
      refine hK _ _ ?_
      clear hK K
      simp only [Act.put, List.setIfInBounds_toArray, List.set_cons_zero, List.set_cons_succ]
      have hown4 : W3.ownsRow (w.heap.size + 3) 26 1 _ (ts.length + 1) (ts.map vRow ++ [vRow ⟨A2, rl, c2⟩]) := hown3
      have O3 := O2.append hv2 hap hown4 hg3
      have T3 := grown_block O2.top T2 (by decide) hg3
      have hne : ∀ p : Nat, p < w.heap.size + 3 → some p ≠ (Value.slice A1 ts.length c1).ownBlock := fun p hp e => by have := (O2.top.lt p e.symm).1; omega
      have S3 := (hg3.block w.heap.size (by omega) (hne _ (by omega))).trans S2
      have R3 := (hg3.block (w.heap.size + 1) (by omega) (hne _ (by omega))).trans R2
      have hb3 := below_grown hbb O2.top hg3 (by omega) (by omega)
      have hs3 : w.heap.size + 3 ≤ W3.heap.size := by have := hg3.size; omega
      obtain ⟨y0, y1, y2⟩ := sheet3 T3
      obtain ⟨z0, z1, z2⟩ := sheet3f T3
      conv => arg 4; whnf
      conv => arg 4; arg 1; whnf
      refine pt_last (by rfl) (fun K hK => ?_)
      go_wp2
      conv => arg 4; whnf
      conv => arg 4; arg 1; whnf
      refine pt_last (by rfl) (fun K hK => ?_)
      go_wp2
      refine pt_nil ?_
      go_wp2
      go_roundw
      case rel =>
        refine ⟨k + 1, _, ts ++ [⟨A2, rl, c2⟩], by omega, by go_num, sheet_store2 T3, O3.setCell T3 (by decide) (by decide) _, ?_, by simpa using hs3, (blkSet (by show w.heap.size ≠ O; omega)).trans S3, (blkSet (by show w.heap.size + 1 ≠ O; omega)).trans R3, hb3.setCell (p := ⟨O, 2, none⟩) hOn.2.2.1 _⟩
        show (ts ++ [(⟨A2, rl, c2⟩ : SRow)]).map SRow.l = (rs.take (k + 1)).map SRow.l
        rw [hsn.out, List.map_append, List.map_append, show ts.map SRow.l = (rs.take k).map SRow.l from HSM.out]
        rfl
      case measure => first | (simp [intOf]; done) | (simp [intOf]; omega)
    · obtain rfl : k = rs.length := by omega
      obtain ⟨A1, c1, rfl⟩ := HOW.form
      obtain ⟨r0, r1, r2⟩ := sheet3 hR1
      obtain ⟨s0, s1, s2⟩ := sheet3f hR1
      go_wp2
      generalize hWz : (((wr.setCell _ _).setCell _ _).setCell _ _) = Wz
      have hz : Wz.heap[w.heap.size + 1]? = some (.cells #[.string name, .int .i64 cols, .slice A1 ts.length c1] 24 (0, 0)) := by rw [← hWz]; exact sheet_store hR1
      have HO1 := HOW.setCell (o := 0) hR1 (by decide) (by decide) (.string name)
      have hR2 : (wr.setCell ⟨w.heap.size + 1, 0, none⟩ (.string name)).heap[w.heap.size + 1]? = some (.cells #[.string name, .int .i64 0, .slice none 0 0] 24 (0, 0)) := by simp [World.setCell, Array.getElem?_modify, hR1]
      have HO2 := HO1.setCell (o := 1) hR2 (by decide) (by decide) (.int .i64 cols)
      have hR3 : ((wr.setCell ⟨w.heap.size + 1, 0, none⟩ (.string name)).setCell ⟨w.heap.size + 1, 1, none⟩ (.int .i64 cols)).heap[w.heap.size + 1]? = some (.cells #[.string name, .int .i64 cols, .slice none 0 0] 24 (0, 0)) := by simp [World.setCell, Array.getElem?_modify, hR1]
      have HO3 := HO2.setCell (o := 2) hR3 (by decide) (by decide) (.slice A1 ts.length c1)
      have hbz : Below w.heap.size w Wz := by
        rw [← hWz]
        exact ((hb'.setCell (by show w.heap.size ≤ w.heap.size + 1; omega) _).setCell (by show w.heap.size ≤ w.heap.size + 1; omega) _).setCell (by show w.heap.size ≤ w.heap.size + 1; omega) _
      rw [hWz] at HO3
      obtain ⟨q0, q1, q2⟩ := sheet3 hz
      refine bodyPost_ret (v := .agg #[.string name, .int .i64 cols, .slice A1 ts.length c1]) ?_ rfl ?_
      · simp [results, Try.f24, go_sem, q0, q1, q2]
      · exact ⟨A1, c1, ts, rfl, HO3.base_ (by omega), by have := HSM.out; rwa [List.take_length] at this, hbz⟩

set_option maxRecDepth 100000 in
set_option maxHeartbeats 2000000 in
theorem same_any (w : World) (n : Nat) (hn : n ≤ 1000) :
    Calls Try.prog 23 #[.int .i64 n] w fun e w' => ∃ A c, e = .returned (.agg #[.slice A n c, .int .i64 n]) ∧ w'.ownsRow w.heap.size 3 1 (.slice A n c) n (((List.range n).map fun i : Nat => (i : Int)).map vInt) ∧ Below w.heap.size w w' := by
  have hmax := @run_max2 Try.prog
  have hmin := @run_minB Try.prog
  have e1 : min (n : Int) 1048576 = n := by omega
  have e2 : max 0 (n : Int) = n := by omega
  go_enter Try.func23, Try.ntmps23
  go_wp2
  obtain ⟨W1, hW1⟩ : ∃ W1, W1 = (w.alloc (.cells #[.slice none 0 0, .int .i64 0] 30)).alloc (.cells #[.slice none 0 0, .int .i64 n] 30) := ⟨_, rfl⟩
  have F1 : RSt w w.heap.size (w.heap.size + 1) (.slice none 0 0) 0 n [] W1 := by
    rw [hW1]
    have e1 := heap_alloc_new w (.cells #[.slice none 0 0, .int .i64 0] 30)
    have e2 := heap_alloc_new (w.alloc (.cells #[.slice none 0 0, .int .i64 0] 30)) (.cells #[.slice none 0 0, .int .i64 n] 30)
    rw [World.size_alloc] at e2
    exact ⟨e2, (Below.heap_alloc _ _ _ (by simp)).trans e1, World.ownsRow_nil _ _ _ _, ((Below.refl _ _).alloc (Nat.le_refl _) _).alloc (by simp) _, by omega⟩
  rw [← hW1]
  clear hW1 hmax hmin e1 e2
  obtain ⟨O, hOe⟩ : ∃ O, w.heap.size + 1 = O := ⟨_, rfl⟩
  rw [hOe] at F1 ⊢
  clear hOe
  go_loopw [5] (fun i wr => ∃ (k : Nat) (A : Option Addr) (c : Nat), k ≤ n ∧ i = .int .i64 k ∧ RSt w w.heap.size O (.slice A k c) k n ((List.range k).map fun i : Nat => (i : Int)) wr) (fun i _ => n - (intOf i).toNat)
  case atStart => exact ⟨0, none, 0, Nat.zero_le _, rfl, F1⟩
  case round =>
    clear F1
    obtain ⟨k, A, c, hk, rfl, F⟩ := hrel
    obtain ⟨f0, f1, f2, f3, f4, f5, f6⟩ := F.facts
    by_cases hlt : k < n
    · go_wp2_with (at_builtin; refine wpList_app1 eInt rfl rfl F.own rfl rfl (by first | rfl | simp) rfl (by omega) F.below.size ?_; intro v1 w1 hown1 hg1 hk1; obtain ⟨F2, y0, y1⟩ := F.append hown1 hg1; obtain ⟨A1, c1, rfl, _⟩ := own_form hown1)
      go_roundw
      case rel => exact ⟨k + 1, A1, c1, by omega, by go_num, by rw [List.range_succ, List.map_append]; exact F2⟩
      case measure => first | (simp [intOf]; done) | (simp [intOf]; omega)
    · obtain rfl : k = n := by omega
      go_wp2
      obtain ⟨q0, q1, q2, q3⟩ := RSt.result (M := k) F.res F.own F.below (Nat.le_refl _)
      refine bodyPost_ret (v := .agg #[.slice A k c, .int .i64 k]) ?_ rfl ?_
      · simp [results, Try.f23, go_sem, q0, q1]
      · exact ⟨_, _, rfl, q2, q3⟩
end Go.Proofs.Ythoccmgfpjfkoaa
