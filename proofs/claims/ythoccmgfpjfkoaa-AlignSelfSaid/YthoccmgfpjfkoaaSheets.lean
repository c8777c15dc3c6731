/- The walks of align.Sheets, chequerref15.Sheets. Written by sheetsgen.py. -/
import Derived.Test.YthoccmgfpjfkoaaAlignCols
namespace Go.Proofs.Ythoccmgfpjfkoaa
open Go.RowKit

theorem load_map (k : Nat) (W : World) (v M : Value) (h : W.heap[k]? = some (.cells #[v, M] 30 (0, 0))) :
    (Instr.loadAt 30 (.pointer (some ⟨k, 0, none⟩))).run Try.prog W = .ok (.agg #[v, M]) W := by
  obtain ⟨h0, h1, _⟩ := zfacts h
  simp [go_sem, h0, h1]
theorem shift6 {w1 : World} {g : Nat} {a b c d e f : Value} {t : TypeId} (z : w1.heap[g]? = some (.cells #[a, b, c, d, e, f] t (0, 0))) :
    w1.cell? ⟨g, 0, none⟩ = some a ∧ w1.cell? ⟨g, 1, none⟩ = some b ∧ w1.cell? ⟨g, 2, none⟩ = some c ∧ w1.cell? ⟨g, 3, none⟩ = some d ∧ w1.cell? ⟨g, 4, none⟩ = some e ∧ w1.cell? ⟨g, 5, none⟩ = some f ∧
    w1.frozen? ⟨g, 0, none⟩ = false ∧ w1.frozen? ⟨g, 1, none⟩ = false ∧ w1.frozen? ⟨g, 2, none⟩ = false ∧ w1.frozen? ⟨g, 3, none⟩ = false ∧ w1.frozen? ⟨g, 4, none⟩ = false ∧ w1.frozen? ⟨g, 5, none⟩ = false :=
  ⟨by simp [World.cell?, z], by simp [World.cell?, z], by simp [World.cell?, z], by simp [World.cell?, z], by simp [World.cell?, z], by simp [World.cell?, z],
    by simp [World.frozen?, z], by simp [World.frozen?, z], by simp [World.frozen?, z], by simp [World.frozen?, z], by simp [World.frozen?, z], by simp [World.frozen?, z]⟩
theorem alignCols_rd (w : World) (A B : Option Addr) (rs ts : List SRow) (c d : Nat) (name name2 : ByteArray) (ca cb : Nat) (M : Option Addr) (ms : List Int) (q cm : Nat) (N : Int) (hq : ms.length = q)
    (hA : Grid w A rs) (hB : Grid w B ts) (hma : Mild rs) (hmb : Mild ts) (hwa : Wide rs ca) (hwb : Wide ts cb) (hM : At1 vInt w M ms) (hml : q = rs.length) (hca : ca ≤ 200) (hcb : cb ≤ 200) :
    Calls Try.prog 20 #[.agg #[.string name, .int .i64 ca, .slice A rs.length c], .agg #[.string name2, .int .i64 cb, .slice B ts.length d], .agg #[.slice M q cm, .int .i64 N]] w fun e w' =>
      ∃ Z c2, e = .returned (.agg #[.slice Z ca c2, .int .i64 cb]) ∧ At1 vInt w' Z (colsOf rs ts ms ca cb) ∧ (∀ ad, Z = some ad → w.heap.size ≤ ad.block) ∧ Below w.heap.size w w' := by
  subst hq
  refine (alignCols_any w A B rs ts c d name name2 ca cb M ms cm N hA hB hma hmb hwa hwb hM hml hca hcb).mono ?_
  rintro e w' ⟨Z, c2, rfl, h, hb⟩
  exact ⟨Z, c2, rfl, At1.of_own h (by have : ((colsOf rs ts ms ca cb).map vInt).length = ca := by simpa using h.1
                                      simp at this; omega), fun ad e => by subst e; exact (h.lt _ rfl).1, hb⟩
theorem rcols_rd (w : World) (A B : Option Addr) (rs ts : List SRow) (c d : Nat) (name name2 : ByteArray) (ca cb : Nat) (M : Option Addr) (ms : List Int) (q cm : Nat) (N : Int) (hq : ms.length = q)
    (hA : Grid w A rs) (hB : Grid w B ts) (hma : Mild rs) (hmb : Mild ts) (hwa : Wide rs ca) (hwb : Wide ts cb) (hM : At1 vInt w M ms) (hml : q = rs.length) (hca : ca ≤ 200) (hcb : cb ≤ 200) :
    Calls Try.prog 21 #[.agg #[.string name, .int .i64 ca, .slice A rs.length c], .agg #[.string name2, .int .i64 cb, .slice B ts.length d], .agg #[.slice M q cm, .int .i64 N]] w fun e w' =>
      ∃ Z c2, e = .returned (.agg #[.slice Z ca c2, .int .i64 cb]) ∧ At1 vInt w' Z (colsOf rs ts ms ca cb) ∧ (∀ ad, Z = some ad → w.heap.size ≤ ad.block) ∧ Below w.heap.size w w' := by
  subst hq
  refine (rcols_any w A B rs ts c d name name2 ca cb M ms cm N hA hB hma hmb hwa hwb hM hml hca hcb).mono ?_
  rintro e w' ⟨Z, c2, rfl, h, hb⟩
  exact ⟨Z, c2, rfl, At1.of_own h (by have : ((colsOf rs ts ms ca cb).map vInt).length = ca := by simpa using h.1
                                      simp at this; omega), fun ad e => by subst e; exact (h.lt _ rfl).1, hb⟩
theorem alignRows_rd (w : World) (A B : Option Addr) (rs ts : List SRow) (c d : Nat) (name name2 : ByteArray) (cols cols2 : Int) (hA : Grid w A rs) (hB : Grid w B ts) (hma : Mild rs) (hmb : Mild ts) :
    Calls Try.prog 10 #[.agg #[.string name, .int .i64 cols, .slice A rs.length c], .agg #[.string name2, .int .i64 cols2, .slice B ts.length d]] w fun e w' =>
      ∃ Z c, e = .returned (.agg #[.slice Z rs.length c, .int .i64 ts.length]) ∧ At1 vInt w' Z (rowsOf (rowKeys rs) (rowKeys ts)) ∧ (∀ ad, Z = some ad → w.heap.size ≤ ad.block) ∧ Below w.heap.size w w' := by
  refine (alignRows_any w A B rs ts _ _ c d name name2 cols cols2 rfl rfl hA hB hma hmb).mono ?_
  rintro e w' ⟨Z, c2, rfl, h, hb⟩
  exact ⟨Z, c2, rfl, At1.of_own h (by rw [rowsOf_len, rowKeys_len]; have := hma.1; omega), fun ad e => by subst e; exact (h.lt _ rfl).1, hb⟩
theorem rrows_rd (w : World) (A B : Option Addr) (rs ts : List SRow) (c d : Nat) (name name2 : ByteArray) (cols cols2 : Int) (hA : Grid w A rs) (hB : Grid w B ts) (hma : Mild rs) (hmb : Mild ts) :
    Calls Try.prog 19 #[.agg #[.string name, .int .i64 cols, .slice A rs.length c], .agg #[.string name2, .int .i64 cols2, .slice B ts.length d]] w fun e w' =>
      ∃ Z c, e = .returned (.agg #[.slice Z rs.length c, .int .i64 ts.length]) ∧ At1 vInt w' Z (rowsOf (rowKeys rs) (rowKeys ts)) ∧ (∀ ad, Z = some ad → w.heap.size ≤ ad.block) ∧ Below w.heap.size w w' := by
  refine (rrows_any w A B rs ts _ _ c d name name2 cols cols2 rfl rfl hA hB hma hmb).mono ?_
  rintro e w' ⟨Z, c2, rfl, h, hb⟩
  exact ⟨Z, c2, rfl, At1.of_own h (by rw [rowsOf_len, rowKeys_len]; have := hma.1; omega), fun ad e => by subst e; exact (h.lt _ rfl).1, hb⟩
/-- a row of numbers, behind a store into another block -/
theorem at1_other {w1 w2 : World} {A : Option Addr} {l : List Int} {g : Nat} (h : At1 vInt w1 A l) (hg : ∀ ad, A = some ad → ad.block ≠ g) (ho : ∀ p : Addr, p.block ≠ g → w2.cell? p = w1.cell? p) : At1 vInt w2 A l := by
  refine ⟨h.1, fun hn => ?_⟩
  obtain ⟨ad, rfl, hc⟩ := h.2 hn
  exact ⟨ad, rfl, fun i x hx => (ho _ (by rw [block_of_add]; exact hg ad rfl)).trans (hc i x hx)⟩

set_option maxRecDepth 100000 in
set_option maxHeartbeats 4000000 in
theorem alignSheets_any (w : World) (A B : Option Addr) (rs ts : List SRow) (c d : Nat) (name name2 : ByteArray) (ca cb : Nat)
    (hA : Grid w A rs) (hB : Grid w B ts) (hma : Mild rs) (hmb : Mild ts) (hwa : Wide rs ca) (hwb : Wide ts cb) (hca : ca ≤ 200) (hcb : cb ≤ 200) :
    Calls Try.prog 17 #[.agg #[.string name, .int .i64 ca, .slice A rs.length c], .agg #[.string name2, .int .i64 cb, .slice B ts.length d]] w fun e w' =>
      ∃ Z1 c1 Z2 c2, e = .returned (.agg #[.string name, .slice Z1 rs.length c1, .int .i64 ts.length, .slice Z2 ca c2, .int .i64 cb, .bool false]) ∧
        At1 vInt w' Z1 (rowsOf (rowKeys rs) (rowKeys ts)) ∧ At1 vInt w' Z2 (colsOf rs ts (rowsOf (rowKeys rs) (rowKeys ts)) ca cb) ∧ Below w.heap.size w w' := by
  have HMA := Lib.hid hma
  have HMB := Lib.hid hmb
  have HWA := Lib.hid hwa
  have HWB := Lib.hid hwb
  have HA := Lib.hid hA
  have HB := Lib.hid hB
  clear hA hB hma hmb hwa hwb
  go_enter Try.func17, Try.ntmps17
  go_wp2_with fail
  obtain ⟨W, hW⟩ : ∃ W, W = (((w.alloc (.cells #[.string name, .int .i64 ca, .slice A rs.length c] 24)).alloc (.cells #[.string name2, .int .i64 cb, .slice B ts.length d] 24)).alloc (.cells #[.string ⟨#[]⟩, .slice none 0 0, .int .i64 0, .slice none 0 0, .int .i64 0, .bool false] 42)) := ⟨_, rfl⟩
  have hs0 := heap_alloc_new w (.cells #[.string name, .int .i64 ca, .slice A rs.length c] 24)
  have hs1 := heap_alloc_new (w.alloc (.cells #[.string name, .int .i64 ca, .slice A rs.length c] 24)) (.cells #[.string name2, .int .i64 cb, .slice B ts.length d] 24)
  rw [World.size_alloc] at hs1
  have hs2 := heap_alloc_new ((w.alloc (.cells #[.string name, .int .i64 ca, .slice A rs.length c] 24)).alloc (.cells #[.string name2, .int .i64 cb, .slice B ts.length d] 24)) (.cells #[.string ⟨#[]⟩, .slice none 0 0, .int .i64 0, .slice none 0 0, .int .i64 0, .bool false] 42)
  rw [World.size_alloc, World.size_alloc] at hs2
  have hS0 : W.heap[w.heap.size]? = some (.cells #[.string name, .int .i64 ca, .slice A rs.length c] 24 (0, 0)) := by rw [hW]; exact (Below.heap_alloc _ _ _ (by simp; try omega)).trans ((Below.heap_alloc _ _ _ (by simp; try omega)).trans (hs0))
  have hS1 : W.heap[w.heap.size + 1]? = some (.cells #[.string name2, .int .i64 cb, .slice B ts.length d] 24 (0, 0)) := by rw [hW]; exact (Below.heap_alloc _ _ _ (by simp; try omega)).trans (hs1)
  have hR : W.heap[w.heap.size + 1 + 1]? = some (.cells #[.string ⟨#[]⟩, .slice none 0 0, .int .i64 0, .slice none 0 0, .int .i64 0, .bool false] 42 (0, 0)) := by rw [hW]; exact hs2
  have hsW : W.heap.size = w.heap.size + 3 := by rw [hW]; simp
  have hbW : Below w.heap.size w W := by rw [hW]; exact (((Below.refl _ _).alloc (Nat.le_refl _) _).alloc (by simp; try omega) _).alloc (by simp; try omega) _
  rw [← hW]
  clear hW hs0 hs1 hs2
  have GA := Lib.hid (HA.out.below hbW)
  have GB := Lib.hid (HB.out.below hbW)
  clear HA HB
  refine (alignRows_rd W A B rs ts c d name name2 ca cb GA.out GB.out HMA.out HMB.out).mono ?_
  rintro e w1 ⟨Z1, c1, rfl, hZ1, hg1, hb1⟩
  have hrl : (rowsOf (rowKeys rs) (rowKeys ts)).length = rs.length := by rw [rowsOf_len, rowKeys_len]
  have HRL := Lib.hid hrl
  have HZ1 := Lib.hid hZ1
  have HG1 : Hid (∀ ad, Z1 = some ad → ad.block ≠ w.heap.size + 1 + 1) := fun ad e => by have := hg1 ad e; omega
  clear hrl hZ1 hg1
  generalize hms : rowsOf (rowKeys rs) (rowKeys ts) = ms at *
  have HMS := Lib.hid hms
  clear hms
  go_wp2
  obtain ⟨W2, hW2⟩ : ∃ W2, W2 = w1.alloc (.cells #[.slice Z1 rs.length c1, .int .i64 ts.length] 30) := ⟨_, rfl⟩
  have e2 : Below w1.heap.size w1 W2 := by rw [hW2]; exact (Below.refl _ _).alloc (Nat.le_refl _) _
  have hM : W2.heap[w1.heap.size]? = some (.cells #[.slice Z1 rs.length c1, .int .i64 ts.length] 30 (0, 0)) := by rw [hW2]; exact heap_alloc_new _ _
  obtain ⟨Q, hQ⟩ : ∃ Q, w1.heap.size = Q := ⟨_, rfl⟩
  have hb2 := hb1.trans (e2.mono hb1.size)
  have hs2 := hb2.size
  have hsa := (hb2.block w.heap.size (by omega)).trans hS0
  have hsb := (hb2.block (w.heap.size + 1) (by omega)).trans hS1
  have hsr := (hb2.block (w.heap.size + 1 + 1) (by omega)).trans hR
  rw [← hW2, hQ]
  rw [hQ] at hM
  have hQl : Q < W2.drew.heap.size := (Array.getElem?_eq_some_iff.1 hM).1
  have l0 : w.heap.size < W2.drew.heap.size := by show _ < W2.heap.size; omega
  have l1 : w.heap.size + 1 < W2.drew.heap.size := by show _ < W2.heap.size; omega
  have hlR : w.heap.size + 1 + 1 < W2.heap.size := by omega
  have hbw := hbW.trans (hb2.mono hbW.size)
  have HZ2 := Lib.hid (HZ1.out.below e2)
  have GA2 := Lib.hid ((GA.out.below hb2).below (w' := W2.drew) (Below.refl _ _).drew)
  have GB2 := Lib.hid ((GB.out.below hb2).below (w' := W2.drew) (Below.refl _ _).drew)
  obtain ⟨x0, _, _⟩ := sheet3 hsa
  clear hW2 hQ e2 hb2 hb1 HZ1 GA GB hS0 hS1 hR hsW hbW
  refine wp_region_tree [8] (.free 0 (.free 1 (.free 2 (.free 3 (.free 4 (.free 5 (.eff 6 (.free 7 (.last 8 (.nil)))))))))) (by kernel_rfl) (by kernel_rfl) (fun _ _ d _ _ h => by cases d <;> exact h) ?_
  conv => arg 4; whnf
  conv => arg 4; arg 1; whnf
  refine pt_free (by rfl) (fun K hK => ?_)
  go_big_quiet_op
  first | (refine hK _ ?_; clear hK K) | (refine ⟨_, fun _ _ => rfl, hK _ ?_⟩; clear hK K)
  conv => arg 4; whnf
  conv => arg 4; arg 1; whnf
  refine pt_load (fun W h => load_str _ _ W h) (p := ⟨w.heap.size, 0, none⟩) x0 l0 (by rfl) rfl rfl ?_
  simp only [Act.put, List.setIfInBounds_toArray, List.set_cons_zero, List.set_cons_succ]
  conv => arg 4; whnf
  conv => arg 4; arg 1; whnf
  refine pt_loadB (k := Q) (fun W h => load_map _ W _ _ (h.trans hM)) hQl (by rfl) rfl rfl ?_
  simp only [Act.put, List.setIfInBounds_toArray, List.set_cons_zero, List.set_cons_succ]
  conv => arg 4; whnf
  conv => arg 4; arg 1; whnf
  refine pt_loadB (k := w.heap.size) (fun W h => load_sheet _ W _ _ _ _ _ (h.trans hsa)) l0 (by rfl) rfl rfl ?_
  simp only [Act.put, List.setIfInBounds_toArray, List.set_cons_zero, List.set_cons_succ]
  conv => arg 4; whnf
  conv => arg 4; arg 1; whnf
  refine pt_loadB (k := w.heap.size + 1) (fun W h => load_sheet _ W _ _ _ _ _ (h.trans hsb)) l1 (by rfl) rfl rfl ?_
  simp only [Act.put, List.setIfInBounds_toArray, List.set_cons_zero, List.set_cons_succ]
  conv => arg 4; whnf
  conv => arg 4; arg 1; whnf
  refine pt_loadB (k := Q) (fun W h => load_map _ W _ _ (h.trans hM)) hQl (by rfl) rfl rfl ?_
  simp only [Act.put, List.setIfInBounds_toArray, List.set_cons_zero, List.set_cons_succ]
  conv => arg 4; whnf
  conv => arg 4; arg 1; whnf
  refine pt_eff (by rfl) (fun K hK => ?_)
  go_wp2_with fail
  refine (alignCols_rd _ A B rs ts c d name name2 ca cb Z1 ms rs.length c1 ts.length HRL.out GA2.out GB2.out HMA.out HMB.out HWA.out HWB.out (HZ2.out.below (w' := W2.drew) (Below.refl _ _).drew) rfl hca hcb).mono ?_
  rintro e w3 ⟨Z2, c2, rfl, hZ3, hg3, hb3⟩
  refine hK _ _ hb3 ?_
  clear hK K
  conv => arg 4; whnf
  conv => arg 4; arg 1; whnf
  refine pt_free (by rfl) (fun K hK => ?_)
  go_big_quiet_op
  first | (refine hK _ ?_; clear hK K) | (refine ⟨_, fun _ _ => rfl, hK _ ?_⟩; clear hK K)
  have hbb : Below W2.heap.size W2 w3 := (Below.refl W2.heap.size W2).drew.trans hb3
  have hrz := (hbb.block _ hlR).trans hsr
  obtain ⟨y0, y1, y2, y3, y4, y5, z0, z1, z2, z3, z4, z5⟩ := shift6 hrz
  have HZ4 := Lib.hid (HZ2.out.below hbb)
  have HZ3 := Lib.hid hZ3
  have HG3 : Hid (∀ ad, Z2 = some ad → ad.block ≠ w.heap.size + 1 + 1) := fun ad e => by have : W2.heap.size ≤ ad.block := hg3 ad e; omega
  clear hZ3 HZ2 hg3
  conv => arg 4; whnf
  conv => arg 4; arg 1; whnf
  refine pt_last (by rfl) (fun K hK => ?_)
  go_wp2
  refine pt_nil ?_
  go_wp2
  generalize hWz : ((((((w3.setCell _ _).setCell _ _).setCell _ _).setCell _ _).setCell _ _).setCell _ _) = Wz
  have hz : Wz.heap[w.heap.size + 1 + 1]? = some (.cells #[.string name, .slice Z1 rs.length c1, .int .i64 ts.length, .slice Z2 ca c2, .int .i64 cb, .bool false] 42 (0, 0)) := by rw [← hWz]; simp [World.setCell, Array.getElem?_modify, hrz]
  have hoth : ∀ p : Addr, p.block ≠ w.heap.size + 1 + 1 → Wz.cell? p = w3.cell? p := fun p hp => by rw [← hWz]; exact (cellSet hp).trans ((cellSet hp).trans ((cellSet hp).trans ((cellSet hp).trans ((cellSet hp).trans (cellSet hp)))))
  have hbz : Below w.heap.size w Wz := by
    rw [← hWz]
    have hb9 := hbw.trans (hbb.mono hbw.size)
    exact (((((hb9.setCell (by show w.heap.size ≤ w.heap.size + 1 + 1; omega) _).setCell (by show w.heap.size ≤ w.heap.size + 1 + 1; omega) _).setCell (by show w.heap.size ≤ w.heap.size + 1 + 1; omega) _).setCell (by show w.heap.size ≤ w.heap.size + 1 + 1; omega) _).setCell (by show w.heap.size ≤ w.heap.size + 1 + 1; omega) _).setCell (by show w.heap.size ≤ w.heap.size + 1 + 1; omega) _
  obtain ⟨q0, q1, q2, q3, q4, q5, _⟩ := shift6 hz
  refine bodyPost_ret (v := .agg #[.string name, .slice Z1 rs.length c1, .int .i64 ts.length, .slice Z2 ca c2, .int .i64 cb, .bool false]) ?_ rfl ?_
  · simp [results, Try.f17, go_sem, q0, q1, q2, q3, q4, q5]
  · exact ⟨_, _, _, _, rfl, by rw [HMS.out]; exact at1_other HZ4.out HG1.out hoth, by rw [HMS.out]; exact at1_other HZ3.out HG3.out hoth, hbz⟩

set_option maxRecDepth 100000 in
set_option maxHeartbeats 4000000 in
theorem rsheets_any (w : World) (A B : Option Addr) (rs ts : List SRow) (c d : Nat) (name name2 : ByteArray) (ca cb : Nat)
    (hA : Grid w A rs) (hB : Grid w B ts) (hma : Mild rs) (hmb : Mild ts) (hwa : Wide rs ca) (hwb : Wide ts cb) (hca : ca ≤ 200) (hcb : cb ≤ 200) :
    Calls Try.prog 18 #[.agg #[.string name, .int .i64 ca, .slice A rs.length c], .agg #[.string name2, .int .i64 cb, .slice B ts.length d]] w fun e w' =>
      ∃ Z1 c1 Z2 c2, e = .returned (.agg #[.string name, .slice Z1 rs.length c1, .int .i64 ts.length, .slice Z2 ca c2, .int .i64 cb, .bool false]) ∧
        At1 vInt w' Z1 (rowsOf (rowKeys rs) (rowKeys ts)) ∧ At1 vInt w' Z2 (colsOf rs ts (rowsOf (rowKeys rs) (rowKeys ts)) ca cb) ∧ Below w.heap.size w w' := by
  have HMA := Lib.hid hma
  have HMB := Lib.hid hmb
  have HWA := Lib.hid hwa
  have HWB := Lib.hid hwb
  have HA := Lib.hid hA
  have HB := Lib.hid hB
  clear hA hB hma hmb hwa hwb
  go_enter Try.func18, Try.ntmps18
  go_wp2_with fail
  obtain ⟨W, hW⟩ : ∃ W, W = (((w.alloc (.cells #[.string name, .int .i64 ca, .slice A rs.length c] 24)).alloc (.cells #[.string name2, .int .i64 cb, .slice B ts.length d] 24)).alloc (.cells #[.string ⟨#[]⟩, .slice none 0 0, .int .i64 0, .slice none 0 0, .int .i64 0, .bool false] 42)) := ⟨_, rfl⟩
  have hs0 := heap_alloc_new w (.cells #[.string name, .int .i64 ca, .slice A rs.length c] 24)
  have hs1 := heap_alloc_new (w.alloc (.cells #[.string name, .int .i64 ca, .slice A rs.length c] 24)) (.cells #[.string name2, .int .i64 cb, .slice B ts.length d] 24)
  rw [World.size_alloc] at hs1
  have hs2 := heap_alloc_new ((w.alloc (.cells #[.string name, .int .i64 ca, .slice A rs.length c] 24)).alloc (.cells #[.string name2, .int .i64 cb, .slice B ts.length d] 24)) (.cells #[.string ⟨#[]⟩, .slice none 0 0, .int .i64 0, .slice none 0 0, .int .i64 0, .bool false] 42)
  rw [World.size_alloc, World.size_alloc] at hs2
  have hS0 : W.heap[w.heap.size]? = some (.cells #[.string name, .int .i64 ca, .slice A rs.length c] 24 (0, 0)) := by rw [hW]; exact (Below.heap_alloc _ _ _ (by simp; try omega)).trans ((Below.heap_alloc _ _ _ (by simp; try omega)).trans (hs0))
  have hS1 : W.heap[w.heap.size + 1]? = some (.cells #[.string name2, .int .i64 cb, .slice B ts.length d] 24 (0, 0)) := by rw [hW]; exact (Below.heap_alloc _ _ _ (by simp; try omega)).trans (hs1)
  have hR : W.heap[w.heap.size + 1 + 1]? = some (.cells #[.string ⟨#[]⟩, .slice none 0 0, .int .i64 0, .slice none 0 0, .int .i64 0, .bool false] 42 (0, 0)) := by rw [hW]; exact hs2
  have hsW : W.heap.size = w.heap.size + 3 := by rw [hW]; simp
  have hbW : Below w.heap.size w W := by rw [hW]; exact (((Below.refl _ _).alloc (Nat.le_refl _) _).alloc (by simp; try omega) _).alloc (by simp; try omega) _
  rw [← hW]
  clear hW hs0 hs1 hs2
  have GA := Lib.hid (HA.out.below hbW)
  have GB := Lib.hid (HB.out.below hbW)
  clear HA HB
  refine (rrows_rd W A B rs ts c d name name2 ca cb GA.out GB.out HMA.out HMB.out).mono ?_
  rintro e w1 ⟨Z1, c1, rfl, hZ1, hg1, hb1⟩
  have hrl : (rowsOf (rowKeys rs) (rowKeys ts)).length = rs.length := by rw [rowsOf_len, rowKeys_len]
  have HRL := Lib.hid hrl
  have HZ1 := Lib.hid hZ1
  have HG1 : Hid (∀ ad, Z1 = some ad → ad.block ≠ w.heap.size + 1 + 1) := fun ad e => by have := hg1 ad e; omega
  clear hrl hZ1 hg1
  generalize hms : rowsOf (rowKeys rs) (rowKeys ts) = ms at *
  have HMS := Lib.hid hms
  clear hms
  go_wp2
  obtain ⟨W2, hW2⟩ : ∃ W2, W2 = w1.alloc (.cells #[.slice Z1 rs.length c1, .int .i64 ts.length] 30) := ⟨_, rfl⟩
  have e2 : Below w1.heap.size w1 W2 := by rw [hW2]; exact (Below.refl _ _).alloc (Nat.le_refl _) _
  have hM : W2.heap[w1.heap.size]? = some (.cells #[.slice Z1 rs.length c1, .int .i64 ts.length] 30 (0, 0)) := by rw [hW2]; exact heap_alloc_new _ _
  obtain ⟨Q, hQ⟩ : ∃ Q, w1.heap.size = Q := ⟨_, rfl⟩
  have hb2 := hb1.trans (e2.mono hb1.size)
  have hs2 := hb2.size
  have hsa := (hb2.block w.heap.size (by omega)).trans hS0
  have hsb := (hb2.block (w.heap.size + 1) (by omega)).trans hS1
  have hsr := (hb2.block (w.heap.size + 1 + 1) (by omega)).trans hR
  rw [← hW2, hQ]
  rw [hQ] at hM
  have hQl : Q < W2.drew.heap.size := (Array.getElem?_eq_some_iff.1 hM).1
  have l0 : w.heap.size < W2.drew.heap.size := by show _ < W2.heap.size; omega
  have l1 : w.heap.size + 1 < W2.drew.heap.size := by show _ < W2.heap.size; omega
  have hlR : w.heap.size + 1 + 1 < W2.heap.size := by omega
  have hbw := hbW.trans (hb2.mono hbW.size)
  have HZ2 := Lib.hid (HZ1.out.below e2)
  have GA2 := Lib.hid ((GA.out.below hb2).below (w' := W2.drew) (Below.refl _ _).drew)
  have GB2 := Lib.hid ((GB.out.below hb2).below (w' := W2.drew) (Below.refl _ _).drew)
  obtain ⟨x0, _, _⟩ := sheet3 hsa
  clear hW2 hQ e2 hb2 hb1 HZ1 GA GB hS0 hS1 hR hsW hbW
  refine wp_region_tree [8] (.free 0 (.free 1 (.free 2 (.free 3 (.free 4 (.free 5 (.eff 6 (.free 7 (.last 8 (.nil)))))))))) (by kernel_rfl) (by kernel_rfl) (fun _ _ d _ _ h => by cases d <;> exact h) ?_
  conv => arg 4; whnf
  conv => arg 4; arg 1; whnf
  refine pt_free (by rfl) (fun K hK => ?_)
  go_big_quiet_op
  first | (refine hK _ ?_; clear hK K) | (refine ⟨_, fun _ _ => rfl, hK _ ?_⟩; clear hK K)
  conv => arg 4; whnf
  conv => arg 4; arg 1; whnf
  refine pt_load (fun W h => load_str _ _ W h) (p := ⟨w.heap.size, 0, none⟩) x0 l0 (by rfl) rfl rfl ?_
  simp only [Act.put, List.setIfInBounds_toArray, List.set_cons_zero, List.set_cons_succ]
  conv => arg 4; whnf
  conv => arg 4; arg 1; whnf
  refine pt_loadB (k := Q) (fun W h => load_map _ W _ _ (h.trans hM)) hQl (by rfl) rfl rfl ?_
  simp only [Act.put, List.setIfInBounds_toArray, List.set_cons_zero, List.set_cons_succ]
  conv => arg 4; whnf
  conv => arg 4; arg 1; whnf
  refine pt_loadB (k := w.heap.size) (fun W h => load_sheet _ W _ _ _ _ _ (h.trans hsa)) l0 (by rfl) rfl rfl ?_
  simp only [Act.put, List.setIfInBounds_toArray, List.set_cons_zero, List.set_cons_succ]
  conv => arg 4; whnf
  conv => arg 4; arg 1; whnf
  refine pt_loadB (k := w.heap.size + 1) (fun W h => load_sheet _ W _ _ _ _ _ (h.trans hsb)) l1 (by rfl) rfl rfl ?_
  simp only [Act.put, List.setIfInBounds_toArray, List.set_cons_zero, List.set_cons_succ]
  conv => arg 4; whnf
  conv => arg 4; arg 1; whnf
  refine pt_loadB (k := Q) (fun W h => load_map _ W _ _ (h.trans hM)) hQl (by rfl) rfl rfl ?_
  simp only [Act.put, List.setIfInBounds_toArray, List.set_cons_zero, List.set_cons_succ]
  conv => arg 4; whnf
  conv => arg 4; arg 1; whnf
  refine pt_eff (by rfl) (fun K hK => ?_)
  go_wp2_with fail
  refine (rcols_rd _ A B rs ts c d name name2 ca cb Z1 ms rs.length c1 ts.length HRL.out GA2.out GB2.out HMA.out HMB.out HWA.out HWB.out (HZ2.out.below (w' := W2.drew) (Below.refl _ _).drew) rfl hca hcb).mono ?_
  rintro e w3 ⟨Z2, c2, rfl, hZ3, hg3, hb3⟩
  refine hK _ _ hb3 ?_
  clear hK K
  conv => arg 4; whnf
  conv => arg 4; arg 1; whnf
  refine pt_free (by rfl) (fun K hK => ?_)
  go_big_quiet_op
  first | (refine hK _ ?_; clear hK K) | (refine ⟨_, fun _ _ => rfl, hK _ ?_⟩; clear hK K)
  have hbb : Below W2.heap.size W2 w3 := (Below.refl W2.heap.size W2).drew.trans hb3
  have hrz := (hbb.block _ hlR).trans hsr
  obtain ⟨y0, y1, y2, y3, y4, y5, z0, z1, z2, z3, z4, z5⟩ := shift6 hrz
  have HZ4 := Lib.hid (HZ2.out.below hbb)
  have HZ3 := Lib.hid hZ3
  have HG3 : Hid (∀ ad, Z2 = some ad → ad.block ≠ w.heap.size + 1 + 1) := fun ad e => by have : W2.heap.size ≤ ad.block := hg3 ad e; omega
  clear hZ3 HZ2 hg3
  conv => arg 4; whnf
  conv => arg 4; arg 1; whnf
  refine pt_last (by rfl) (fun K hK => ?_)
  go_wp2
  refine pt_nil ?_
  go_wp2
  generalize hWz : ((((((w3.setCell _ _).setCell _ _).setCell _ _).setCell _ _).setCell _ _).setCell _ _) = Wz
  have hz : Wz.heap[w.heap.size + 1 + 1]? = some (.cells #[.string name, .slice Z1 rs.length c1, .int .i64 ts.length, .slice Z2 ca c2, .int .i64 cb, .bool false] 42 (0, 0)) := by rw [← hWz]; simp [World.setCell, Array.getElem?_modify, hrz]
  have hoth : ∀ p : Addr, p.block ≠ w.heap.size + 1 + 1 → Wz.cell? p = w3.cell? p := fun p hp => by rw [← hWz]; exact (cellSet hp).trans ((cellSet hp).trans ((cellSet hp).trans ((cellSet hp).trans ((cellSet hp).trans (cellSet hp)))))
  have hbz : Below w.heap.size w Wz := by
    rw [← hWz]
    have hb9 := hbw.trans (hbb.mono hbw.size)
    exact (((((hb9.setCell (by show w.heap.size ≤ w.heap.size + 1 + 1; omega) _).setCell (by show w.heap.size ≤ w.heap.size + 1 + 1; omega) _).setCell (by show w.heap.size ≤ w.heap.size + 1 + 1; omega) _).setCell (by show w.heap.size ≤ w.heap.size + 1 + 1; omega) _).setCell (by show w.heap.size ≤ w.heap.size + 1 + 1; omega) _).setCell (by show w.heap.size ≤ w.heap.size + 1 + 1; omega) _
  obtain ⟨q0, q1, q2, q3, q4, q5, _⟩ := shift6 hz
  refine bodyPost_ret (v := .agg #[.string name, .slice Z1 rs.length c1, .int .i64 ts.length, .slice Z2 ca c2, .int .i64 cb, .bool false]) ?_ rfl ?_
  · simp [results, Try.f18, go_sem, q0, q1, q2, q3, q4, q5]
  · exact ⟨_, _, _, _, rfl, by rw [HMS.out]; exact at1_other HZ4.out HG1.out hoth, by rw [HMS.out]; exact at1_other HZ3.out HG3.out hoth, hbz⟩
end Go.Proofs.Ythoccmgfpjfkoaa
