/- val.Truth, (fun.call).fork. Written by funifgen.py. -/
import Derived.Test.YtcbaioagcemmnaaDoorFunLit
import Derived.Test.YtcbaioagcemmnaaDoorValMake
namespace Go.Proofs.YtcbaioagcemmnaaDoor
open Go.RowKit Go.Maps
def vtruth (x : V3) : Bool × Bool := if x.1 = 0 ∨ x.1 = 1 ∨ x.1 = 3 then (x.2.1 != 0, true) else (false, false)
theorem bool_no (w : World) : Calls Tryd.prog 42 #[.bool false] w fun e w' => e = .returned (.agg #[.int .i64 3, .int .i64 0, .string ⟨#[]⟩]) ∧ Below w.heap.size w w' := bool_any w false
set_option maxRecDepth 100000 in
set_option maxHeartbeats 1000000 in
theorem truth_any (w : World) (k n : Int) (s : ByteArray) (hm : mayV (k, n, s)) : Calls Tryd.prog 44 #[.agg #[.int .i64 k, .int .i64 n, .string s]] w fun e w' => e = .returned (.tuple #[.bool (vtruth (k, n, s)).1, .bool (vtruth (k, n, s)).2]) ∧ Below w.heap.size w w' := by
  by_cases h : k = 0 ∨ k = 1 ∨ k = 3
  · rw [show vtruth (k, n, s) = (n != 0, true) from if_pos h]
    rcases h with rfl | rfl | rfl
    · have hn : n = 0 := by rcases hm with ⟨_, h, _⟩ | ⟨h, _⟩ | ⟨h, _⟩ | ⟨h, _⟩ | ⟨h, _⟩ <;> first | exact h | exact absurd h (by simp)
      clear hm
      subst hn
      go_enter Tryd.func44, Tryd.ntmps44
      go_wp2
      go_ret2
      exact ⟨rfl, (Below.refl _ _).alloc (Nat.le_refl _) _⟩
    · clear hm
      go_enter Tryd.func44, Tryd.ntmps44
      go_wp2
      go_ret2
      exact ⟨rfl, (Below.refl _ _).alloc (Nat.le_refl _) _⟩
    · have hn : n = 0 ∨ n = 1 := by rcases hm with ⟨h, _⟩ | ⟨h, _⟩ | ⟨h, _⟩ | ⟨_, _, h⟩ | ⟨h, _⟩ <;> first | exact h | exact absurd h (by simp)
      clear hm
      rcases hn with rfl | rfl
      all_goals
        go_enter Tryd.func44, Tryd.ntmps44
        go_wp2
        go_ret2
        exact ⟨rfl, (Below.refl _ _).alloc (Nat.le_refl _) _⟩
  · rw [show vtruth (k, n, s) = (false, false) from if_neg h]
    have k0 : (k == 0) = false := by rw [beq_eq_false_iff_ne]; omega
    have k0' : decide (k = 0) = false := by rw [decide_eq_false_iff_not]; omega
    have k1 : (k == 1) = false := by rw [beq_eq_false_iff_ne]; omega
    have k1' : decide (k = 1) = false := by rw [decide_eq_false_iff_not]; omega
    have k3 : (k == 3) = false := by rw [beq_eq_false_iff_ne]; omega
    have k3' : decide (k = 3) = false := by rw [decide_eq_false_iff_not]; omega
    clear h hm
    go_enter Tryd.func44, Tryd.ntmps44
    go_wp2
    go_ret2
    exact ⟨rfl, (Below.refl _ _).alloc (Nat.le_refl _) _⟩
set_option maxRecDepth 100000 in
set_option maxHeartbeats 4000000 in
theorem fork_err (w : World) (A : Option Addr) (args : List FArg) (c : Nat) (hA : AtA w A args) (x0 : FArg) (k n : Int) (s : ByteArray) (h0 : args[0]? = some x0) (v0 : x0.vs[0]? = some (k, n, s)) (hm : mayV (k, n, s)) (hk : k = 4) :
    Calls Tryd.prog 23 #[.agg #[.slice A args.length c]] w fun e w' => e = .returned (.agg #[.int .i64 4, .int .i64 n, .string s]) ∧ Below w.heap.size w w' := by
  have C0 := Lib.hid (fun W (hW : AtA W A args) => cone_any W A args c 0 hW x0 _ h0 v0)
  have T0 := Lib.hid (fun W => truth_any W k n s hm)
  subst hk
  have hb0 := ((Below.refl w.heap.size w).alloc (Nat.le_refl _) (.cells #[.slice A args.length c] 44)).alloc (by simp) (.cells #[.int .i64 0, .int .i64 0, .string ⟨#[]⟩] 31)
  have hX : ((w.alloc (.cells #[.slice A args.length c] 44)).alloc (.cells #[.int .i64 0, .int .i64 0, .string ⟨#[]⟩] 31)).heap[w.heap.size]? = some (.cells #[.slice A args.length c] 44 (0, 0)) := (Below.heap_alloc _ _ _ (by simp)).trans (heap_alloc_new _ _)
  have hR : ((w.alloc (.cells #[.slice A args.length c] 44)).alloc (.cells #[.int .i64 0, .int .i64 0, .string ⟨#[]⟩] 31)).heap[w.heap.size + 1]? = some (.cells #[.int .i64 0, .int .i64 0, .string ⟨#[]⟩] 31 (0, 0)) := by rw [← World.size_alloc w (.cells #[.slice A args.length c] 44)]; exact heap_alloc_new _ _
  have hA0 := hA.below hb0
  obtain ⟨P, hP⟩ : ∃ P, w.heap.size = P := ⟨_, rfl⟩
  rw [hP] at hb0 hX hR
  clear h0 v0 hA hm
  go_enter Tryd.func23, Tryd.ntmps23
  go_wp2_with fail
  (try rw [hP])
  refine (C0.out _ hA0).mono ?_
  rintro e w1 ⟨rfl, hb1⟩
  have hX1 := (hb1.block _ (Array.getElem?_eq_some_iff.1 hX).1).trans hX
  have hR1 := (hb1.block _ (Array.getElem?_eq_some_iff.1 hR).1).trans hR
  have hA1 := hA0.below hb1
  have hb01 := hb0.trans (hb1.mono (by have := hb0.size; omega))
  clear hb1 hX hR hA0 hb0
  go_wp2_with fail
  have hV1 := heap_alloc_new w1 (.cells #[.int .i64 4, .int .i64 n, .string s] 31)
  have hX2 := (Below.heap_alloc w1 (.cells #[.int .i64 4, .int .i64 n, .string s] 31) _ (Array.getElem?_eq_some_iff.1 hX1).1).trans hX1
  have hR2 := (Below.heap_alloc w1 (.cells #[.int .i64 4, .int .i64 n, .string s] 31) _ (Array.getElem?_eq_some_iff.1 hR1).1).trans hR1
  have hA2 := hA1.below ((Below.refl _ _).alloc (Nat.le_refl _) (.cells #[.int .i64 4, .int .i64 n, .string s] 31))
  have hb02 := hb01.alloc (by have := hb01.size; omega) (.cells #[.int .i64 4, .int .i64 n, .string s] 31)
  obtain ⟨Vb, hVb⟩ : ∃ Vb, w1.heap.size = Vb := ⟨_, rfl⟩
  rw [hVb] at hV1 ⊢
  refine (T0.out _).mono ?_
  rintro e w2 ⟨rfl, hb1⟩
  have hX3 := (hb1.block _ (Array.getElem?_eq_some_iff.1 hX2).1).trans hX2
  have hR3 := (hb1.block _ (Array.getElem?_eq_some_iff.1 hR2).1).trans hR2
  have hV3 := (hb1.block _ (Array.getElem?_eq_some_iff.1 hV1).1).trans hV1
  have hA3 := hA2.below hb1
  have hb03 := hb02.trans (hb1.mono (by have := hb02.size; omega))
  have c3 := zf1 hX3
  obtain ⟨p0, p1, p2, _⟩ := val3 hV3
  obtain ⟨r0, r1, r2, z0, z1, z2⟩ := val3 hR3
  clear hX1 hR1 hA1 hb01 hV1 hX2 hR2 hA2 hb02 hb1
  go_wp2
  have hz := val_store (x := .int .i64 4) (y := .int .i64 n) (z := .string s) hR3
  obtain ⟨q0, q1, q2, _⟩ := val3 hz
  refine bodyPost_ret (v := .agg #[.int .i64 4, .int .i64 n, .string s]) ?_ rfl ?_
  · simp [results, Tryd.f23, go_sem, q0, q1, q2]
  · exact ⟨rfl, hP ▸ ((hb03.setCell (p := ⟨P + 1, 0, none⟩) (by show P ≤ P + 1; omega) _).setCell (p := ⟨P + 1, 1, none⟩) (by show P ≤ P + 1; omega) _).setCell (p := ⟨P + 1, 2, none⟩) (by show P ≤ P + 1; omega) _⟩
set_option maxRecDepth 100000 in
set_option maxHeartbeats 4000000 in
theorem fork_bad (w : World) (A : Option Addr) (args : List FArg) (c : Nat) (hA : AtA w A args) (x0 : FArg) (k n : Int) (s : ByteArray) (h0 : args[0]? = some x0) (v0 : x0.vs[0]? = some (k, n, s)) (hm : mayV (k, n, s)) (hk : k = 2) :
    Calls Tryd.prog 23 #[.agg #[.slice A args.length c]] w fun e w' => e = .returned (.agg #[.int .i64 4, .int .i64 1, .string ⟨#[]⟩]) ∧ Below w.heap.size w w' := by
  have C0 := Lib.hid (fun W (hW : AtA W A args) => cone_any W A args c 0 hW x0 _ h0 v0)
  have T0 := Lib.hid (fun W => truth_any W k n s hm)
  subst hk
  rw [show vtruth (2, n, s) = (false, false) from rfl] at T0
  have hb0 := ((Below.refl w.heap.size w).alloc (Nat.le_refl _) (.cells #[.slice A args.length c] 44)).alloc (by simp) (.cells #[.int .i64 0, .int .i64 0, .string ⟨#[]⟩] 31)
  have hX : ((w.alloc (.cells #[.slice A args.length c] 44)).alloc (.cells #[.int .i64 0, .int .i64 0, .string ⟨#[]⟩] 31)).heap[w.heap.size]? = some (.cells #[.slice A args.length c] 44 (0, 0)) := (Below.heap_alloc _ _ _ (by simp)).trans (heap_alloc_new _ _)
  have hR : ((w.alloc (.cells #[.slice A args.length c] 44)).alloc (.cells #[.int .i64 0, .int .i64 0, .string ⟨#[]⟩] 31)).heap[w.heap.size + 1]? = some (.cells #[.int .i64 0, .int .i64 0, .string ⟨#[]⟩] 31 (0, 0)) := by rw [← World.size_alloc w (.cells #[.slice A args.length c] 44)]; exact heap_alloc_new _ _
  have hA0 := hA.below hb0
  obtain ⟨P, hP⟩ : ∃ P, w.heap.size = P := ⟨_, rfl⟩
  rw [hP] at hb0 hX hR
  clear h0 v0 hA hm
  go_enter Tryd.func23, Tryd.ntmps23
  go_wp2_with fail
  (try rw [hP])
  refine (C0.out _ hA0).mono ?_
  rintro e w1 ⟨rfl, hb1⟩
  have hX1 := (hb1.block _ (Array.getElem?_eq_some_iff.1 hX).1).trans hX
  have hR1 := (hb1.block _ (Array.getElem?_eq_some_iff.1 hR).1).trans hR
  have hA1 := hA0.below hb1
  have hb01 := hb0.trans (hb1.mono (by have := hb0.size; omega))
  clear hb1 hX hR hA0 hb0
  go_wp2_with fail
  have hV1 := heap_alloc_new w1 (.cells #[.int .i64 2, .int .i64 n, .string s] 31)
  have hX2 := (Below.heap_alloc w1 (.cells #[.int .i64 2, .int .i64 n, .string s] 31) _ (Array.getElem?_eq_some_iff.1 hX1).1).trans hX1
  have hR2 := (Below.heap_alloc w1 (.cells #[.int .i64 2, .int .i64 n, .string s] 31) _ (Array.getElem?_eq_some_iff.1 hR1).1).trans hR1
  have hA2 := hA1.below ((Below.refl _ _).alloc (Nat.le_refl _) (.cells #[.int .i64 2, .int .i64 n, .string s] 31))
  have hb02 := hb01.alloc (by have := hb01.size; omega) (.cells #[.int .i64 2, .int .i64 n, .string s] 31)
  obtain ⟨Vb, hVb⟩ : ∃ Vb, w1.heap.size = Vb := ⟨_, rfl⟩
  rw [hVb] at hV1 ⊢
  refine (T0.out _).mono ?_
  rintro e w2 ⟨rfl, hb1⟩
  have hX3 := (hb1.block _ (Array.getElem?_eq_some_iff.1 hX2).1).trans hX2
  have hR3 := (hb1.block _ (Array.getElem?_eq_some_iff.1 hR2).1).trans hR2
  have hV3 := (hb1.block _ (Array.getElem?_eq_some_iff.1 hV1).1).trans hV1
  have hA3 := hA2.below hb1
  have hb03 := hb02.trans (hb1.mono (by have := hb02.size; omega))
  have c3 := zf1 hX3
  obtain ⟨p0, p1, p2, _⟩ := val3 hV3
  obtain ⟨r0, r1, r2, z0, z1, z2⟩ := val3 hR3
  clear hX1 hR1 hA1 hb01 hV1 hX2 hR2 hA2 hb02 hb1
  go_wp2_with fail
  refine (err_any _ 1).mono ?_
  rintro e w3 ⟨rfl, hb1⟩
  have hR5 := (hb1.block _ (Array.getElem?_eq_some_iff.1 hR3).1).trans hR3
  have hb05 := hb03.trans (hb1.mono (by have := hb03.size; omega))
  clear r0 r1 r2 z0 z1 z2 p0 p1 p2 c3
  obtain ⟨r0, r1, r2, z0, z1, z2⟩ := val3 hR5
  go_wp2
  have hz := val_store (x := .int .i64 4) (y := .int .i64 1) (z := .string ⟨#[]⟩) hR5
  obtain ⟨q0, q1, q2, _⟩ := val3 hz
  refine bodyPost_ret (v := .agg #[.int .i64 4, .int .i64 1, .string ⟨#[]⟩]) ?_ rfl ?_
  · simp [results, Tryd.f23, go_sem, q0, q1, q2]
  · exact ⟨rfl, hP ▸ ((hb05.setCell (p := ⟨P + 1, 0, none⟩) (by show P ≤ P + 1; omega) _).setCell (p := ⟨P + 1, 1, none⟩) (by show P ≤ P + 1; omega) _).setCell (p := ⟨P + 1, 2, none⟩) (by show P ≤ P + 1; omega) _⟩
set_option maxRecDepth 100000 in
set_option maxHeartbeats 4000000 in
theorem fork_yes (w : World) (A : Option Addr) (args : List FArg) (c : Nat) (hA : AtA w A args) (x0 : FArg) (k n : Int) (s : ByteArray) (h0 : args[0]? = some x0) (v0 : x0.vs[0]? = some (k, n, s)) (hm : mayV (k, n, s)) (hk : k = 0 ∨ k = 1 ∨ k = 3) (hn : n ≠ 0) (x1 : FArg) (k2 n2 : Int) (s2 : ByteArray) (h1 : args[1]? = some x1) (v1 : x1.vs[0]? = some (k2, n2, s2)) :
    Calls Tryd.prog 23 #[.agg #[.slice A args.length c]] w fun e w' => e = .returned (.agg #[.int .i64 k2, .int .i64 n2, .string s2]) ∧ Below w.heap.size w w' := by
  have C0 := Lib.hid (fun W (hW : AtA W A args) => cone_any W A args c 0 hW x0 _ h0 v0)
  have T0 := Lib.hid (fun W => truth_any W k n s hm)
  have C1 := Lib.hid (fun W (hW : AtA W A args) => cone_any W A args c 1 hW x1 _ h1 v1)
  rw [show vtruth (k, n, s) = (true, true) by unfold vtruth; rw [if_pos hk]; simp [hn]] at T0
  have hk4 : k ≠ 4 := by omega
  have n4 : (k == 4) = false := by rw [beq_eq_false_iff_ne]; omega
  have n4' : decide (k = 4) = false := decide_eq_false (by omega)
  clear hk hn hk4
  clear h1 v1
  have hb0 := ((Below.refl w.heap.size w).alloc (Nat.le_refl _) (.cells #[.slice A args.length c] 44)).alloc (by simp) (.cells #[.int .i64 0, .int .i64 0, .string ⟨#[]⟩] 31)
  have hX : ((w.alloc (.cells #[.slice A args.length c] 44)).alloc (.cells #[.int .i64 0, .int .i64 0, .string ⟨#[]⟩] 31)).heap[w.heap.size]? = some (.cells #[.slice A args.length c] 44 (0, 0)) := (Below.heap_alloc _ _ _ (by simp)).trans (heap_alloc_new _ _)
  have hR : ((w.alloc (.cells #[.slice A args.length c] 44)).alloc (.cells #[.int .i64 0, .int .i64 0, .string ⟨#[]⟩] 31)).heap[w.heap.size + 1]? = some (.cells #[.int .i64 0, .int .i64 0, .string ⟨#[]⟩] 31 (0, 0)) := by rw [← World.size_alloc w (.cells #[.slice A args.length c] 44)]; exact heap_alloc_new _ _
  have hA0 := hA.below hb0
  obtain ⟨P, hP⟩ : ∃ P, w.heap.size = P := ⟨_, rfl⟩
  rw [hP] at hb0 hX hR
  clear h0 v0 hA hm
  go_enter Tryd.func23, Tryd.ntmps23
  go_wp2_with fail
  (try rw [hP])
  refine (C0.out _ hA0).mono ?_
  rintro e w1 ⟨rfl, hb1⟩
  have hX1 := (hb1.block _ (Array.getElem?_eq_some_iff.1 hX).1).trans hX
  have hR1 := (hb1.block _ (Array.getElem?_eq_some_iff.1 hR).1).trans hR
  have hA1 := hA0.below hb1
  have hb01 := hb0.trans (hb1.mono (by have := hb0.size; omega))
  clear hb1 hX hR hA0 hb0
  go_wp2_with fail
  have hV1 := heap_alloc_new w1 (.cells #[.int .i64 k, .int .i64 n, .string s] 31)
  have hX2 := (Below.heap_alloc w1 (.cells #[.int .i64 k, .int .i64 n, .string s] 31) _ (Array.getElem?_eq_some_iff.1 hX1).1).trans hX1
  have hR2 := (Below.heap_alloc w1 (.cells #[.int .i64 k, .int .i64 n, .string s] 31) _ (Array.getElem?_eq_some_iff.1 hR1).1).trans hR1
  have hA2 := hA1.below ((Below.refl _ _).alloc (Nat.le_refl _) (.cells #[.int .i64 k, .int .i64 n, .string s] 31))
  have hb02 := hb01.alloc (by have := hb01.size; omega) (.cells #[.int .i64 k, .int .i64 n, .string s] 31)
  obtain ⟨Vb, hVb⟩ : ∃ Vb, w1.heap.size = Vb := ⟨_, rfl⟩
  rw [hVb] at hV1 ⊢
  refine (T0.out _).mono ?_
  rintro e w2 ⟨rfl, hb1⟩
  have hX3 := (hb1.block _ (Array.getElem?_eq_some_iff.1 hX2).1).trans hX2
  have hR3 := (hb1.block _ (Array.getElem?_eq_some_iff.1 hR2).1).trans hR2
  have hV3 := (hb1.block _ (Array.getElem?_eq_some_iff.1 hV1).1).trans hV1
  have hA3 := hA2.below hb1
  have hb03 := hb02.trans (hb1.mono (by have := hb02.size; omega))
  have c3 := zf1 hX3
  obtain ⟨p0, p1, p2, _⟩ := val3 hV3
  obtain ⟨r0, r1, r2, z0, z1, z2⟩ := val3 hR3
  clear hX1 hR1 hA1 hb01 hV1 hX2 hR2 hA2 hb02 hb1
  go_wp2_with fail
  refine (C1.out _ hA3).mono ?_
  rintro e w3 ⟨rfl, hb1⟩
  have hR5 := (hb1.block _ (Array.getElem?_eq_some_iff.1 hR3).1).trans hR3
  have hb05 := hb03.trans (hb1.mono (by have := hb03.size; omega))
  clear r0 r1 r2 z0 z1 z2 p0 p1 p2 c3
  obtain ⟨r0, r1, r2, z0, z1, z2⟩ := val3 hR5
  go_wp2
  have hz := val_store (x := .int .i64 k2) (y := .int .i64 n2) (z := .string s2) hR5
  obtain ⟨q0, q1, q2, _⟩ := val3 hz
  refine bodyPost_ret (v := .agg #[.int .i64 k2, .int .i64 n2, .string s2]) ?_ rfl ?_
  · simp [results, Tryd.f23, go_sem, q0, q1, q2]
  · exact ⟨rfl, hP ▸ ((hb05.setCell (p := ⟨P + 1, 0, none⟩) (by show P ≤ P + 1; omega) _).setCell (p := ⟨P + 1, 1, none⟩) (by show P ≤ P + 1; omega) _).setCell (p := ⟨P + 1, 2, none⟩) (by show P ≤ P + 1; omega) _⟩
set_option maxRecDepth 100000 in
set_option maxHeartbeats 4000000 in
theorem fork_no2 (w : World) (A : Option Addr) (args : List FArg) (c : Nat) (hA : AtA w A args) (x0 : FArg) (k n : Int) (s : ByteArray) (h0 : args[0]? = some x0) (v0 : x0.vs[0]? = some (k, n, s)) (hm : mayV (k, n, s)) (hk : k = 0 ∨ k = 1 ∨ k = 3) (hn : n = 0) (hl : args.length = 2) :
    Calls Tryd.prog 23 #[.agg #[.slice A args.length c]] w fun e w' => e = .returned (.agg #[.int .i64 3, .int .i64 0, .string ⟨#[]⟩]) ∧ Below w.heap.size w w' := by
  have C0 := Lib.hid (fun W (hW : AtA W A args) => cone_any W A args c 0 hW x0 _ h0 v0)
  have T0 := Lib.hid (fun W => truth_any W k n s hm)
  rw [show vtruth (k, n, s) = (false, true) by unfold vtruth; rw [if_pos hk]; simp [hn]] at T0
  have hk4 : k ≠ 4 := by omega
  have n4 : (k == 4) = false := by rw [beq_eq_false_iff_ne]; omega
  have n4' : decide (k = 4) = false := decide_eq_false (by omega)
  clear hk hn hk4
  have hl1 : ((args.length : Int) == 2) = true := by rw [hl]; rfl
  have hl2 : (args.length : Int) = 2 := by omega
  clear hl
  have hb0 := ((Below.refl w.heap.size w).alloc (Nat.le_refl _) (.cells #[.slice A args.length c] 44)).alloc (by simp) (.cells #[.int .i64 0, .int .i64 0, .string ⟨#[]⟩] 31)
  have hX : ((w.alloc (.cells #[.slice A args.length c] 44)).alloc (.cells #[.int .i64 0, .int .i64 0, .string ⟨#[]⟩] 31)).heap[w.heap.size]? = some (.cells #[.slice A args.length c] 44 (0, 0)) := (Below.heap_alloc _ _ _ (by simp)).trans (heap_alloc_new _ _)
  have hR : ((w.alloc (.cells #[.slice A args.length c] 44)).alloc (.cells #[.int .i64 0, .int .i64 0, .string ⟨#[]⟩] 31)).heap[w.heap.size + 1]? = some (.cells #[.int .i64 0, .int .i64 0, .string ⟨#[]⟩] 31 (0, 0)) := by rw [← World.size_alloc w (.cells #[.slice A args.length c] 44)]; exact heap_alloc_new _ _
  have hA0 := hA.below hb0
  obtain ⟨P, hP⟩ : ∃ P, w.heap.size = P := ⟨_, rfl⟩
  rw [hP] at hb0 hX hR
  clear h0 v0 hA hm
  go_enter Tryd.func23, Tryd.ntmps23
  go_wp2_with fail
  (try rw [hP])
  refine (C0.out _ hA0).mono ?_
  rintro e w1 ⟨rfl, hb1⟩
  have hX1 := (hb1.block _ (Array.getElem?_eq_some_iff.1 hX).1).trans hX
  have hR1 := (hb1.block _ (Array.getElem?_eq_some_iff.1 hR).1).trans hR
  have hA1 := hA0.below hb1
  have hb01 := hb0.trans (hb1.mono (by have := hb0.size; omega))
  clear hb1 hX hR hA0 hb0
  go_wp2_with fail
  have hV1 := heap_alloc_new w1 (.cells #[.int .i64 k, .int .i64 n, .string s] 31)
  have hX2 := (Below.heap_alloc w1 (.cells #[.int .i64 k, .int .i64 n, .string s] 31) _ (Array.getElem?_eq_some_iff.1 hX1).1).trans hX1
  have hR2 := (Below.heap_alloc w1 (.cells #[.int .i64 k, .int .i64 n, .string s] 31) _ (Array.getElem?_eq_some_iff.1 hR1).1).trans hR1
  have hA2 := hA1.below ((Below.refl _ _).alloc (Nat.le_refl _) (.cells #[.int .i64 k, .int .i64 n, .string s] 31))
  have hb02 := hb01.alloc (by have := hb01.size; omega) (.cells #[.int .i64 k, .int .i64 n, .string s] 31)
  obtain ⟨Vb, hVb⟩ : ∃ Vb, w1.heap.size = Vb := ⟨_, rfl⟩
  rw [hVb] at hV1 ⊢
  refine (T0.out _).mono ?_
  rintro e w2 ⟨rfl, hb1⟩
  have hX3 := (hb1.block _ (Array.getElem?_eq_some_iff.1 hX2).1).trans hX2
  have hR3 := (hb1.block _ (Array.getElem?_eq_some_iff.1 hR2).1).trans hR2
  have hV3 := (hb1.block _ (Array.getElem?_eq_some_iff.1 hV1).1).trans hV1
  have hA3 := hA2.below hb1
  have hb03 := hb02.trans (hb1.mono (by have := hb02.size; omega))
  have c3 := zf1 hX3
  obtain ⟨p0, p1, p2, _⟩ := val3 hV3
  obtain ⟨r0, r1, r2, z0, z1, z2⟩ := val3 hR3
  clear hX1 hR1 hA1 hb01 hV1 hX2 hR2 hA2 hb02 hb1
  go_wp2_with fail
  refine (bool_no _).mono ?_
  rintro e w3 ⟨rfl, hb1⟩
  have hR5 := (hb1.block _ (Array.getElem?_eq_some_iff.1 hR3).1).trans hR3
  have hb05 := hb03.trans (hb1.mono (by have := hb03.size; omega))
  clear r0 r1 r2 z0 z1 z2 p0 p1 p2 c3
  obtain ⟨r0, r1, r2, z0, z1, z2⟩ := val3 hR5
  go_wp2
  have hz := val_store (x := .int .i64 3) (y := .int .i64 0) (z := .string ⟨#[]⟩) hR5
  obtain ⟨q0, q1, q2, _⟩ := val3 hz
  refine bodyPost_ret (v := .agg #[.int .i64 3, .int .i64 0, .string ⟨#[]⟩]) ?_ rfl ?_
  · simp [results, Tryd.f23, go_sem, q0, q1, q2]
  · exact ⟨rfl, hP ▸ ((hb05.setCell (p := ⟨P + 1, 0, none⟩) (by show P ≤ P + 1; omega) _).setCell (p := ⟨P + 1, 1, none⟩) (by show P ≤ P + 1; omega) _).setCell (p := ⟨P + 1, 2, none⟩) (by show P ≤ P + 1; omega) _⟩
set_option maxRecDepth 100000 in
set_option maxHeartbeats 4000000 in
theorem fork_no3 (w : World) (A : Option Addr) (args : List FArg) (c : Nat) (hA : AtA w A args) (x0 : FArg) (k n : Int) (s : ByteArray) (h0 : args[0]? = some x0) (v0 : x0.vs[0]? = some (k, n, s)) (hm : mayV (k, n, s)) (hk : k = 0 ∨ k = 1 ∨ k = 3) (hn : n = 0) (hl : args.length = 3) (x2 : FArg) (k2 n2 : Int) (s2 : ByteArray) (h1 : args[2]? = some x2) (v1 : x2.vs[0]? = some (k2, n2, s2)) :
    Calls Tryd.prog 23 #[.agg #[.slice A args.length c]] w fun e w' => e = .returned (.agg #[.int .i64 k2, .int .i64 n2, .string s2]) ∧ Below w.heap.size w w' := by
  have C0 := Lib.hid (fun W (hW : AtA W A args) => cone_any W A args c 0 hW x0 _ h0 v0)
  have T0 := Lib.hid (fun W => truth_any W k n s hm)
  have C1 := Lib.hid (fun W (hW : AtA W A args) => cone_any W A args c 2 hW x2 _ h1 v1)
  rw [show vtruth (k, n, s) = (false, true) by unfold vtruth; rw [if_pos hk]; simp [hn]] at T0
  have hk4 : k ≠ 4 := by omega
  have n4 : (k == 4) = false := by rw [beq_eq_false_iff_ne]; omega
  have n4' : decide (k = 4) = false := decide_eq_false (by omega)
  clear hk hn hk4
  have hl1 : ((args.length : Int) == 2) = false := by rw [hl]; rfl
  clear h1 v1 hl
  have hb0 := ((Below.refl w.heap.size w).alloc (Nat.le_refl _) (.cells #[.slice A args.length c] 44)).alloc (by simp) (.cells #[.int .i64 0, .int .i64 0, .string ⟨#[]⟩] 31)
  have hX : ((w.alloc (.cells #[.slice A args.length c] 44)).alloc (.cells #[.int .i64 0, .int .i64 0, .string ⟨#[]⟩] 31)).heap[w.heap.size]? = some (.cells #[.slice A args.length c] 44 (0, 0)) := (Below.heap_alloc _ _ _ (by simp)).trans (heap_alloc_new _ _)
  have hR : ((w.alloc (.cells #[.slice A args.length c] 44)).alloc (.cells #[.int .i64 0, .int .i64 0, .string ⟨#[]⟩] 31)).heap[w.heap.size + 1]? = some (.cells #[.int .i64 0, .int .i64 0, .string ⟨#[]⟩] 31 (0, 0)) := by rw [← World.size_alloc w (.cells #[.slice A args.length c] 44)]; exact heap_alloc_new _ _
  have hA0 := hA.below hb0
  obtain ⟨P, hP⟩ : ∃ P, w.heap.size = P := ⟨_, rfl⟩
  rw [hP] at hb0 hX hR
  clear h0 v0 hA hm
  go_enter Tryd.func23, Tryd.ntmps23
  go_wp2_with fail
  (try rw [hP])
  refine (C0.out _ hA0).mono ?_
  rintro e w1 ⟨rfl, hb1⟩
  have hX1 := (hb1.block _ (Array.getElem?_eq_some_iff.1 hX).1).trans hX
  have hR1 := (hb1.block _ (Array.getElem?_eq_some_iff.1 hR).1).trans hR
  have hA1 := hA0.below hb1
  have hb01 := hb0.trans (hb1.mono (by have := hb0.size; omega))
  clear hb1 hX hR hA0 hb0
  go_wp2_with fail
  have hV1 := heap_alloc_new w1 (.cells #[.int .i64 k, .int .i64 n, .string s] 31)
  have hX2 := (Below.heap_alloc w1 (.cells #[.int .i64 k, .int .i64 n, .string s] 31) _ (Array.getElem?_eq_some_iff.1 hX1).1).trans hX1
  have hR2 := (Below.heap_alloc w1 (.cells #[.int .i64 k, .int .i64 n, .string s] 31) _ (Array.getElem?_eq_some_iff.1 hR1).1).trans hR1
  have hA2 := hA1.below ((Below.refl _ _).alloc (Nat.le_refl _) (.cells #[.int .i64 k, .int .i64 n, .string s] 31))
  have hb02 := hb01.alloc (by have := hb01.size; omega) (.cells #[.int .i64 k, .int .i64 n, .string s] 31)
  obtain ⟨Vb, hVb⟩ : ∃ Vb, w1.heap.size = Vb := ⟨_, rfl⟩
  rw [hVb] at hV1 ⊢
  refine (T0.out _).mono ?_
  rintro e w2 ⟨rfl, hb1⟩
  have hX3 := (hb1.block _ (Array.getElem?_eq_some_iff.1 hX2).1).trans hX2
  have hR3 := (hb1.block _ (Array.getElem?_eq_some_iff.1 hR2).1).trans hR2
  have hV3 := (hb1.block _ (Array.getElem?_eq_some_iff.1 hV1).1).trans hV1
  have hA3 := hA2.below hb1
  have hb03 := hb02.trans (hb1.mono (by have := hb02.size; omega))
  have c3 := zf1 hX3
  obtain ⟨p0, p1, p2, _⟩ := val3 hV3
  obtain ⟨r0, r1, r2, z0, z1, z2⟩ := val3 hR3
  clear hX1 hR1 hA1 hb01 hV1 hX2 hR2 hA2 hb02 hb1
  go_wp2_with fail
  refine (C1.out _ hA3).mono ?_
  rintro e w3 ⟨rfl, hb1⟩
  have hR5 := (hb1.block _ (Array.getElem?_eq_some_iff.1 hR3).1).trans hR3
  have hb05 := hb03.trans (hb1.mono (by have := hb03.size; omega))
  clear r0 r1 r2 z0 z1 z2 p0 p1 p2 c3
  obtain ⟨r0, r1, r2, z0, z1, z2⟩ := val3 hR5
  go_wp2
  have hz := val_store (x := .int .i64 k2) (y := .int .i64 n2) (z := .string s2) hR5
  obtain ⟨q0, q1, q2, _⟩ := val3 hz
  refine bodyPost_ret (v := .agg #[.int .i64 k2, .int .i64 n2, .string s2]) ?_ rfl ?_
  · simp [results, Tryd.f23, go_sem, q0, q1, q2]
  · exact ⟨rfl, hP ▸ ((hb05.setCell (p := ⟨P + 1, 0, none⟩) (by show P ≤ P + 1; omega) _).setCell (p := ⟨P + 1, 1, none⟩) (by show P ≤ P + 1; omega) _).setCell (p := ⟨P + 1, 2, none⟩) (by show P ≤ P + 1; omega) _⟩
end Go.Proofs.YtcbaioagcemmnaaDoor
