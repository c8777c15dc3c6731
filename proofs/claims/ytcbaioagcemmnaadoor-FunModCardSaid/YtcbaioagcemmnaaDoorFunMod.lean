/- (fun.call).mod; the walk of FunMod. Written by funmodgen.py. -/
import Derived.Test.YtcbaioagcemmnaaDoorFunAwake
namespace Go.Proofs.YtcbaioagcemmnaaDoor
open Go.RowKit Go.Maps
def fmodR (a b : Int) : Int := if a.tmod b ≠ 0 ∧ ((a.tmod b < 0) ↔ ¬ (b < 0)) then a.tmod b + b else a.tmod b
set_option maxRecDepth 100000 in
set_option maxHeartbeats 4000000 in
theorem mod_zero (w : World) (A : Option Addr) (args : List FArg) (c : Nat) (hA : AtA w A args) (x0 x1 : FArg) (a b : Int) (s0 s1 : ByteArray) (h0 : args[0]? = some x0) (h1 : args[1]? = some x1) (v0 : x0.vs[0]? = some (1, a, s0)) (v1 : x1.vs[0]? = some (1, b, s1)) (hb : b = 0) :
    Calls Tryd.prog 26 #[.agg #[.slice A args.length c]] w fun e w' => e = .returned (.agg #[.int .i64 4, .int .i64 3, .string ⟨#[]⟩]) ∧ Below w.heap.size w w' := by
  have C0 := Lib.hid (fun W (hW : AtA W A args) => cone_any W A args c 0 hW x0 _ h0 v0)
  have C1 := Lib.hid (fun W (hW : AtA W A args) => cone_any W A args c 1 hW x1 _ h1 v1)
  have I0 := Lib.hid (fun W => valInt_num W 1 a s0 (.inl rfl))
  have I1 := Lib.hid (fun W => valInt_num W 1 b s1 (.inl rfl))
  subst hb
  have hb0 := ((Below.refl w.heap.size w).alloc (Nat.le_refl _) (.cells #[.slice A args.length c] 44)).alloc (by simp) (.cells #[.int .i64 0, .int .i64 0, .string ⟨#[]⟩] 31)
  have hX : ((w.alloc (.cells #[.slice A args.length c] 44)).alloc (.cells #[.int .i64 0, .int .i64 0, .string ⟨#[]⟩] 31)).heap[w.heap.size]? = some (.cells #[.slice A args.length c] 44 (0, 0)) := (Below.heap_alloc _ _ _ (by simp)).trans (heap_alloc_new _ _)
  have hR : ((w.alloc (.cells #[.slice A args.length c] 44)).alloc (.cells #[.int .i64 0, .int .i64 0, .string ⟨#[]⟩] 31)).heap[w.heap.size + 1]? = some (.cells #[.int .i64 0, .int .i64 0, .string ⟨#[]⟩] 31 (0, 0)) := by rw [← World.size_alloc w (.cells #[.slice A args.length c] 44)]; exact heap_alloc_new _ _
  have hA0 := hA.below hb0
  obtain ⟨P, hP⟩ : ∃ P, w.heap.size = P := ⟨_, rfl⟩
  rw [hP] at hb0 hX hR
  clear h0 h1 v0 v1 hA
  go_enter Tryd.func26, Tryd.ntmps26
  go_wp2_with fail
  (try rw [hP])
  refine (C0.out _ hA0).mono ?_
  rintro e w1 ⟨rfl, hb1⟩
  have hX1 := (hb1.block _ (Array.getElem?_eq_some_iff.1 hX).1).trans hX
  have hR1 := (hb1.block _ (Array.getElem?_eq_some_iff.1 hR).1).trans hR
  have hA1 := hA0.below hb1
  have hb01 := hb0.trans (hb1.mono (by have := hb0.size; omega))
  have c1 := zf1 hX1
  clear hb1 hX hR hA0 hb0
  go_wp2_with fail
  refine (I0.out _).mono ?_
  rintro e w2 ⟨rfl, hb1⟩
  have hX2 := (hb1.block _ (Array.getElem?_eq_some_iff.1 hX1).1).trans hX1
  have hR2 := (hb1.block _ (Array.getElem?_eq_some_iff.1 hR1).1).trans hR1
  have hA2 := hA1.below hb1
  have hb02 := hb01.trans (hb1.mono (by have := hb01.size; omega))
  have c2 := zf1 hX2
  clear hb1 hX1 hR1 hA1 hb01 c1
  go_wp2_with fail
  refine (C1.out _ hA2).mono ?_
  rintro e w3 ⟨rfl, hb1⟩
  have hX3 := (hb1.block _ (Array.getElem?_eq_some_iff.1 hX2).1).trans hX2
  have hR3 := (hb1.block _ (Array.getElem?_eq_some_iff.1 hR2).1).trans hR2
  have hA3 := hA2.below hb1
  have hb03 := hb02.trans (hb1.mono (by have := hb02.size; omega))
  have c3 := zf1 hX3
  clear hb1 hX2 hR2 hA2 hb02 c2
  go_wp2_with fail
  refine (I1.out _).mono ?_
  rintro e w4 ⟨rfl, hb1⟩
  have hX4 := (hb1.block _ (Array.getElem?_eq_some_iff.1 hX3).1).trans hX3
  have hR4 := (hb1.block _ (Array.getElem?_eq_some_iff.1 hR3).1).trans hR3
  have hA4 := hA3.below hb1
  have hb04 := hb03.trans (hb1.mono (by have := hb03.size; omega))
  have c4 := zf1 hX4
  clear hb1 hX3 hR3 hA3 hb03 c3
  go_wp2_with fail
  refine (err_any _ 3).mono ?_
  rintro e w5 ⟨rfl, hb1⟩
  have hR5 := (hb1.block _ (Array.getElem?_eq_some_iff.1 hR4).1).trans hR4
  have hb5 := hb04.trans (hb1.mono (by have := hb04.size; omega))
  obtain ⟨r0, r1, r2, z0, z1, z2⟩ := val3 hR5
  clear hb1 hR4 hb04 c4
  go_wp2
  have hz := val_store (x := .int .i64 4) (y := .int .i64 3) (z := .string ⟨#[]⟩) hR5
  obtain ⟨q0, q1, q2, _⟩ := val3 hz
  refine bodyPost_ret (v := .agg #[.int .i64 4, .int .i64 3, .string ⟨#[]⟩]) ?_ rfl ?_
  · simp [results, Tryd.f26, go_sem, q0, q1, q2]
  · exact ⟨rfl, hP ▸ ((hb5.setCell (p := ⟨P + 1, 0, none⟩) (by show P ≤ P + 1; omega) _).setCell (p := ⟨P + 1, 1, none⟩) (by show P ≤ P + 1; omega) _).setCell (p := ⟨P + 1, 2, none⟩) (by show P ≤ P + 1; omega) _⟩
set_option maxRecDepth 100000 in
set_option maxHeartbeats 4000000 in
theorem mod_r0 (w : World) (A : Option Addr) (args : List FArg) (c : Nat) (hA : AtA w A args) (x0 x1 : FArg) (a b : Int) (s0 s1 : ByteArray) (h0 : args[0]? = some x0) (h1 : args[1]? = some x1) (v0 : x0.vs[0]? = some (1, a, s0)) (v1 : x1.vs[0]? = some (1, b, s1)) (hb : b ≠ 0) (hr : a.tmod b = 0) :
    Calls Tryd.prog 26 #[.agg #[.slice A args.length c]] w fun e w' => e = .returned (.agg #[.int .i64 1, .int .i64 0, .string ⟨#[]⟩]) ∧ Below w.heap.size w w' := by
  have C0 := Lib.hid (fun W (hW : AtA W A args) => cone_any W A args c 0 hW x0 _ h0 v0)
  have C1 := Lib.hid (fun W (hW : AtA W A args) => cone_any W A args c 1 hW x1 _ h1 v1)
  have I0 := Lib.hid (fun W => valInt_num W 1 a s0 (.inl rfl))
  have I1 := Lib.hid (fun W => valInt_num W 1 b s1 (.inl rfl))
  have f1 : (b == 0) = false := by simpa using hb
  have f1' : decide (b = 0) = false := by simpa using hb
  clear hb
  have hb0 := ((Below.refl w.heap.size w).alloc (Nat.le_refl _) (.cells #[.slice A args.length c] 44)).alloc (by simp) (.cells #[.int .i64 0, .int .i64 0, .string ⟨#[]⟩] 31)
  have hX : ((w.alloc (.cells #[.slice A args.length c] 44)).alloc (.cells #[.int .i64 0, .int .i64 0, .string ⟨#[]⟩] 31)).heap[w.heap.size]? = some (.cells #[.slice A args.length c] 44 (0, 0)) := (Below.heap_alloc _ _ _ (by simp)).trans (heap_alloc_new _ _)
  have hR : ((w.alloc (.cells #[.slice A args.length c] 44)).alloc (.cells #[.int .i64 0, .int .i64 0, .string ⟨#[]⟩] 31)).heap[w.heap.size + 1]? = some (.cells #[.int .i64 0, .int .i64 0, .string ⟨#[]⟩] 31 (0, 0)) := by rw [← World.size_alloc w (.cells #[.slice A args.length c] 44)]; exact heap_alloc_new _ _
  have hA0 := hA.below hb0
  obtain ⟨P, hP⟩ : ∃ P, w.heap.size = P := ⟨_, rfl⟩
  rw [hP] at hb0 hX hR
  clear h0 h1 v0 v1 hA
  go_enter Tryd.func26, Tryd.ntmps26
  go_wp2_with fail
  (try rw [hP])
  refine (C0.out _ hA0).mono ?_
  rintro e w1 ⟨rfl, hb1⟩
  have hX1 := (hb1.block _ (Array.getElem?_eq_some_iff.1 hX).1).trans hX
  have hR1 := (hb1.block _ (Array.getElem?_eq_some_iff.1 hR).1).trans hR
  have hA1 := hA0.below hb1
  have hb01 := hb0.trans (hb1.mono (by have := hb0.size; omega))
  have c1 := zf1 hX1
  clear hb1 hX hR hA0 hb0
  go_wp2_with fail
  refine (I0.out _).mono ?_
  rintro e w2 ⟨rfl, hb1⟩
  have hX2 := (hb1.block _ (Array.getElem?_eq_some_iff.1 hX1).1).trans hX1
  have hR2 := (hb1.block _ (Array.getElem?_eq_some_iff.1 hR1).1).trans hR1
  have hA2 := hA1.below hb1
  have hb02 := hb01.trans (hb1.mono (by have := hb01.size; omega))
  have c2 := zf1 hX2
  clear hb1 hX1 hR1 hA1 hb01 c1
  go_wp2_with fail
  refine (C1.out _ hA2).mono ?_
  rintro e w3 ⟨rfl, hb1⟩
  have hX3 := (hb1.block _ (Array.getElem?_eq_some_iff.1 hX2).1).trans hX2
  have hR3 := (hb1.block _ (Array.getElem?_eq_some_iff.1 hR2).1).trans hR2
  have hA3 := hA2.below hb1
  have hb03 := hb02.trans (hb1.mono (by have := hb02.size; omega))
  have c3 := zf1 hX3
  clear hb1 hX2 hR2 hA2 hb02 c2
  go_wp2_with fail
  refine (I1.out _).mono ?_
  rintro e w4 ⟨rfl, hb1⟩
  have hX4 := (hb1.block _ (Array.getElem?_eq_some_iff.1 hX3).1).trans hX3
  have hR4 := (hb1.block _ (Array.getElem?_eq_some_iff.1 hR3).1).trans hR3
  have hA4 := hA3.below hb1
  have hb04 := hb03.trans (hb1.mono (by have := hb03.size; omega))
  have c4 := zf1 hX4
  clear hb1 hX3 hR3 hA3 hb03 c3
  go_wp2_with fail
  · exfalso
    revert f1
    simp
    assumption
  refine (num_any _ 0).mono ?_
  rintro e w5 ⟨rfl, hb1⟩
  have hR5 := (hb1.block _ (Array.getElem?_eq_some_iff.1 hR4).1).trans hR4
  have hb5 := hb04.trans (hb1.mono (by have := hb04.size; omega))
  obtain ⟨r0, r1, r2, z0, z1, z2⟩ := val3 hR5
  clear hb1 hR4 hb04 c4
  go_wp2
  have hz := val_store (x := .int .i64 1) (y := .int .i64 0) (z := .string ⟨#[]⟩) hR5
  obtain ⟨q0, q1, q2, _⟩ := val3 hz
  refine bodyPost_ret (v := .agg #[.int .i64 1, .int .i64 0, .string ⟨#[]⟩]) ?_ rfl ?_
  · simp [results, Tryd.f26, go_sem, q0, q1, q2]
  · exact ⟨rfl, hP ▸ ((hb5.setCell (p := ⟨P + 1, 0, none⟩) (by show P ≤ P + 1; omega) _).setCell (p := ⟨P + 1, 1, none⟩) (by show P ≤ P + 1; omega) _).setCell (p := ⟨P + 1, 2, none⟩) (by show P ≤ P + 1; omega) _⟩
set_option maxRecDepth 100000 in
set_option maxHeartbeats 4000000 in
theorem mod_same_true (w : World) (A : Option Addr) (args : List FArg) (c : Nat) (hA : AtA w A args) (x0 x1 : FArg) (a b : Int) (s0 s1 : ByteArray) (h0 : args[0]? = some x0) (h1 : args[1]? = some x1) (v0 : x0.vs[0]? = some (1, a, s0)) (v1 : x1.vs[0]? = some (1, b, s1)) (r : Int) (hb : b ≠ 0) (hr : a.tmod b = r) (hr0 : r ≠ 0) (hx : r < 0) (hy : b < 0) :
    Calls Tryd.prog 26 #[.agg #[.slice A args.length c]] w fun e w' => e = .returned (.agg #[.int .i64 1, .int .i64 r, .string ⟨#[]⟩]) ∧ Below w.heap.size w w' := by
  have C0 := Lib.hid (fun W (hW : AtA W A args) => cone_any W A args c 0 hW x0 _ h0 v0)
  have C1 := Lib.hid (fun W (hW : AtA W A args) => cone_any W A args c 1 hW x1 _ h1 v1)
  have I0 := Lib.hid (fun W => valInt_num W 1 a s0 (.inl rfl))
  have I1 := Lib.hid (fun W => valInt_num W 1 b s1 (.inl rfl))
  have f1 : (b == 0) = false := by simpa using hb
  have f1' : decide (b = 0) = false := by simpa using hb
  have g1 : (r == 0) = false := by simpa using hr0
  have g1' : decide (r = 0) = false := by simpa using hr0
  have g1'' : (r != 0) = true := by simpa using hr0
  have t1 : decide (r < 0) = true := decide_eq_true (by omega)
  have t2 : decide (b < 0) = true := decide_eq_true (by omega)
  clear hb hr0 hx hy
  have hb0 := ((Below.refl w.heap.size w).alloc (Nat.le_refl _) (.cells #[.slice A args.length c] 44)).alloc (by simp) (.cells #[.int .i64 0, .int .i64 0, .string ⟨#[]⟩] 31)
  have hX : ((w.alloc (.cells #[.slice A args.length c] 44)).alloc (.cells #[.int .i64 0, .int .i64 0, .string ⟨#[]⟩] 31)).heap[w.heap.size]? = some (.cells #[.slice A args.length c] 44 (0, 0)) := (Below.heap_alloc _ _ _ (by simp)).trans (heap_alloc_new _ _)
  have hR : ((w.alloc (.cells #[.slice A args.length c] 44)).alloc (.cells #[.int .i64 0, .int .i64 0, .string ⟨#[]⟩] 31)).heap[w.heap.size + 1]? = some (.cells #[.int .i64 0, .int .i64 0, .string ⟨#[]⟩] 31 (0, 0)) := by rw [← World.size_alloc w (.cells #[.slice A args.length c] 44)]; exact heap_alloc_new _ _
  have hA0 := hA.below hb0
  obtain ⟨P, hP⟩ : ∃ P, w.heap.size = P := ⟨_, rfl⟩
  rw [hP] at hb0 hX hR
  clear h0 h1 v0 v1 hA
  go_enter Tryd.func26, Tryd.ntmps26
  go_wp2_with fail
  (try rw [hP])
  refine (C0.out _ hA0).mono ?_
  rintro e w1 ⟨rfl, hb1⟩
  have hX1 := (hb1.block _ (Array.getElem?_eq_some_iff.1 hX).1).trans hX
  have hR1 := (hb1.block _ (Array.getElem?_eq_some_iff.1 hR).1).trans hR
  have hA1 := hA0.below hb1
  have hb01 := hb0.trans (hb1.mono (by have := hb0.size; omega))
  have c1 := zf1 hX1
  clear hb1 hX hR hA0 hb0
  go_wp2_with fail
  refine (I0.out _).mono ?_
  rintro e w2 ⟨rfl, hb1⟩
  have hX2 := (hb1.block _ (Array.getElem?_eq_some_iff.1 hX1).1).trans hX1
  have hR2 := (hb1.block _ (Array.getElem?_eq_some_iff.1 hR1).1).trans hR1
  have hA2 := hA1.below hb1
  have hb02 := hb01.trans (hb1.mono (by have := hb01.size; omega))
  have c2 := zf1 hX2
  clear hb1 hX1 hR1 hA1 hb01 c1
  go_wp2_with fail
  refine (C1.out _ hA2).mono ?_
  rintro e w3 ⟨rfl, hb1⟩
  have hX3 := (hb1.block _ (Array.getElem?_eq_some_iff.1 hX2).1).trans hX2
  have hR3 := (hb1.block _ (Array.getElem?_eq_some_iff.1 hR2).1).trans hR2
  have hA3 := hA2.below hb1
  have hb03 := hb02.trans (hb1.mono (by have := hb02.size; omega))
  have c3 := zf1 hX3
  clear hb1 hX2 hR2 hA2 hb02 c2
  go_wp2_with fail
  refine (I1.out _).mono ?_
  rintro e w4 ⟨rfl, hb1⟩
  have hX4 := (hb1.block _ (Array.getElem?_eq_some_iff.1 hX3).1).trans hX3
  have hR4 := (hb1.block _ (Array.getElem?_eq_some_iff.1 hR3).1).trans hR3
  have hA4 := hA3.below hb1
  have hb04 := hb03.trans (hb1.mono (by have := hb03.size; omega))
  have c4 := zf1 hX4
  clear hb1 hX3 hR3 hA3 hb03 c3
  go_wp2_with fail
  · exfalso
    revert f1
    simp
    assumption
  refine (num_any _ r).mono ?_
  rintro e w5 ⟨rfl, hb1⟩
  have hR5 := (hb1.block _ (Array.getElem?_eq_some_iff.1 hR4).1).trans hR4
  have hb5 := hb04.trans (hb1.mono (by have := hb04.size; omega))
  obtain ⟨r0, r1, r2, z0, z1, z2⟩ := val3 hR5
  clear hb1 hR4 hb04 c4
  go_wp2
  have hz := val_store (x := .int .i64 1) (y := .int .i64 r) (z := .string ⟨#[]⟩) hR5
  obtain ⟨q0, q1, q2, _⟩ := val3 hz
  refine bodyPost_ret (v := .agg #[.int .i64 1, .int .i64 r, .string ⟨#[]⟩]) ?_ rfl ?_
  · simp [results, Tryd.f26, go_sem, q0, q1, q2]
  · exact ⟨rfl, hP ▸ ((hb5.setCell (p := ⟨P + 1, 0, none⟩) (by show P ≤ P + 1; omega) _).setCell (p := ⟨P + 1, 1, none⟩) (by show P ≤ P + 1; omega) _).setCell (p := ⟨P + 1, 2, none⟩) (by show P ≤ P + 1; omega) _⟩
set_option maxRecDepth 100000 in
set_option maxHeartbeats 4000000 in
theorem mod_same_false (w : World) (A : Option Addr) (args : List FArg) (c : Nat) (hA : AtA w A args) (x0 x1 : FArg) (a b : Int) (s0 s1 : ByteArray) (h0 : args[0]? = some x0) (h1 : args[1]? = some x1) (v0 : x0.vs[0]? = some (1, a, s0)) (v1 : x1.vs[0]? = some (1, b, s1)) (r : Int) (hb : b ≠ 0) (hr : a.tmod b = r) (hr0 : r ≠ 0) (hx : ¬ r < 0) (hy : ¬ b < 0) :
    Calls Tryd.prog 26 #[.agg #[.slice A args.length c]] w fun e w' => e = .returned (.agg #[.int .i64 1, .int .i64 r, .string ⟨#[]⟩]) ∧ Below w.heap.size w w' := by
  have C0 := Lib.hid (fun W (hW : AtA W A args) => cone_any W A args c 0 hW x0 _ h0 v0)
  have C1 := Lib.hid (fun W (hW : AtA W A args) => cone_any W A args c 1 hW x1 _ h1 v1)
  have I0 := Lib.hid (fun W => valInt_num W 1 a s0 (.inl rfl))
  have I1 := Lib.hid (fun W => valInt_num W 1 b s1 (.inl rfl))
  have f1 : (b == 0) = false := by simpa using hb
  have f1' : decide (b = 0) = false := by simpa using hb
  have g1 : (r == 0) = false := by simpa using hr0
  have g1' : decide (r = 0) = false := by simpa using hr0
  have g1'' : (r != 0) = true := by simpa using hr0
  have t1 : decide (r < 0) = false := decide_eq_false (by omega)
  have t2 : decide (b < 0) = false := decide_eq_false (by omega)
  clear hb hr0 hx hy
  have hb0 := ((Below.refl w.heap.size w).alloc (Nat.le_refl _) (.cells #[.slice A args.length c] 44)).alloc (by simp) (.cells #[.int .i64 0, .int .i64 0, .string ⟨#[]⟩] 31)
  have hX : ((w.alloc (.cells #[.slice A args.length c] 44)).alloc (.cells #[.int .i64 0, .int .i64 0, .string ⟨#[]⟩] 31)).heap[w.heap.size]? = some (.cells #[.slice A args.length c] 44 (0, 0)) := (Below.heap_alloc _ _ _ (by simp)).trans (heap_alloc_new _ _)
  have hR : ((w.alloc (.cells #[.slice A args.length c] 44)).alloc (.cells #[.int .i64 0, .int .i64 0, .string ⟨#[]⟩] 31)).heap[w.heap.size + 1]? = some (.cells #[.int .i64 0, .int .i64 0, .string ⟨#[]⟩] 31 (0, 0)) := by rw [← World.size_alloc w (.cells #[.slice A args.length c] 44)]; exact heap_alloc_new _ _
  have hA0 := hA.below hb0
  obtain ⟨P, hP⟩ : ∃ P, w.heap.size = P := ⟨_, rfl⟩
  rw [hP] at hb0 hX hR
  clear h0 h1 v0 v1 hA
  go_enter Tryd.func26, Tryd.ntmps26
  go_wp2_with fail
  (try rw [hP])
  refine (C0.out _ hA0).mono ?_
  rintro e w1 ⟨rfl, hb1⟩
  have hX1 := (hb1.block _ (Array.getElem?_eq_some_iff.1 hX).1).trans hX
  have hR1 := (hb1.block _ (Array.getElem?_eq_some_iff.1 hR).1).trans hR
  have hA1 := hA0.below hb1
  have hb01 := hb0.trans (hb1.mono (by have := hb0.size; omega))
  have c1 := zf1 hX1
  clear hb1 hX hR hA0 hb0
  go_wp2_with fail
  refine (I0.out _).mono ?_
  rintro e w2 ⟨rfl, hb1⟩
  have hX2 := (hb1.block _ (Array.getElem?_eq_some_iff.1 hX1).1).trans hX1
  have hR2 := (hb1.block _ (Array.getElem?_eq_some_iff.1 hR1).1).trans hR1
  have hA2 := hA1.below hb1
  have hb02 := hb01.trans (hb1.mono (by have := hb01.size; omega))
  have c2 := zf1 hX2
  clear hb1 hX1 hR1 hA1 hb01 c1
  go_wp2_with fail
  refine (C1.out _ hA2).mono ?_
  rintro e w3 ⟨rfl, hb1⟩
  have hX3 := (hb1.block _ (Array.getElem?_eq_some_iff.1 hX2).1).trans hX2
  have hR3 := (hb1.block _ (Array.getElem?_eq_some_iff.1 hR2).1).trans hR2
  have hA3 := hA2.below hb1
  have hb03 := hb02.trans (hb1.mono (by have := hb02.size; omega))
  have c3 := zf1 hX3
  clear hb1 hX2 hR2 hA2 hb02 c2
  go_wp2_with fail
  refine (I1.out _).mono ?_
  rintro e w4 ⟨rfl, hb1⟩
  have hX4 := (hb1.block _ (Array.getElem?_eq_some_iff.1 hX3).1).trans hX3
  have hR4 := (hb1.block _ (Array.getElem?_eq_some_iff.1 hR3).1).trans hR3
  have hA4 := hA3.below hb1
  have hb04 := hb03.trans (hb1.mono (by have := hb03.size; omega))
  have c4 := zf1 hX4
  clear hb1 hX3 hR3 hA3 hb03 c3
  go_wp2_with fail
  · exfalso
    revert f1
    simp
    assumption
  refine (num_any _ r).mono ?_
  rintro e w5 ⟨rfl, hb1⟩
  have hR5 := (hb1.block _ (Array.getElem?_eq_some_iff.1 hR4).1).trans hR4
  have hb5 := hb04.trans (hb1.mono (by have := hb04.size; omega))
  obtain ⟨r0, r1, r2, z0, z1, z2⟩ := val3 hR5
  clear hb1 hR4 hb04 c4
  go_wp2
  have hz := val_store (x := .int .i64 1) (y := .int .i64 r) (z := .string ⟨#[]⟩) hR5
  obtain ⟨q0, q1, q2, _⟩ := val3 hz
  refine bodyPost_ret (v := .agg #[.int .i64 1, .int .i64 r, .string ⟨#[]⟩]) ?_ rfl ?_
  · simp [results, Tryd.f26, go_sem, q0, q1, q2]
  · exact ⟨rfl, hP ▸ ((hb5.setCell (p := ⟨P + 1, 0, none⟩) (by show P ≤ P + 1; omega) _).setCell (p := ⟨P + 1, 1, none⟩) (by show P ≤ P + 1; omega) _).setCell (p := ⟨P + 1, 2, none⟩) (by show P ≤ P + 1; omega) _⟩
set_option maxRecDepth 100000 in
set_option maxHeartbeats 4000000 in
theorem mod_diff_true (w : World) (A : Option Addr) (args : List FArg) (c : Nat) (hA : AtA w A args) (x0 x1 : FArg) (a b : Int) (s0 s1 : ByteArray) (h0 : args[0]? = some x0) (h1 : args[1]? = some x1) (v0 : x0.vs[0]? = some (1, a, s0)) (v1 : x1.vs[0]? = some (1, b, s1)) (r : Int) (hb : b ≠ 0) (hr : a.tmod b = r) (hr0 : r ≠ 0) (hx : r < 0) (hy : ¬ b < 0) (hrb : InR (r + b)) :
    Calls Tryd.prog 26 #[.agg #[.slice A args.length c]] w fun e w' => e = .returned (.agg #[.int .i64 1, .int .i64 (r + b), .string ⟨#[]⟩]) ∧ Below w.heap.size w w' := by
  have C0 := Lib.hid (fun W (hW : AtA W A args) => cone_any W A args c 0 hW x0 _ h0 v0)
  have C1 := Lib.hid (fun W (hW : AtA W A args) => cone_any W A args c 1 hW x1 _ h1 v1)
  have I0 := Lib.hid (fun W => valInt_num W 1 a s0 (.inl rfl))
  have I1 := Lib.hid (fun W => valInt_num W 1 b s1 (.inl rfl))
  have f1 : (b == 0) = false := by simpa using hb
  have f1' : decide (b = 0) = false := by simpa using hb
  have g1 : (r == 0) = false := by simpa using hr0
  have g1' : decide (r = 0) = false := by simpa using hr0
  have g1'' : (r != 0) = true := by simpa using hr0
  have t1 : decide (r < 0) = true := decide_eq_true (by omega)
  have t2 : decide (b < 0) = false := decide_eq_false (by omega)
  have hwr : wrap64 (r + b) = r + b := wrap_in hrb
  clear hb hr0 hx hy hrb
  have hb0 := ((Below.refl w.heap.size w).alloc (Nat.le_refl _) (.cells #[.slice A args.length c] 44)).alloc (by simp) (.cells #[.int .i64 0, .int .i64 0, .string ⟨#[]⟩] 31)
  have hX : ((w.alloc (.cells #[.slice A args.length c] 44)).alloc (.cells #[.int .i64 0, .int .i64 0, .string ⟨#[]⟩] 31)).heap[w.heap.size]? = some (.cells #[.slice A args.length c] 44 (0, 0)) := (Below.heap_alloc _ _ _ (by simp)).trans (heap_alloc_new _ _)
  have hR : ((w.alloc (.cells #[.slice A args.length c] 44)).alloc (.cells #[.int .i64 0, .int .i64 0, .string ⟨#[]⟩] 31)).heap[w.heap.size + 1]? = some (.cells #[.int .i64 0, .int .i64 0, .string ⟨#[]⟩] 31 (0, 0)) := by rw [← World.size_alloc w (.cells #[.slice A args.length c] 44)]; exact heap_alloc_new _ _
  have hA0 := hA.below hb0
  obtain ⟨P, hP⟩ : ∃ P, w.heap.size = P := ⟨_, rfl⟩
  rw [hP] at hb0 hX hR
  clear h0 h1 v0 v1 hA
  go_enter Tryd.func26, Tryd.ntmps26
  go_wp2_with fail
  (try rw [hP])
  refine (C0.out _ hA0).mono ?_
  rintro e w1 ⟨rfl, hb1⟩
  have hX1 := (hb1.block _ (Array.getElem?_eq_some_iff.1 hX).1).trans hX
  have hR1 := (hb1.block _ (Array.getElem?_eq_some_iff.1 hR).1).trans hR
  have hA1 := hA0.below hb1
  have hb01 := hb0.trans (hb1.mono (by have := hb0.size; omega))
  have c1 := zf1 hX1
  clear hb1 hX hR hA0 hb0
  go_wp2_with fail
  refine (I0.out _).mono ?_
  rintro e w2 ⟨rfl, hb1⟩
  have hX2 := (hb1.block _ (Array.getElem?_eq_some_iff.1 hX1).1).trans hX1
  have hR2 := (hb1.block _ (Array.getElem?_eq_some_iff.1 hR1).1).trans hR1
  have hA2 := hA1.below hb1
  have hb02 := hb01.trans (hb1.mono (by have := hb01.size; omega))
  have c2 := zf1 hX2
  clear hb1 hX1 hR1 hA1 hb01 c1
  go_wp2_with fail
  refine (C1.out _ hA2).mono ?_
  rintro e w3 ⟨rfl, hb1⟩
  have hX3 := (hb1.block _ (Array.getElem?_eq_some_iff.1 hX2).1).trans hX2
  have hR3 := (hb1.block _ (Array.getElem?_eq_some_iff.1 hR2).1).trans hR2
  have hA3 := hA2.below hb1
  have hb03 := hb02.trans (hb1.mono (by have := hb02.size; omega))
  have c3 := zf1 hX3
  clear hb1 hX2 hR2 hA2 hb02 c2
  go_wp2_with fail
  refine (I1.out _).mono ?_
  rintro e w4 ⟨rfl, hb1⟩
  have hX4 := (hb1.block _ (Array.getElem?_eq_some_iff.1 hX3).1).trans hX3
  have hR4 := (hb1.block _ (Array.getElem?_eq_some_iff.1 hR3).1).trans hR3
  have hA4 := hA3.below hb1
  have hb04 := hb03.trans (hb1.mono (by have := hb03.size; omega))
  have c4 := zf1 hX4
  clear hb1 hX3 hR3 hA3 hb03 c3
  go_wp2_with fail
  · exfalso
    revert f1
    simp
    assumption
  refine (num_any _ (r + b)).mono ?_
  rintro e w5 ⟨rfl, hb1⟩
  have hR5 := (hb1.block _ (Array.getElem?_eq_some_iff.1 hR4).1).trans hR4
  have hb5 := hb04.trans (hb1.mono (by have := hb04.size; omega))
  obtain ⟨r0, r1, r2, z0, z1, z2⟩ := val3 hR5
  clear hb1 hR4 hb04 c4
  go_wp2
  have hz := val_store (x := .int .i64 1) (y := .int .i64 (r + b)) (z := .string ⟨#[]⟩) hR5
  obtain ⟨q0, q1, q2, _⟩ := val3 hz
  refine bodyPost_ret (v := .agg #[.int .i64 1, .int .i64 (r + b), .string ⟨#[]⟩]) ?_ rfl ?_
  · simp [results, Tryd.f26, go_sem, q0, q1, q2]
  · exact ⟨rfl, hP ▸ ((hb5.setCell (p := ⟨P + 1, 0, none⟩) (by show P ≤ P + 1; omega) _).setCell (p := ⟨P + 1, 1, none⟩) (by show P ≤ P + 1; omega) _).setCell (p := ⟨P + 1, 2, none⟩) (by show P ≤ P + 1; omega) _⟩
set_option maxRecDepth 100000 in
set_option maxHeartbeats 4000000 in
theorem mod_diff_false (w : World) (A : Option Addr) (args : List FArg) (c : Nat) (hA : AtA w A args) (x0 x1 : FArg) (a b : Int) (s0 s1 : ByteArray) (h0 : args[0]? = some x0) (h1 : args[1]? = some x1) (v0 : x0.vs[0]? = some (1, a, s0)) (v1 : x1.vs[0]? = some (1, b, s1)) (r : Int) (hb : b ≠ 0) (hr : a.tmod b = r) (hr0 : r ≠ 0) (hx : ¬ r < 0) (hy : b < 0) (hrb : InR (r + b)) :
    Calls Tryd.prog 26 #[.agg #[.slice A args.length c]] w fun e w' => e = .returned (.agg #[.int .i64 1, .int .i64 (r + b), .string ⟨#[]⟩]) ∧ Below w.heap.size w w' := by
  have C0 := Lib.hid (fun W (hW : AtA W A args) => cone_any W A args c 0 hW x0 _ h0 v0)
  have C1 := Lib.hid (fun W (hW : AtA W A args) => cone_any W A args c 1 hW x1 _ h1 v1)
  have I0 := Lib.hid (fun W => valInt_num W 1 a s0 (.inl rfl))
  have I1 := Lib.hid (fun W => valInt_num W 1 b s1 (.inl rfl))
  have f1 : (b == 0) = false := by simpa using hb
  have f1' : decide (b = 0) = false := by simpa using hb
  have g1 : (r == 0) = false := by simpa using hr0
  have g1' : decide (r = 0) = false := by simpa using hr0
  have g1'' : (r != 0) = true := by simpa using hr0
  have t1 : decide (r < 0) = false := decide_eq_false (by omega)
  have t2 : decide (b < 0) = true := decide_eq_true (by omega)
  have hwr : wrap64 (r + b) = r + b := wrap_in hrb
  clear hb hr0 hx hy hrb
  have hb0 := ((Below.refl w.heap.size w).alloc (Nat.le_refl _) (.cells #[.slice A args.length c] 44)).alloc (by simp) (.cells #[.int .i64 0, .int .i64 0, .string ⟨#[]⟩] 31)
  have hX : ((w.alloc (.cells #[.slice A args.length c] 44)).alloc (.cells #[.int .i64 0, .int .i64 0, .string ⟨#[]⟩] 31)).heap[w.heap.size]? = some (.cells #[.slice A args.length c] 44 (0, 0)) := (Below.heap_alloc _ _ _ (by simp)).trans (heap_alloc_new _ _)
  have hR : ((w.alloc (.cells #[.slice A args.length c] 44)).alloc (.cells #[.int .i64 0, .int .i64 0, .string ⟨#[]⟩] 31)).heap[w.heap.size + 1]? = some (.cells #[.int .i64 0, .int .i64 0, .string ⟨#[]⟩] 31 (0, 0)) := by rw [← World.size_alloc w (.cells #[.slice A args.length c] 44)]; exact heap_alloc_new _ _
  have hA0 := hA.below hb0
  obtain ⟨P, hP⟩ : ∃ P, w.heap.size = P := ⟨_, rfl⟩
  rw [hP] at hb0 hX hR
  clear h0 h1 v0 v1 hA
  go_enter Tryd.func26, Tryd.ntmps26
  go_wp2_with fail
  (try rw [hP])
  refine (C0.out _ hA0).mono ?_
  rintro e w1 ⟨rfl, hb1⟩
  have hX1 := (hb1.block _ (Array.getElem?_eq_some_iff.1 hX).1).trans hX
  have hR1 := (hb1.block _ (Array.getElem?_eq_some_iff.1 hR).1).trans hR
  have hA1 := hA0.below hb1
  have hb01 := hb0.trans (hb1.mono (by have := hb0.size; omega))
  have c1 := zf1 hX1
  clear hb1 hX hR hA0 hb0
  go_wp2_with fail
  refine (I0.out _).mono ?_
  rintro e w2 ⟨rfl, hb1⟩
  have hX2 := (hb1.block _ (Array.getElem?_eq_some_iff.1 hX1).1).trans hX1
  have hR2 := (hb1.block _ (Array.getElem?_eq_some_iff.1 hR1).1).trans hR1
  have hA2 := hA1.below hb1
  have hb02 := hb01.trans (hb1.mono (by have := hb01.size; omega))
  have c2 := zf1 hX2
  clear hb1 hX1 hR1 hA1 hb01 c1
  go_wp2_with fail
  refine (C1.out _ hA2).mono ?_
  rintro e w3 ⟨rfl, hb1⟩
  have hX3 := (hb1.block _ (Array.getElem?_eq_some_iff.1 hX2).1).trans hX2
  have hR3 := (hb1.block _ (Array.getElem?_eq_some_iff.1 hR2).1).trans hR2
  have hA3 := hA2.below hb1
  have hb03 := hb02.trans (hb1.mono (by have := hb02.size; omega))
  have c3 := zf1 hX3
  clear hb1 hX2 hR2 hA2 hb02 c2
  go_wp2_with fail
  refine (I1.out _).mono ?_
  rintro e w4 ⟨rfl, hb1⟩
  have hX4 := (hb1.block _ (Array.getElem?_eq_some_iff.1 hX3).1).trans hX3
  have hR4 := (hb1.block _ (Array.getElem?_eq_some_iff.1 hR3).1).trans hR3
  have hA4 := hA3.below hb1
  have hb04 := hb03.trans (hb1.mono (by have := hb03.size; omega))
  have c4 := zf1 hX4
  clear hb1 hX3 hR3 hA3 hb03 c3
  go_wp2_with fail
  · exfalso
    revert f1
    simp
    assumption
  refine (num_any _ (r + b)).mono ?_
  rintro e w5 ⟨rfl, hb1⟩
  have hR5 := (hb1.block _ (Array.getElem?_eq_some_iff.1 hR4).1).trans hR4
  have hb5 := hb04.trans (hb1.mono (by have := hb04.size; omega))
  obtain ⟨r0, r1, r2, z0, z1, z2⟩ := val3 hR5
  clear hb1 hR4 hb04 c4
  go_wp2
  have hz := val_store (x := .int .i64 1) (y := .int .i64 (r + b)) (z := .string ⟨#[]⟩) hR5
  obtain ⟨q0, q1, q2, _⟩ := val3 hz
  refine bodyPost_ret (v := .agg #[.int .i64 1, .int .i64 (r + b), .string ⟨#[]⟩]) ?_ rfl ?_
  · simp [results, Tryd.f26, go_sem, q0, q1, q2]
  · exact ⟨rfl, hP ▸ ((hb5.setCell (p := ⟨P + 1, 0, none⟩) (by show P ≤ P + 1; omega) _).setCell (p := ⟨P + 1, 1, none⟩) (by show P ≤ P + 1; omega) _).setCell (p := ⟨P + 1, 2, none⟩) (by show P ≤ P + 1; omega) _⟩
end Go.Proofs.YtcbaioagcemmnaaDoor
