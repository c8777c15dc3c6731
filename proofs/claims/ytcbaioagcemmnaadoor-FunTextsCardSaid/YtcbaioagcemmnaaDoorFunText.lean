/- (fun.call).many, length, left, right, mid at a text and numbers. Written by funtextgen.py. -/
import Derived.Test.YtcbaioagcemmnaaDoorFunLit
namespace Go.Proofs.YtcbaioagcemmnaaDoor
open Go.RowKit Go.Maps
theorem run_min2 {P : Program} (ts : Array TypeId) (t : TypeId) (k k' : IntKind) (x y : Int) (w : World) : (Builtin.min_ ts t #[.int k x, .int k' y]).run P w = .ok (.int k (min x y)) w := by
  rw [run_min_int2]
  congr 2
  split <;> omega
set_option maxRecDepth 100000 in
set_option maxHeartbeats 4000000 in
theorem many_ok (w : World) (A : Option Addr) (args : List FArg) (c i : Nat) (hA : AtA w A args) (x : FArg) (n : Int) (s : ByteArray) (h0 : args[i]? = some x) (v0 : x.vs[0]? = some (1, n, s)) (hn : 0 ≤ n) :
    Calls Tryd.prog 48 #[.agg #[.slice A args.length c], .int .i64 i] w fun e w' => e = .returned (.tuple #[.int .i64 n, .bool true]) ∧ Below w.heap.size w w' := by
  have C0 := Lib.hid (fun W (hW : AtA W A args) => cone_any W A args c i hW x _ h0 v0)
  have I0 := Lib.hid (fun W => valInt_num W 1 n s (.inl rfl))
  have hn1 : decide (0 ≤ n) = true := decide_eq_true hn
  have hb0 := (Below.refl w.heap.size w).alloc (Nat.le_refl _) (.cells #[.slice A args.length c] 44)
  have hA0 := hA.below hb0
  clear h0 v0 hA hn
  go_enter Tryd.func48, Tryd.ntmps48
  go_wp2_with fail
  refine (C0.out _ hA0).mono ?_
  rintro e w1 ⟨rfl, hb1⟩
  go_wp2_with fail
  refine (I0.out _).mono ?_
  rintro e w2 ⟨rfl, hb2⟩
  have hb3 := hb0.trans ((hb1.trans (hb2.mono hb1.size)).mono hb0.size)
  clear hb0 hb1 hb2 hA0
  go_wp2
  refine bodyPost_ret (v := .tuple #[.int .i64 n, .bool true]) ?_ rfl ⟨rfl, hb3⟩
  simp [results, Tryd.f48, go_sem]
set_option maxRecDepth 100000 in
set_option maxHeartbeats 4000000 in
theorem length_any (w : World) (A : Option Addr) (args : List FArg) (c : Nat) (hA : AtA w A args) (x : FArg) (n : Int) (s : ByteArray) (h0 : args[0]? = some x) (v0 : x.vs[0]? = some (2, n, s)) :
    Calls Tryd.prog 27 #[.agg #[.slice A args.length c]] w fun e w' => e = .returned (.agg #[.int .i64 1, .int .i64 s.size, .string ⟨#[]⟩]) ∧ Below w.heap.size w w' := by
  have C0 := Lib.hid (fun W (hW : AtA W A args) => cone_any W A args c 0 hW x _ h0 v0)
  have I0 := Lib.hid (fun W => text_str W n s)
  have hb0 := ((Below.refl w.heap.size w).alloc (Nat.le_refl _) (.cells #[.slice A args.length c] 44)).alloc (by simp) (.cells #[.int .i64 0, .int .i64 0, .string ⟨#[]⟩] 31)
  have hR : ((w.alloc (.cells #[.slice A args.length c] 44)).alloc (.cells #[.int .i64 0, .int .i64 0, .string ⟨#[]⟩] 31)).heap[w.heap.size + 1]? = some (.cells #[.int .i64 0, .int .i64 0, .string ⟨#[]⟩] 31 (0, 0)) := by rw [← World.size_alloc w (.cells #[.slice A args.length c] 44)]; exact heap_alloc_new _ _
  have hA0 := hA.below hb0
  obtain ⟨P, hP⟩ : ∃ P, w.heap.size = P := ⟨_, rfl⟩
  rw [hP] at hb0 hR
  clear h0 v0 hA
  go_enter Tryd.func27, Tryd.ntmps27
  go_wp2_with fail
  (try rw [hP])
  refine (C0.out _ hA0).mono ?_
  rintro e w1 ⟨rfl, hb1⟩
  have hR1 := (hb1.block _ (Array.getElem?_eq_some_iff.1 hR).1).trans hR
  have hb01 := hb0.trans (hb1.mono (by have := hb0.size; omega))
  clear hb1 hR hA0 hb0
  go_wp2_with fail
  refine (I0.out _).mono ?_
  rintro e w2 ⟨rfl, hb1⟩
  have hR2 := (hb1.block _ (Array.getElem?_eq_some_iff.1 hR1).1).trans hR1
  have hb02 := hb01.trans (hb1.mono (by have := hb01.size; omega))
  clear hb1 hR1 hb01
  go_wp2_with fail
  refine (num_any _ _).mono ?_
  rintro e w3 ⟨rfl, hb1⟩
  have hR3 := (hb1.block _ (Array.getElem?_eq_some_iff.1 hR2).1).trans hR2
  have hb03 := hb02.trans (hb1.mono (by have := hb02.size; omega))
  obtain ⟨r0, r1, r2, z0, z1, z2⟩ := val3 hR3
  clear hb1 hR2 hb02
  go_wp2
  have hz := val_store (x := .int .i64 1) (y := .int .i64 s.size) (z := .string ⟨#[]⟩) hR3
  obtain ⟨q0, q1, q2, _⟩ := val3 hz
  refine bodyPost_ret (v := .agg #[.int .i64 1, .int .i64 s.size, .string ⟨#[]⟩]) ?_ rfl ?_
  · simp [results, Tryd.f27, go_sem, q0, q1, q2]
  · exact ⟨rfl, hP ▸ ((hb03.setCell (p := ⟨P + 1, 0, none⟩) (by show P ≤ P + 1; omega) _).setCell (p := ⟨P + 1, 1, none⟩) (by show P ≤ P + 1; omega) _).setCell (p := ⟨P + 1, 2, none⟩) (by show P ≤ P + 1; omega) _⟩
set_option maxRecDepth 100000 in
set_option maxHeartbeats 4000000 in
theorem left_any (w : World) (A : Option Addr) (args : List FArg) (c : Nat) (hA : AtA w A args) (x x1 : FArg) (n0 : Int) (k : Nat) (s s1 : ByteArray) (h0 : args[0]? = some x) (v0 : x.vs[0]? = some (2, n0, s)) (h1 : args[1]? = some x1) (v1 : x1.vs[0]? = some (1, (k : Int), s1)) (hs : s.size ≤ 200) (hk : k ≤ 100) (t : ByteArray) (m : Nat) (hm : m = min k s.size) (ht : t = s.extract 0 m) :
    Calls Tryd.prog 28 #[.agg #[.slice A args.length c]] w fun e w' => e = .returned (.agg #[.int .i64 2, .int .i64 0, .string t]) ∧ Below w.heap.size w w' := by
  have C0 := Lib.hid (fun W (hW : AtA W A args) => cone_any W A args c 0 hW x _ h0 v0)
  have C1 := Lib.hid (fun W (hW : AtA W A args) => many_ok W A args c 1 hW x1 _ _ h1 v1 (by omega))
  have I0 := Lib.hid (fun W => text_str W n0 s)
  have hmin := @run_min2 Tryd.prog
  have hmi : min (k : Int) (s.size : Int) = (m : Int) := by omega
  have hms : m ≤ s.size := by omega
  clear hm
  have HT := Lib.hid ht
  clear ht
  have hb0 := ((Below.refl w.heap.size w).alloc (Nat.le_refl _) (.cells #[.slice A args.length c] 44)).alloc (by simp) (.cells #[.int .i64 0, .int .i64 0, .string ⟨#[]⟩] 31)
  have hX : ((w.alloc (.cells #[.slice A args.length c] 44)).alloc (.cells #[.int .i64 0, .int .i64 0, .string ⟨#[]⟩] 31)).heap[w.heap.size]? = some (.cells #[.slice A args.length c] 44 (0, 0)) := (Below.heap_alloc _ _ _ (by simp)).trans (heap_alloc_new _ _)
  have hR : ((w.alloc (.cells #[.slice A args.length c] 44)).alloc (.cells #[.int .i64 0, .int .i64 0, .string ⟨#[]⟩] 31)).heap[w.heap.size + 1]? = some (.cells #[.int .i64 0, .int .i64 0, .string ⟨#[]⟩] 31 (0, 0)) := by rw [← World.size_alloc w (.cells #[.slice A args.length c] 44)]; exact heap_alloc_new _ _
  have hA0 := hA.below hb0
  obtain ⟨P, hP⟩ : ∃ P, w.heap.size = P := ⟨_, rfl⟩
  rw [hP] at hb0 hX hR
  clear h0 v0 h1 v1 hA
  go_enter Tryd.func28, Tryd.ntmps28
  go_wp2_with fail
  (try rw [hP])
  refine (C0.out _ hA0).mono ?_
  rintro e w1 ⟨rfl, hb1⟩
  have hX1 := (hb1.block _ (Array.getElem?_eq_some_iff.1 hX).1).trans hX
  have hR1 := (hb1.block _ (Array.getElem?_eq_some_iff.1 hR).1).trans hR
  have hA1 := hA0.below hb1
  have hb01 := hb0.trans (hb1.mono (by have := hb0.size; omega))
  clear hb1 hX hR hA0 hb0
  go_wp2_with fail
  refine (I0.out _).mono ?_
  rintro e w2 ⟨rfl, hb1⟩
  have hX2 := (hb1.block _ (Array.getElem?_eq_some_iff.1 hX1).1).trans hX1
  have hR2 := (hb1.block _ (Array.getElem?_eq_some_iff.1 hR1).1).trans hR1
  have hA2 := hA1.below hb1
  have hb02 := hb01.trans (hb1.mono (by have := hb01.size; omega))
  have c2 := zf1 hX2
  clear hb1 hX1 hR1 hA1 hb01
  go_wp2_with fail
  refine (C1.out _ hA2).mono ?_
  rintro e w3 ⟨rfl, hb1⟩
  have hR3 := (hb1.block _ (Array.getElem?_eq_some_iff.1 hR2).1).trans hR2
  have hb03 := hb02.trans (hb1.mono (by have := hb02.size; omega))
  clear hb1 hX2 hR2 hA2 hb02 c2
  have hvs : vstr t = (2, 0, t) := if_neg (by rw [HT.out, ByteArray.size_extract]; omega)
  go_wp2_with fail
  rw [← HT.out]
  refine (str_any _ t).mono ?_
  rintro e w4 ⟨rfl, hb1⟩
  rw [hvs]
  have hR4 := (hb1.block _ (Array.getElem?_eq_some_iff.1 hR3).1).trans hR3
  have hb04 := hb03.trans (hb1.mono (by have := hb03.size; omega))
  obtain ⟨r0, r1, r2, z0, z1, z2⟩ := val3 hR4
  clear hb1 hR3 hb03 hvs
  go_wp2
  have hz := val_store (x := .int .i64 2) (y := .int .i64 0) (z := .string t) hR4
  obtain ⟨q0, q1, q2, _⟩ := val3 hz
  refine bodyPost_ret (v := .agg #[.int .i64 2, .int .i64 0, .string t]) ?_ rfl ?_
  · simp [results, Tryd.f28, go_sem, q0, q1, q2]
  · exact ⟨rfl, hP ▸ ((hb04.setCell (p := ⟨P + 1, 0, none⟩) (by show P ≤ P + 1; omega) _).setCell (p := ⟨P + 1, 1, none⟩) (by show P ≤ P + 1; omega) _).setCell (p := ⟨P + 1, 2, none⟩) (by show P ≤ P + 1; omega) _⟩
set_option maxRecDepth 100000 in
set_option maxHeartbeats 4000000 in
theorem right_any (w : World) (A : Option Addr) (args : List FArg) (c : Nat) (hA : AtA w A args) (x x1 : FArg) (n0 : Int) (k : Nat) (s s1 : ByteArray) (h0 : args[0]? = some x) (v0 : x.vs[0]? = some (2, n0, s)) (h1 : args[1]? = some x1) (v1 : x1.vs[0]? = some (1, (k : Int), s1)) (hs : s.size ≤ 200) (hk : k ≤ 100) (t : ByteArray) (m : Nat) (hm : m = min k s.size) (ht : t = s.extract (s.size - m) s.size) :
    Calls Tryd.prog 29 #[.agg #[.slice A args.length c]] w fun e w' => e = .returned (.agg #[.int .i64 2, .int .i64 0, .string t]) ∧ Below w.heap.size w w' := by
  have C0 := Lib.hid (fun W (hW : AtA W A args) => cone_any W A args c 0 hW x _ h0 v0)
  have C1 := Lib.hid (fun W (hW : AtA W A args) => many_ok W A args c 1 hW x1 _ _ h1 v1 (by omega))
  have I0 := Lib.hid (fun W => text_str W n0 s)
  have hmin := @run_min2 Tryd.prog
  have hmi : min (k : Int) (s.size : Int) = (m : Int) := by omega
  have hms : m ≤ s.size := by omega
  clear hm
  have HT := Lib.hid ht
  clear ht
  have hb0 := ((Below.refl w.heap.size w).alloc (Nat.le_refl _) (.cells #[.slice A args.length c] 44)).alloc (by simp) (.cells #[.int .i64 0, .int .i64 0, .string ⟨#[]⟩] 31)
  have hX : ((w.alloc (.cells #[.slice A args.length c] 44)).alloc (.cells #[.int .i64 0, .int .i64 0, .string ⟨#[]⟩] 31)).heap[w.heap.size]? = some (.cells #[.slice A args.length c] 44 (0, 0)) := (Below.heap_alloc _ _ _ (by simp)).trans (heap_alloc_new _ _)
  have hR : ((w.alloc (.cells #[.slice A args.length c] 44)).alloc (.cells #[.int .i64 0, .int .i64 0, .string ⟨#[]⟩] 31)).heap[w.heap.size + 1]? = some (.cells #[.int .i64 0, .int .i64 0, .string ⟨#[]⟩] 31 (0, 0)) := by rw [← World.size_alloc w (.cells #[.slice A args.length c] 44)]; exact heap_alloc_new _ _
  have hA0 := hA.below hb0
  obtain ⟨P, hP⟩ : ∃ P, w.heap.size = P := ⟨_, rfl⟩
  rw [hP] at hb0 hX hR
  clear h0 v0 h1 v1 hA
  go_enter Tryd.func29, Tryd.ntmps29
  go_wp2_with fail
  (try rw [hP])
  refine (C0.out _ hA0).mono ?_
  rintro e w1 ⟨rfl, hb1⟩
  have hX1 := (hb1.block _ (Array.getElem?_eq_some_iff.1 hX).1).trans hX
  have hR1 := (hb1.block _ (Array.getElem?_eq_some_iff.1 hR).1).trans hR
  have hA1 := hA0.below hb1
  have hb01 := hb0.trans (hb1.mono (by have := hb0.size; omega))
  clear hb1 hX hR hA0 hb0
  go_wp2_with fail
  refine (I0.out _).mono ?_
  rintro e w2 ⟨rfl, hb1⟩
  have hX2 := (hb1.block _ (Array.getElem?_eq_some_iff.1 hX1).1).trans hX1
  have hR2 := (hb1.block _ (Array.getElem?_eq_some_iff.1 hR1).1).trans hR1
  have hA2 := hA1.below hb1
  have hb02 := hb01.trans (hb1.mono (by have := hb01.size; omega))
  have c2 := zf1 hX2
  clear hb1 hX1 hR1 hA1 hb01
  go_wp2_with fail
  refine (C1.out _ hA2).mono ?_
  rintro e w3 ⟨rfl, hb1⟩
  have hR3 := (hb1.block _ (Array.getElem?_eq_some_iff.1 hR2).1).trans hR2
  have hb03 := hb02.trans (hb1.mono (by have := hb02.size; omega))
  clear hb1 hX2 hR2 hA2 hb02 c2
  have hvs : vstr t = (2, 0, t) := if_neg (by rw [HT.out, ByteArray.size_extract]; omega)
  go_wp2_with fail
  rw [← HT.out]
  refine (str_any _ t).mono ?_
  rintro e w4 ⟨rfl, hb1⟩
  rw [hvs]
  have hR4 := (hb1.block _ (Array.getElem?_eq_some_iff.1 hR3).1).trans hR3
  have hb04 := hb03.trans (hb1.mono (by have := hb03.size; omega))
  obtain ⟨r0, r1, r2, z0, z1, z2⟩ := val3 hR4
  clear hb1 hR3 hb03 hvs
  go_wp2
  have hz := val_store (x := .int .i64 2) (y := .int .i64 0) (z := .string t) hR4
  obtain ⟨q0, q1, q2, _⟩ := val3 hz
  refine bodyPost_ret (v := .agg #[.int .i64 2, .int .i64 0, .string t]) ?_ rfl ?_
  · simp [results, Tryd.f29, go_sem, q0, q1, q2]
  · exact ⟨rfl, hP ▸ ((hb04.setCell (p := ⟨P + 1, 0, none⟩) (by show P ≤ P + 1; omega) _).setCell (p := ⟨P + 1, 1, none⟩) (by show P ≤ P + 1; omega) _).setCell (p := ⟨P + 1, 2, none⟩) (by show P ≤ P + 1; omega) _⟩
set_option maxRecDepth 100000 in
set_option maxHeartbeats 4000000 in
theorem mid_any (w : World) (A : Option Addr) (args : List FArg) (c : Nat) (hA : AtA w A args) (x x1 : FArg) (n0 : Int) (k : Nat) (s s1 : ByteArray) (h0 : args[0]? = some x) (v0 : x.vs[0]? = some (2, n0, s)) (h1 : args[2]? = some x1) (v1 : x1.vs[0]? = some (1, (k : Int), s1)) (_ : s.size ≤ 200) (hk : k ≤ 100) (t : ByteArray) (m : Nat) (x2 : FArg) (p : Nat) (s2 : ByteArray) (h2 : args[1]? = some x2) (v2 : x2.vs[0]? = some (1, (p : Int), s2)) (hp : 1 ≤ p) (hp2 : p ≤ 100) (f : Nat) (hf : f = min (p - 1) s.size) (hm : m = min k (s.size - f)) (ht : t = (s.extract f s.size).extract 0 m) :
    Calls Tryd.prog 30 #[.agg #[.slice A args.length c]] w fun e w' => e = .returned (.agg #[.int .i64 2, .int .i64 0, .string t]) ∧ Below w.heap.size w w' := by
  have C0 := Lib.hid (fun W (hW : AtA W A args) => cone_any W A args c 0 hW x _ h0 v0)
  have C1 := Lib.hid (fun W (hW : AtA W A args) => many_ok W A args c 2 hW x1 _ _ h1 v1 (by omega))
  have C2 := Lib.hid (fun W (hW : AtA W A args) => many_ok W A args c 1 hW x2 _ _ h2 v2 (by omega))
  have I0 := Lib.hid (fun W => text_str W n0 s)
  have hmin := @run_min2 Tryd.prog
  have hm1 : wrap64 ((p : Int) - 1) = (p : Int) - 1 := wrap_in (by unfold InR; omega)
  have hmi : min ((p : Int) - 1) (s.size : Int) = (f : Int) := by omega
  have hfs : f ≤ s.size := by omega
  have hes : (s.extract f s.size).size = s.size - f := by rw [ByteArray.size_extract]; omega
  have hmk : min (k : Int) ((s.extract f s.size).size : Int) = (m : Int) := by rw [hes]; omega
  have hmk2 : min (k : Int) ((s.size - f : Nat) : Int) = (m : Int) := by omega
  have hms : m ≤ (s.extract f s.size).size := by rw [hes]; omega
  have hp1 : decide ((p : Int) < 1) = false := decide_eq_false (by omega)
  have HT := Lib.hid ht
  clear hm hf ht h2 v2
  have hb0 := ((Below.refl w.heap.size w).alloc (Nat.le_refl _) (.cells #[.slice A args.length c] 44)).alloc (by simp) (.cells #[.int .i64 0, .int .i64 0, .string ⟨#[]⟩] 31)
  have hX : ((w.alloc (.cells #[.slice A args.length c] 44)).alloc (.cells #[.int .i64 0, .int .i64 0, .string ⟨#[]⟩] 31)).heap[w.heap.size]? = some (.cells #[.slice A args.length c] 44 (0, 0)) := (Below.heap_alloc _ _ _ (by simp)).trans (heap_alloc_new _ _)
  have hR : ((w.alloc (.cells #[.slice A args.length c] 44)).alloc (.cells #[.int .i64 0, .int .i64 0, .string ⟨#[]⟩] 31)).heap[w.heap.size + 1]? = some (.cells #[.int .i64 0, .int .i64 0, .string ⟨#[]⟩] 31 (0, 0)) := by rw [← World.size_alloc w (.cells #[.slice A args.length c] 44)]; exact heap_alloc_new _ _
  have hA0 := hA.below hb0
  obtain ⟨P, hP⟩ : ∃ P, w.heap.size = P := ⟨_, rfl⟩
  rw [hP] at hb0 hX hR
  clear h0 v0 h1 v1 hA
  go_enter Tryd.func30, Tryd.ntmps30
  go_wp2_with fail
  (try rw [hP])
  refine (C0.out _ hA0).mono ?_
  rintro e w1 ⟨rfl, hb1⟩
  have hX1 := (hb1.block _ (Array.getElem?_eq_some_iff.1 hX).1).trans hX
  have hR1 := (hb1.block _ (Array.getElem?_eq_some_iff.1 hR).1).trans hR
  have hA1 := hA0.below hb1
  have hb01 := hb0.trans (hb1.mono (by have := hb0.size; omega))
  clear hb1 hX hR hA0 hb0
  go_wp2_with fail
  refine (I0.out _).mono ?_
  rintro e w2 ⟨rfl, hb1⟩
  have hX2 := (hb1.block _ (Array.getElem?_eq_some_iff.1 hX1).1).trans hX1
  have hR2 := (hb1.block _ (Array.getElem?_eq_some_iff.1 hR1).1).trans hR1
  have hA2 := hA1.below hb1
  have hb02 := hb01.trans (hb1.mono (by have := hb01.size; omega))
  have c2 := zf1 hX2
  clear hb1 hX1 hR1 hA1 hb01
  go_wp2_with fail
  refine (C2.out _ hA2).mono ?_
  rintro e w3 ⟨rfl, hb1⟩
  have hX3 := (hb1.block _ (Array.getElem?_eq_some_iff.1 hX2).1).trans hX2
  have hR3 := (hb1.block _ (Array.getElem?_eq_some_iff.1 hR2).1).trans hR2
  have hA3 := hA2.below hb1
  have hb03 := hb02.trans (hb1.mono (by have := hb02.size; omega))
  clear c2
  have c3 := zf1 hX3
  clear hb1 hX2 hR2 hA2 hb02
  go_wp2_with fail
  refine (C1.out _ hA3).mono ?_
  rintro e w4 ⟨rfl, hb1⟩
  have hR4 := (hb1.block _ (Array.getElem?_eq_some_iff.1 hR3).1).trans hR3
  have hb04 := hb03.trans (hb1.mono (by have := hb03.size; omega))
  clear hb1 hX3 hR3 hA3 hb03 c3
  have hvs : vstr t = (2, 0, t) := if_neg (by rw [HT.out, ByteArray.size_extract]; have := hms; omega)
  go_wp2_with fail
  rw [← HT.out]
  refine (str_any _ t).mono ?_
  rintro e w5 ⟨rfl, hb1⟩
  rw [hvs]
  have hR5 := (hb1.block _ (Array.getElem?_eq_some_iff.1 hR4).1).trans hR4
  have hb05 := hb04.trans (hb1.mono (by have := hb04.size; omega))
  obtain ⟨r0, r1, r2, z0, z1, z2⟩ := val3 hR5
  clear hb1 hR4 hb04 hvs
  go_wp2
  have hz := val_store (x := .int .i64 2) (y := .int .i64 0) (z := .string t) hR5
  obtain ⟨q0, q1, q2, _⟩ := val3 hz
  refine bodyPost_ret (v := .agg #[.int .i64 2, .int .i64 0, .string t]) ?_ rfl ?_
  · simp [results, Tryd.f30, go_sem, q0, q1, q2]
  · exact ⟨rfl, hP ▸ ((hb05.setCell (p := ⟨P + 1, 0, none⟩) (by show P ≤ P + 1; omega) _).setCell (p := ⟨P + 1, 1, none⟩) (by show P ≤ P + 1; omega) _).setCell (p := ⟨P + 1, 2, none⟩) (by show P ≤ P + 1; omega) _⟩
end Go.Proofs.YtcbaioagcemmnaaDoor
