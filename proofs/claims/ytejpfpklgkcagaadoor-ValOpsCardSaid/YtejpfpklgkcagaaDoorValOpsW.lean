/- The walk of ValOps. Written by valopsgen.py. -/
import Derived.Test.YtejpfpklgkcagaaDoorValCmpE
namespace Go.Proofs.YtejpfpklgkcagaaDoor
open Go.RowKit Go.Maps
/-- a value by numbers -/
def vmake (k n : Int) (s : ByteArray) : V3 := if k % 5 = 1 then (1, n, noB) else if k % 5 = 2 then (if 200 < s.size then (2, 0, noB) else (2, 0, s)) else if k % 5 = 3 then (3, bits .and .i64 n 1, noB) else if k % 5 = 4 then (4, 1 + (bits .and .i64 n 1023) % 6, noB) else (0, 0, noB)
theorem bits_low (n : Int) (c : Nat) (hc : c ≤ 1023) : ∃ m : Nat, m ≤ c ∧ bits .and .i64 n (c : Int) = (m : Int) := by
  refine ⟨((BitVec.ofInt 64 n) &&& (BitVec.ofInt 64 (c : Int))).toNat, ?_, ?_⟩
  · rw [BitVec.toNat_and]
    refine Nat.le_trans Nat.and_le_right ?_
    rw [BitVec.ofInt_natCast, BitVec.toNat_ofNat]
    exact Nat.mod_le _ _
  · have h : ((BitVec.ofInt 64 n) &&& (BitVec.ofInt 64 (c : Int))).toNat ≤ 1023 := by
      rw [BitVec.toNat_and]
      refine Nat.le_trans Nat.and_le_right ?_
      rw [BitVec.ofInt_natCast, BitVec.toNat_ofNat]
      exact Nat.le_trans (Nat.mod_le _ _) hc
    show IntKind.i64.wrap (((BitVec.ofInt 64 n) &&& (BitVec.ofInt 64 (c : Int))).toNat : Int) = _
    generalize ((BitVec.ofInt 64 n) &&& (BitVec.ofInt 64 (c : Int))).toNat = m at *
    simp [IntKind.wrap, IntKind.signed, IntKind.bits]
    omega
set_option maxRecDepth 100000 in
set_option maxHeartbeats 2000000 in
theorem make_k1 (w : World) (k : Nat) (n : Int) (s : ByteArray) (hk : (k : Int) % 5 = 1) : Calls Tryd.prog 10 #[.int .u8 k, .int .i64 n, .string s] w fun e w' => e = .returned (.agg #[.int .i64 1, .int .i64 n, .string ⟨#[]⟩]) ∧ Below w.heap.size w w' := by
  go_enter Tryd.func10, Tryd.ntmps10
  go_wp2
  all_goals first
    | (exfalso; omega)
    | (refine bodyPost_ret (v := .agg #[.int .i64 1, .int .i64 n, .string ⟨#[]⟩]) ?_ rfl ⟨rfl, (Below.refl _ _).alloc (Nat.le_refl _) _⟩; simp [results, Tryd.f10, go_sem]; done)
set_option maxRecDepth 100000 in
set_option maxHeartbeats 2000000 in
theorem make_k2L (w : World) (k : Nat) (n : Int) (s : ByteArray) (hk : (k : Int) % 5 = 2) (hs : (200 : Int) < (s.size : Int)) : Calls Tryd.prog 10 #[.int .u8 k, .int .i64 n, .string s] w fun e w' => e = .returned (.agg #[.int .i64 2, .int .i64 0, .string ⟨#[]⟩]) ∧ Below w.heap.size w w' := by
  go_enter Tryd.func10, Tryd.ntmps10
  go_wp2
  all_goals first
    | (exfalso; omega)
    | (refine bodyPost_ret (v := .agg #[.int .i64 2, .int .i64 0, .string ⟨#[]⟩]) ?_ rfl ⟨rfl, (Below.refl _ _).alloc (Nat.le_refl _) _⟩; simp [results, Tryd.f10, go_sem]; done)
set_option maxRecDepth 100000 in
set_option maxHeartbeats 2000000 in
theorem make_k2S (w : World) (k : Nat) (n : Int) (s : ByteArray) (hk : (k : Int) % 5 = 2) (hs : (s.size : Int) ≤ 200) : Calls Tryd.prog 10 #[.int .u8 k, .int .i64 n, .string s] w fun e w' => e = .returned (.agg #[.int .i64 2, .int .i64 0, .string s]) ∧ Below w.heap.size w w' := by
  go_enter Tryd.func10, Tryd.ntmps10
  go_wp2
  all_goals first
    | (exfalso; omega)
    | (refine bodyPost_ret (v := .agg #[.int .i64 2, .int .i64 0, .string s]) ?_ rfl ⟨rfl, (Below.refl _ _).alloc (Nat.le_refl _) _⟩; simp [results, Tryd.f10, go_sem]; done)
set_option maxRecDepth 100000 in
set_option maxHeartbeats 2000000 in
theorem make_k3 (w : World) (k : Nat) (n : Int) (s : ByteArray) (hk : (k : Int) % 5 = 3) : Calls Tryd.prog 10 #[.int .u8 k, .int .i64 n, .string s] w fun e w' => e = .returned (.agg #[.int .i64 3, .int .i64 (bits .and .i64 n 1), .string ⟨#[]⟩]) ∧ Below w.heap.size w w' := by
  go_enter Tryd.func10, Tryd.ntmps10
  go_wp2
  all_goals first
    | (exfalso; omega)
    | (refine bodyPost_ret (v := .agg #[.int .i64 3, .int .i64 (bits .and .i64 n 1), .string ⟨#[]⟩]) ?_ rfl ⟨rfl, (Below.refl _ _).alloc (Nat.le_refl _) _⟩; simp [results, Tryd.f10, go_sem]; done)
set_option maxRecDepth 100000 in
set_option maxHeartbeats 2000000 in
theorem make_k4 (w : World) (k : Nat) (n : Int) (s : ByteArray) (hk : (k : Int) % 5 = 4) : Calls Tryd.prog 10 #[.int .u8 k, .int .i64 n, .string s] w fun e w' => e = .returned (.agg #[.int .i64 4, .int .i64 (1 + (bits .and .i64 n 1023) % 6), .string ⟨#[]⟩]) ∧ Below w.heap.size w w' := by
  obtain ⟨m, hm, hb⟩ := bits_low n 1023 (Nat.le_refl _)
  have hb' : bits .and .i64 n 1023 = (m : Int) := hb
  have hw : IntKind.i64.wrap (m : Int) = m := by simp [IntKind.wrap, IntKind.signed, IntKind.bits]; omega
  rw [hb']
  clear hb
  go_enter Tryd.func10, Tryd.ntmps10
  go_wp2
  all_goals first
    | (exfalso; omega)
    | (refine bodyPost_ret (v := .agg #[.int .i64 4, .int .i64 (1 + (m : Int) % 6), .string ⟨#[]⟩]) ?_ rfl ⟨rfl, (Below.refl _ _).alloc (Nat.le_refl _) _⟩; simp [results, Tryd.f10, go_sem]; done)
set_option maxRecDepth 100000 in
set_option maxHeartbeats 2000000 in
theorem make_k0 (w : World) (k : Nat) (n : Int) (s : ByteArray) (hk : (k : Int) % 5 = 0) : Calls Tryd.prog 10 #[.int .u8 k, .int .i64 n, .string s] w fun e w' => e = .returned (.agg #[.int .i64 0, .int .i64 0, .string ⟨#[]⟩]) ∧ Below w.heap.size w w' := by
  go_enter Tryd.func10, Tryd.ntmps10
  go_wp2
  all_goals first
    | (exfalso; omega)
    | (refine bodyPost_ret (v := .agg #[.int .i64 0, .int .i64 0, .string ⟨#[]⟩]) ?_ rfl ⟨rfl, (Below.refl _ _).alloc (Nat.le_refl _) _⟩; simp [results, Tryd.f10, go_sem]; done)
theorem make_any (w : World) (k : Nat) (n : Int) (s : ByteArray) : Calls Tryd.prog 10 #[.int .u8 k, .int .i64 n, .string s] w fun e w' => e = .returned (vv (vmake k n s)) ∧ Below w.heap.size w w' := by
  unfold vmake
  by_cases h1 : (k : Int) % 5 = 1
  · rw [if_pos h1]; exact make_k1 w k n s h1
  by_cases h2 : (k : Int) % 5 = 2
  · rw [if_neg h1, if_pos h2]
    by_cases hs : 200 < s.size
    · rw [if_pos hs]; exact make_k2L w k n s h2 (by omega)
    · rw [if_neg hs]; exact make_k2S w k n s h2 (by omega)
  by_cases h3 : (k : Int) % 5 = 3
  · rw [if_neg h1, if_neg h2, if_pos h3]; exact make_k3 w k n s h3
  by_cases h4 : (k : Int) % 5 = 4
  · rw [if_neg h1, if_neg h2, if_neg h3, if_pos h4]; exact make_k4 w k n s h4
  · rw [if_neg h1, if_neg h2, if_neg h3, if_neg h4]; exact make_k0 w k n s (by omega)
theorem vmake_may (k : Nat) (n : Int) (s : ByteArray) (hn : InR n) : mayV (vmake k n s) ∧ InR (vmake k n s).2.1 := by
  obtain ⟨m, hm, hb⟩ := bits_low n 1023 (by decide)
  have hb' : bits .and .i64 n 1023 = (m : Int) := hb
  obtain ⟨m1, hm1, hb1⟩ := bits_low n 1 (by decide)
  have hb1' : bits .and .i64 n 1 = (m1 : Int) := hb1
  have r0 : InR 0 := ⟨by decide, by decide⟩
  unfold vmake
  split
  · exact ⟨.inr (.inl ⟨rfl, rfl⟩), hn⟩
  split
  · split
    · exact ⟨.inr (.inr (.inl ⟨rfl, rfl, by decide⟩)), r0⟩
    · exact ⟨.inr (.inr (.inl ⟨rfl, rfl, by show s.size ≤ 200; omega⟩)), r0⟩
  split
  · rw [hb1']
    exact ⟨.inr (.inr (.inr (.inl ⟨rfl, rfl, by show (m1 : Int) = 0 ∨ (m1 : Int) = 1; omega⟩))), by show InR (m1 : Int); unfold InR; omega⟩
  split
  · rw [hb']
    exact ⟨.inr (.inr (.inr (.inr ⟨rfl, rfl, by show (1 : Int) ≤ 1 + (m : Int) % 6; omega, by show 1 + (m : Int) % 6 ≤ 6; omega⟩))), by show InR (1 + (m : Int) % 6); unfold InR; omega⟩
  · exact ⟨.inl ⟨rfl, rfl, rfl⟩, r0⟩
theorem inR_res (z : Int) : InR (resV z).2.1 := by
  unfold resV
  split
  · assumption
  · exact ⟨by decide, by decide⟩
theorem inR_neg {x : V3} (h : InR x.2.1) : InR (vneg x).2.1 := by
  unfold vneg
  repeat' split
  all_goals first | assumption | exact inR_res _ | exact ⟨by show (_ : Int) ≤ 1; decide, by show (1 : Int) ≤ _; decide⟩
set_option maxRecDepth 100000 in
set_option maxHeartbeats 2000000 in
theorem valOps_walk (w : World) (op0 k0 l0 a b : Int) (s t : ByteArray) (h1 : (Lit.int .u8 op0).wf = true) (h2 : (Lit.int .u8 k0).wf = true) (h3 : (Lit.int .u8 l0).wf = true) (h4 : (Lit.int .i64 a).wf = true) (h5 : (Lit.int .i64 b).wf = true) (_ : s.size ≤ maxLen) (_ : t.size ≤ maxLen) (htab : Tab w) :
    Calls Tryd.prog 5 #[.int .u8 op0, .int .u8 k0, .int .u8 l0, .int .i64 a, .int .i64 b, .string s, .string t] w fun e w' => e = .returned (.bool true) ∧ Below w.heap.size w w' := by
  have nat8 : ∀ z : Int, (Lit.int .u8 z).wf = true → ∃ q : Nat, z = (q : Int) ∧ q < 256 := fun z h => by
    simp [Lit.wf, IntKind.min, IntKind.max, IntKind.signed, IntKind.bits] at h; exact ⟨z.toNat, by omega, by omega⟩
  have wr8 : ∀ q : Nat, q < 256 → IntKind.i64.wrap (q : Int) = q := fun q h => by simp [IntKind.wrap, IntKind.signed, IntKind.bits]; omega
  obtain ⟨op, rfl, ho⟩ := nat8 op0 h1
  obtain ⟨k, rfl, hk⟩ := nat8 k0 h2
  obtain ⟨l, rfl, hl⟩ := nat8 l0 h3
  have w1 := wr8 op ho
  have ra := inR_wf.1 h4
  have rb := inR_wf.1 h5
  obtain ⟨kd, hkd⟩ : ∃ kd : Int, 9 + (op : Int) % 11 = kd := ⟨_, rfl⟩
  have m1 := vmake_may k a s ra
  have m2 := vmake_may l b t rb
  have CX := Lib.hid (fun W => make_any W k a s)
  have CY := Lib.hid (fun W => make_any W l b t)
  obtain ⟨X, hX⟩ : ∃ X, vmake k a s = X := ⟨_, rfl⟩
  obtain ⟨Y, hY⟩ : ∃ Y, vmake l b t = Y := ⟨_, rfl⟩
  rw [hX] at CX m1
  rw [hY] at CY m2
  obtain ⟨kx, nx, sx⟩ := X
  obtain ⟨ky, ny, sy⟩ := Y
  have T1 := Lib.hid (fun W (hW : Tab W) => two_any W kd kx nx ky ny sx sy m1.2 m2.2 m1.1 m2.1 hW)
  have T2 := Lib.hid (fun W => rtwo_any W kd kx nx ky ny sx sy m1.2 m2.2 m1.1 m2.1)
  have N1 := Lib.hid (fun W => neg_any W kx nx sx m1.2 m1.1)
  have mv := mayV_two kd _ _ m1.1 m2.1
  have mn := mayV_neg _ m1.1
  obtain ⟨V, hV⟩ : ∃ V, vtwo kd (kx, nx, sx) (ky, ny, sy) = V := ⟨_, rfl⟩
  obtain ⟨N, hN⟩ : ∃ N, vneg (kx, nx, sx) = N := ⟨_, rfl⟩
  rw [hV] at T1 T2 mv
  rw [hN] at N1 mn
  obtain ⟨kv, nv, sv⟩ := V
  obtain ⟨kn, nn, sn⟩ := N
  have M1 := Lib.hid (fun W => may_any W kv nv sv)
  have M2 := Lib.hid (fun W => may_any W kn nn sn)
  rw [decide_eq_true mv] at M1
  rw [decide_eq_true mn] at M2
  have HT := Lib.hid (fun W (hb : Below w.heap.size w W) => htab.on hb)
  clear h1 h2 h3 h4 h5 nat8 wr8 ra rb m1 m2 hX hY hV hN mv mn htab hk hl
  go_enter Tryd.func5, Tryd.ntmps5
  go_wp2_with fail
  any_goals (refine (awake7 w).mono ?_; rintro e w1 ⟨rfl, hb1⟩; go_wp2; go_ret; exact ⟨rfl, hb1⟩)
  refine (CX.out w).mono ?_
  rintro e v1 ⟨rfl, hb1⟩
  go_wp2_with fail
  refine (CY.out v1).mono ?_
  rintro e v2 ⟨rfl, hb2⟩
  have hb3 := hb1.trans (hb2.mono hb1.size)
  have hs3 := hb3.size
  clear hb1 hb2
  go_wp2_with fail
  obtain ⟨P, hP⟩ : ∃ P, P = v2.heap.size := ⟨_, rfl⟩
  have hbA : Below w.heap.size w ((v2.alloc (.cells #[.int .i64 kx, .int .i64 nx, .string sx] 24)).alloc (.cells #[.int .i64 ky, .int .i64 ny, .string sy] 24)) := (hb3.alloc hs3 _).alloc (by simp; omega) _
  have hX : ((v2.alloc (.cells #[.int .i64 kx, .int .i64 nx, .string sx] 24)).alloc (.cells #[.int .i64 ky, .int .i64 ny, .string sy] 24)).heap[P]? = some (.cells #[.int .i64 kx, .int .i64 nx, .string sx] 24 (0, 0)) := by rw [hP]; exact (Below.heap_alloc _ _ _ (by simp)).trans (heap_alloc_new _ _)
  have hY : ((v2.alloc (.cells #[.int .i64 kx, .int .i64 nx, .string sx] 24)).alloc (.cells #[.int .i64 ky, .int .i64 ny, .string sy] 24)).heap[P + 1]? = some (.cells #[.int .i64 ky, .int .i64 ny, .string sy] 24 (0, 0)) := by rw [hP, ← World.size_alloc v2 (.cells #[.int .i64 kx, .int .i64 nx, .string sx] 24)]; exact heap_alloc_new _ _
  rw [← hP]
  generalize ((v2.alloc (.cells #[.int .i64 kx, .int .i64 nx, .string sx] 24)).alloc (.cells #[.int .i64 ky, .int .i64 ny, .string sy] 24)) = vA at *
  have hXl : P < vA.heap.size := (Array.getElem?_eq_some_iff.1 hX).1
  have hYl : P + 1 < vA.heap.size := (Array.getElem?_eq_some_iff.1 hY).1
  refine (T1.out vA (HT.out _ hbA)).mono ?_
  rintro e v3 ⟨rfl, hbn⟩
  have hX := (hbn.block _ hXl).trans hX
  have hY := (hbn.block _ hYl).trans hY
  have hbA := hbA.trans (hbn.mono hbA.size)
  clear hXl hYl hbn hP hb3 hs3
  have hXl : P < v3.heap.size := (Array.getElem?_eq_some_iff.1 hX).1
  have hYl : P + 1 < v3.heap.size := (Array.getElem?_eq_some_iff.1 hY).1
  have hsA := hbA.size
  go_wp2_with fail
  obtain ⟨U, hU0⟩ : ∃ U, U = v3.heap.size := ⟨_, rfl⟩
  have hU := heap_alloc_new v3 (.cells #[.int .i64 kv, .int .i64 nv, .string sv] 24)
  have hX := (Below.heap_alloc v3 (.cells #[.int .i64 kv, .int .i64 nv, .string sv] 24) P hXl).trans hX
  have hY := (Below.heap_alloc v3 (.cells #[.int .i64 kv, .int .i64 nv, .string sv] 24) (P + 1) hYl).trans hY
  have hbw := hbA.alloc hsA (.cells #[.int .i64 kv, .int .i64 nv, .string sv] 24)
  rw [← hU0] at hU ⊢
  generalize (v3.alloc (.cells #[.int .i64 kv, .int .i64 nv, .string sv] 24)) = W at *
  clear hU0 hXl hYl hbA hsA
  have stv := str_eq_true (rfl : sv = sv)
  refine wp_region_tree [] (.free 0 (.free 1 (.free 2 (.free 3 (.eff 4 (.free 5 (.free 6 (.free 7 (.eff 8 (.free 9 (.free 10 (.free 11 (.eff 12 (.eff 13 (.free 14 (.free 15 (.eff 16 (.free 17 (.free 18 .nil))))))))))))))))))) (by kernel_rfl) (by kernel_rfl) (fun _ _ d _ _ h => by cases d <;> exact h) ?_
  have hbw := hbw.drew
  have hX : W.drew.heap[P]? = _ := hX
  have hY : W.drew.heap[P + 1]? = _ := hY
  have hU : W.drew.heap[U]? = _ := hU
  generalize W.drew = wv at *
  have hXl : P < wv.heap.size := (Array.getElem?_eq_some_iff.1 hX).1
  have hYl : P + 1 < wv.heap.size := (Array.getElem?_eq_some_iff.1 hY).1
  have hUl : U < wv.heap.size := (Array.getElem?_eq_some_iff.1 hU).1
  conv => arg 4; whnf
  conv => arg 4; arg 1; whnf
  refine pt_loadB (k := U) (fun W h => load_val _ W _ _ _ (h.trans hU)) hUl (by rfl) rfl rfl ?_
  simp only [Act.put, List.setIfInBounds_toArray, List.set_cons_zero, List.set_cons_succ]
  conv => arg 4; whnf
  conv => arg 4; arg 1; whnf
  refine pt_free (by rfl) (fun K hK => ?_)
  go_big_quiet_op
  first | (refine hK _ ?_; clear hK K) | (refine ⟨_, fun _ _ => rfl, hK _ ?_⟩; clear hK K)
  conv => arg 4; whnf
  conv => arg 4; arg 1; whnf
  refine pt_loadB (k := P) (fun W h => load_val _ W _ _ _ (h.trans hX)) hXl (by rfl) rfl rfl ?_
  simp only [Act.put, List.setIfInBounds_toArray, List.set_cons_zero, List.set_cons_succ]
  conv => arg 4; whnf
  conv => arg 4; arg 1; whnf
  refine pt_loadB (k := P + 1) (fun W h => load_val _ W _ _ _ (h.trans hY)) hYl (by rfl) rfl rfl ?_
  simp only [Act.put, List.setIfInBounds_toArray, List.set_cons_zero, List.set_cons_succ]
  conv => arg 4; whnf
  conv => arg 4; arg 1; whnf
  refine pt_eff (by rfl) (fun K hK => ?_)
  go_wp2_with fail
  refine (T2.out _).mono ?_
  rintro en wn ⟨rfl, hbn⟩
  refine hK _ _ hbn ?_
  clear hK K
  have hbw := hbw.trans (hbn.mono hbw.size)
  have hX := (hbn.block _ hXl).trans hX
  have hY := (hbn.block _ hYl).trans hY
  have hU := (hbn.block _ hUl).trans hU
  clear hXl hYl hUl hbn
  generalize wn = wv at *
  have hXl : P < wv.heap.size := (Array.getElem?_eq_some_iff.1 hX).1
  have hYl : P + 1 < wv.heap.size := (Array.getElem?_eq_some_iff.1 hY).1
  have hUl : U < wv.heap.size := (Array.getElem?_eq_some_iff.1 hU).1
  conv => arg 4; whnf
  conv => arg 4; arg 1; whnf
  refine pt_free (by rfl) (fun K hK => ?_)
  go_big_quiet_op
  first | (refine hK _ ?_; clear hK K) | (refine ⟨_, fun _ _ => rfl, hK _ ?_⟩; clear hK K)
  conv => arg 4; whnf
  conv => arg 4; arg 1; whnf
  refine pt_free (by rfl) (fun K hK => ?_)
  go_big_quiet_op
  first | (refine hK _ ?_; clear hK K) | (refine ⟨_, fun _ _ => rfl, hK _ ?_⟩; clear hK K)
  conv => arg 4; whnf
  conv => arg 4; arg 1; whnf
  refine pt_loadB (k := U) (fun W h => load_val _ W _ _ _ (h.trans hU)) hUl (by rfl) rfl rfl ?_
  simp only [Act.put, List.setIfInBounds_toArray, List.set_cons_zero, List.set_cons_succ]
  conv => arg 4; whnf
  conv => arg 4; arg 1; whnf
  refine pt_eff (by rfl) (fun K hK => ?_)
  go_wp2_with fail
  refine (M1.out _).mono ?_
  rintro en wn ⟨rfl, hbn⟩
  refine hK _ _ hbn ?_
  clear hK K
  have hbw := hbw.trans (hbn.mono hbw.size)
  have hX := (hbn.block _ hXl).trans hX
  have hY := (hbn.block _ hYl).trans hY
  have hU := (hbn.block _ hUl).trans hU
  clear hXl hYl hUl hbn
  generalize wn = wv at *
  have hXl : P < wv.heap.size := (Array.getElem?_eq_some_iff.1 hX).1
  have hYl : P + 1 < wv.heap.size := (Array.getElem?_eq_some_iff.1 hY).1
  have hUl : U < wv.heap.size := (Array.getElem?_eq_some_iff.1 hU).1
  conv => arg 4; whnf
  conv => arg 4; arg 1; whnf
  refine pt_free (by rfl) (fun K hK => ?_)
  go_big_quiet_op
  first | (refine hK _ ?_; clear hK K) | (refine ⟨_, fun _ _ => rfl, hK _ ?_⟩; clear hK K)
  conv => arg 4; whnf
  conv => arg 4; arg 1; whnf
  refine pt_free (by rfl) (fun K hK => ?_)
  go_big_quiet_op
  first | (refine hK _ ?_; clear hK K) | (refine ⟨_, fun _ _ => rfl, hK _ ?_⟩; clear hK K)
  conv => arg 4; whnf
  conv => arg 4; arg 1; whnf
  refine pt_loadB (k := P) (fun W h => load_val _ W _ _ _ (h.trans hX)) hXl (by rfl) rfl rfl ?_
  simp only [Act.put, List.setIfInBounds_toArray, List.set_cons_zero, List.set_cons_succ]
  conv => arg 4; whnf
  conv => arg 4; arg 1; whnf
  refine pt_eff (by rfl) (fun K hK => ?_)
  go_wp2_with fail
  refine (N1.out _).mono ?_
  rintro en wn ⟨rfl, hbn⟩
  refine hK _ _ hbn ?_
  clear hK K
  have hbw := hbw.trans (hbn.mono hbw.size)
  have hX := (hbn.block _ hXl).trans hX
  have hY := (hbn.block _ hYl).trans hY
  have hU := (hbn.block _ hUl).trans hU
  clear hXl hYl hUl hbn
  generalize wn = wv at *
  have hXl : P < wv.heap.size := (Array.getElem?_eq_some_iff.1 hX).1
  have hYl : P + 1 < wv.heap.size := (Array.getElem?_eq_some_iff.1 hY).1
  have hUl : U < wv.heap.size := (Array.getElem?_eq_some_iff.1 hU).1
  conv => arg 4; whnf
  conv => arg 4; arg 1; whnf
  refine pt_eff (by rfl) (fun K hK => ?_)
  go_wp2_with fail
  refine (M2.out _).mono ?_
  rintro en wn ⟨rfl, hbn⟩
  refine hK _ _ hbn ?_
  clear hK K
  have hbw := hbw.trans (hbn.mono hbw.size)
  have hX := (hbn.block _ hXl).trans hX
  have hY := (hbn.block _ hYl).trans hY
  have hU := (hbn.block _ hUl).trans hU
  clear hXl hYl hUl hbn
  generalize wn = wv at *
  have hXl : P < wv.heap.size := (Array.getElem?_eq_some_iff.1 hX).1
  have hYl : P + 1 < wv.heap.size := (Array.getElem?_eq_some_iff.1 hY).1
  have hUl : U < wv.heap.size := (Array.getElem?_eq_some_iff.1 hU).1
  conv => arg 4; whnf
  conv => arg 4; arg 1; whnf
  refine pt_free (by rfl) (fun K hK => ?_)
  go_big_quiet_op
  first | (refine hK _ ?_; clear hK K) | (refine ⟨_, fun _ _ => rfl, hK _ ?_⟩; clear hK K)
  conv => arg 4; whnf
  conv => arg 4; arg 1; whnf
  refine pt_free (by rfl) (fun K hK => ?_)
  go_big_quiet_op
  first | (refine hK _ ?_; clear hK K) | (refine ⟨_, fun _ _ => rfl, hK _ ?_⟩; clear hK K)
  conv => arg 4; whnf
  conv => arg 4; arg 1; whnf
  refine pt_eff (by rfl) (fun K hK => ?_)
  go_wp2_with fail
  refine (awake7 _).mono ?_
  rintro en wn ⟨rfl, hbn⟩
  refine hK _ _ hbn ?_
  clear hK K
  have hbw := hbw.trans (hbn.mono hbw.size)
  have hX := (hbn.block _ hXl).trans hX
  have hY := (hbn.block _ hYl).trans hY
  have hU := (hbn.block _ hUl).trans hU
  clear hXl hYl hUl hbn
  generalize wn = wv at *
  have hXl : P < wv.heap.size := (Array.getElem?_eq_some_iff.1 hX).1
  have hYl : P + 1 < wv.heap.size := (Array.getElem?_eq_some_iff.1 hY).1
  have hUl : U < wv.heap.size := (Array.getElem?_eq_some_iff.1 hU).1
  conv => arg 4; whnf
  conv => arg 4; arg 1; whnf
  refine pt_free (by rfl) (fun K hK => ?_)
  go_big_quiet_op
  first | (refine hK _ ?_; clear hK K) | (refine ⟨_, fun _ _ => rfl, hK _ ?_⟩; clear hK K)
  conv => arg 4; whnf
  conv => arg 4; arg 1; whnf
  refine pt_free (by rfl) (fun K hK => ?_)
  go_big_quiet_op
  first | (refine hK _ ?_; clear hK K) | (refine ⟨_, fun _ _ => rfl, hK _ ?_⟩; clear hK K)
  refine pt_nil ?_
  go_wp2
  go_ret
  exact ⟨rfl, hbw⟩
end Go.Proofs.YtejpfpklgkcagaaDoor
