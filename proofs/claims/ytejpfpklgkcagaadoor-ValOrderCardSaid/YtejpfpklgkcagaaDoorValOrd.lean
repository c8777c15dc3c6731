import Derived.Test.YtejpfpklgkcagaaDoorValCmpC
namespace Go.Proofs.YtejpfpklgkcagaaDoor
open Go.RowKit Go.Maps
set_option maxRecDepth 100000 in
theorem make_mid (w : World) (k : Nat) (n : Int) (s : ByteArray) (hk : (k : Int) % 5 = 1 ∨ (k : Int) % 5 = 2 ∨ (k : Int) % 5 = 3) : Calls Tryd.prog 10 #[.int .u8 k, .int .i64 n, .string s] w (MadePost w (fun k => k ≠ 0 ∧ k ≠ 4)) := by
  go_enter Tryd.func10, Tryd.ntmps10
  go_wp2
  all_goals first
    | (exfalso; omega)
    | (refine bodyPost_ret (v := .agg #[.int .i64 1, .int .i64 n, .string ⟨#[]⟩]) ?_ rfl ⟨1, _, _, rfl, by decide, (Below.refl _ _).alloc (Nat.le_refl _) _⟩; simp [results, Tryd.f10, go_sem]; done)
    | (refine bodyPost_ret (v := .agg #[.int .i64 2, .int .i64 0, .string ⟨#[]⟩]) ?_ rfl ⟨2, _, _, rfl, by decide, (Below.refl _ _).alloc (Nat.le_refl _) _⟩; simp [results, Tryd.f10, go_sem]; done)
    | (refine bodyPost_ret (v := .agg #[.int .i64 2, .int .i64 0, .string s]) ?_ rfl ⟨2, _, _, rfl, by decide, (Below.refl _ _).alloc (Nat.le_refl _) _⟩; simp [results, Tryd.f10, go_sem]; done)
    | (refine bodyPost_ret (v := .agg #[.int .i64 3, .int .i64 (bits .and .i64 n 1), .string ⟨#[]⟩]) ?_ rfl ⟨3, _, _, rfl, by decide, (Below.refl _ _).alloc (Nat.le_refl _) _⟩; simp [results, Tryd.f10, go_sem]; done)
theorem field_n (x y z : Value) (W : World) : (Instr.field 24 (.agg #[x, y, z]) 1).run Tryd.prog W = .ok y W := by kernel_rfl
set_option maxRecDepth 100000 in
set_option maxHeartbeats 4000000 in
theorem valOrder_walk (w : World) (k0 l0 m0 : Int) (a b c : Int) (s t u : ByteArray) (h1 : (Lit.int .u8 k0).wf = true) (h2 : (Lit.int .u8 l0).wf = true) (h3 : (Lit.int .u8 m0).wf = true) (_ : (Lit.int .i64 a).wf = true) (_ : (Lit.int .i64 b).wf = true) (_ : (Lit.int .i64 c).wf = true) (_ : s.size ≤ maxLen) (_ : t.size ≤ maxLen) (_ : u.size ≤ maxLen) :
    Calls Tryd.prog 3 #[.int .u8 k0, .int .u8 l0, .int .u8 m0, .int .i64 a, .int .i64 b, .int .i64 c, .string s, .string t, .string u] w fun e w' => e = .returned (.bool true) ∧ Below w.heap.size w w' := by
  have nat8 : ∀ z : Int, (Lit.int .u8 z).wf = true → ∃ q : Nat, z = (q : Int) ∧ q < 256 := fun z h => by
    simp [Lit.wf, IntKind.min, IntKind.max, IntKind.signed, IntKind.bits] at h; exact ⟨z.toNat, by omega, by omega⟩
  obtain ⟨k, rfl, hk⟩ := nat8 k0 h1
  obtain ⟨l, rfl, hl⟩ := nat8 l0 h2
  obtain ⟨m, rfl, hm⟩ := nat8 m0 h3
  clear h1 h2 h3 nat8
  go_enter Tryd.func3, Tryd.ntmps3
  go_wp2_with fail
  any_goals (refine (awake7 w).mono ?_; rintro e w1 ⟨rfl, hb1⟩; go_wp2; go_ret; exact ⟨rfl, hb1⟩)
  obtain ⟨_, _, hm0⟩ : ∃ p : Prop, p ∧ ((m : Int) % 5 == 0) = false := ⟨_, by assumption⟩
  have hm0 : ¬ (m : Int) % 5 = 0 := by simpa using hm0
  have hk5 : (k : Int) % 5 = 1 ∨ (k : Int) % 5 = 2 ∨ (k : Int) % 5 = 3 := by omega
  have hl5 : (l : Int) % 5 = 1 ∨ (l : Int) % 5 = 2 ∨ (l : Int) % 5 = 3 := by omega
  have hm5 : (m : Int) % 5 = 1 ∨ (m : Int) % 5 = 2 ∨ (m : Int) % 5 = 3 := by omega
  refine (make_mid w k a s hk5).mono ?_
  rintro e1 v1 ⟨ka, na, sa, rfl, ⟨hka, hka4⟩, hb1⟩
  go_wp2_with fail
  refine (make_mid v1 l b t hl5).mono ?_
  rintro e2 v2 ⟨kb, nb, sb, rfl, ⟨hkb, hkb4⟩, hb2⟩
  go_wp2_with fail
  refine (make_mid v2 m c u hm5).mono ?_
  rintro e3 v3 ⟨kc, nc, sc, rfl, ⟨hkc, hkc4⟩, hb3⟩
  have hb4 := hb1.trans ((hb2.trans (hb3.mono hb2.size)).mono hb1.size)
  have hs4 := hb4.size
  clear hb1 hb2 hb3 hk5 hl5 hm5 hk hl hm
  go_wp2_with fail
  obtain ⟨W, hW⟩ : ∃ W, W = (((v3.alloc (.cells #[.int .i64 ka, .int .i64 na, .string sa] 24)).alloc (.cells #[.int .i64 kb, .int .i64 nb, .string sb] 24)).alloc (.cells #[.int .i64 kc, .int .i64 nc, .string sc] 24)) := ⟨_, rfl⟩
  have hs0 := heap_alloc_new v3 (.cells #[.int .i64 ka, .int .i64 na, .string sa] 24)
  have hs1 := heap_alloc_new (v3.alloc (.cells #[.int .i64 ka, .int .i64 na, .string sa] 24)) (.cells #[.int .i64 kb, .int .i64 nb, .string sb] 24)
  rw [World.size_alloc] at hs1
  have hs2 := heap_alloc_new ((v3.alloc (.cells #[.int .i64 ka, .int .i64 na, .string sa] 24)).alloc (.cells #[.int .i64 kb, .int .i64 nb, .string sb] 24)) (.cells #[.int .i64 kc, .int .i64 nc, .string sc] 24)
  rw [World.size_alloc, World.size_alloc] at hs2
  have hX : W.heap[v3.heap.size]? = some (.cells #[.int .i64 ka, .int .i64 na, .string sa] 24 (0, 0)) := by rw [hW]; exact (Below.heap_alloc _ _ _ (by simp; try omega)).trans ((Below.heap_alloc _ _ _ (by simp; try omega)).trans (hs0))
  have hY : W.heap[v3.heap.size + 1]? = some (.cells #[.int .i64 kb, .int .i64 nb, .string sb] 24 (0, 0)) := by rw [hW]; exact (Below.heap_alloc _ _ _ (by simp; try omega)).trans (hs1)
  have hZ : W.heap[v3.heap.size + 1 + 1]? = some (.cells #[.int .i64 kc, .int .i64 nc, .string sc] 24 (0, 0)) := by rw [hW]; exact hs2
  have hsW : W.heap.size = v3.heap.size + 3 := by rw [hW]; simp
  have hbW : Below w.heap.size w W := by rw [hW]; exact ((hb4.alloc hs4 _).alloc (by simp; try omega) _).alloc (by simp; try omega) _
  rw [← hW]
  clear hW hs0 hs1 hs2
  clear hb4 hs4 hsW hm0
  obtain ⟨PX, hPX⟩ : ∃ PX, v3.heap.size = PX := ⟨_, rfl⟩
  rw [hPX] at hX hY hZ ⊢
  clear hPX
  have hr1 := vcmp3.range (ka, na, sa) (kb, nb, sb)
  have hanti := vcmp3.anti (ka, na, sa) (kb, nb, sb)
  have hr2 := vcmp3.range (kb, nb, sb) (kc, nc, sc)
  have hr3 := vcmp3.range (ka, na, sa) (kc, nc, sc)
  have hle := vcmp3.le (ka, na, sa) (kb, nb, sb) (kc, nc, sc)
  obtain ⟨c1, e1⟩ : ∃ c1, vcmp (ka, na, sa) (kb, nb, sb) = c1 := ⟨_, rfl⟩
  obtain ⟨c4, e4⟩ : ∃ c4, vcmp (kb, nb, sb) (ka, na, sa) = c4 := ⟨_, rfl⟩
  obtain ⟨c2, e2⟩ : ∃ c2, vcmp (kb, nb, sb) (kc, nc, sc) = c2 := ⟨_, rfl⟩
  obtain ⟨c3, e3⟩ : ∃ c3, vcmp (ka, na, sa) (kc, nc, sc) = c3 := ⟨_, rfl⟩
  rw [e1] at hr1 hanti hle
  rw [e4] at hanti
  rw [e2] at hr2 hle
  rw [e3] at hr3 hle
  have HLE := Lib.hid hle
  have HR2 := Lib.hid hr2
  have HR3 := Lib.hid hr3
  clear hle hr2 hr3
  have hfd := fun (x y z : Value) (W : World) => field_n x y z W
  obtain rfl | rfl | rfl := hr1
  · have h4 : c4 = 1 := by omega
    subst h4
    clear hanti
    refine wp_region_tree [] (.free 0 (.free 1 (.free 4 (.free 5 (.free 8 (.free 9 (.eff 2 (.free 3 (.eff 6 (.free 7 (.eff 10 (.free 11 (.free 12 (.free 13 (.free 14 .nil))))))))))))))) (by kernel_rfl) (by kernel_rfl) (fun _ _ d _ _ h => by cases d <;> exact h) ?_
    have hbw := hbW
    have hbw := hbw.drew
    have hX : W.drew.heap[PX]? = _ := hX
    have hY : W.drew.heap[PX + 1]? = _ := hY
    have hZ : W.drew.heap[PX + 1 + 1]? = _ := hZ
    generalize W.drew = wv at *
    have hXl : PX < wv.heap.size := (Array.getElem?_eq_some_iff.1 hX).1
    have hYl : PX + 1 < wv.heap.size := (Array.getElem?_eq_some_iff.1 hY).1
    have hZl : PX + 1 + 1 < wv.heap.size := (Array.getElem?_eq_some_iff.1 hZ).1
    conv => arg 4; whnf
    conv => arg 4; arg 1; whnf
    refine pt_loadB (k := PX) (fun W h => load_val _ W _ _ _ (h.trans hX)) hXl (by rfl) rfl rfl ?_
    simp only [Act.put, List.setIfInBounds_toArray, List.set_cons_zero, List.set_cons_succ]
    conv => arg 4; whnf
    conv => arg 4; arg 1; whnf
    refine pt_loadB (k := PX + 1) (fun W h => load_val _ W _ _ _ (h.trans hY)) hYl (by rfl) rfl rfl ?_
    simp only [Act.put, List.setIfInBounds_toArray, List.set_cons_zero, List.set_cons_succ]
    conv => arg 4; whnf
    conv => arg 4; arg 1; whnf
    refine pt_loadB (k := PX) (fun W h => load_val _ W _ _ _ (h.trans hX)) hXl (by rfl) rfl rfl ?_
    simp only [Act.put, List.setIfInBounds_toArray, List.set_cons_zero, List.set_cons_succ]
    conv => arg 4; whnf
    conv => arg 4; arg 1; whnf
    refine pt_loadB (k := PX + 1) (fun W h => load_val _ W _ _ _ (h.trans hY)) hYl (by rfl) rfl rfl ?_
    simp only [Act.put, List.setIfInBounds_toArray, List.set_cons_zero, List.set_cons_succ]
    conv => arg 4; whnf
    conv => arg 4; arg 1; whnf
    refine pt_loadB (k := PX) (fun W h => load_val _ W _ _ _ (h.trans hX)) hXl (by rfl) rfl rfl ?_
    simp only [Act.put, List.setIfInBounds_toArray, List.set_cons_zero, List.set_cons_succ]
    conv => arg 4; whnf
    conv => arg 4; arg 1; whnf
    refine pt_loadB (k := PX + 1) (fun W h => load_val _ W _ _ _ (h.trans hY)) hYl (by rfl) rfl rfl ?_
    simp only [Act.put, List.setIfInBounds_toArray, List.set_cons_zero, List.set_cons_succ]
    conv => arg 4; whnf
    conv => arg 4; arg 1; whnf
    refine pt_eff (by rfl) (fun K hK => ?_)
    go_wp2_with fail
    refine (two_lt _ ka na kb nb sa sb hka hkb hka4 hkb4 (-1) 1 e1 (by decide)).mono ?_
    rintro en wn ⟨rfl, hbn⟩
    refine hK _ _ hbn ?_
    clear hK K
    have hbw := hbw.trans (hbn.mono hbw.size)
    have hX := (hbn.block _ hXl).trans hX
    have hY := (hbn.block _ hYl).trans hY
    have hZ := (hbn.block _ hZl).trans hZ
    clear hXl hYl hZl hbn
    generalize wn = wv at *
    have hXl : PX < wv.heap.size := (Array.getElem?_eq_some_iff.1 hX).1
    have hYl : PX + 1 < wv.heap.size := (Array.getElem?_eq_some_iff.1 hY).1
    have hZl : PX + 1 + 1 < wv.heap.size := (Array.getElem?_eq_some_iff.1 hZ).1
    conv => arg 4; whnf
    conv => arg 4; arg 1; whnf
    refine pt_free (by rfl) (fun K hK => ?_)
    go_big_quiet_op
    first | (refine hK _ ?_; clear hK K) | (refine ⟨_, fun _ _ => rfl, hK _ ?_⟩; clear hK K)
    conv => arg 4; whnf
    conv => arg 4; arg 1; whnf
    refine pt_eff (by rfl) (fun K hK => ?_)
    go_wp2_with fail
    refine (two_gt _ ka na kb nb sa sb hka hkb hka4 hkb4 (-1) 0 e1 (by decide)).mono ?_
    rintro en wn ⟨rfl, hbn⟩
    refine hK _ _ hbn ?_
    clear hK K
    have hbw := hbw.trans (hbn.mono hbw.size)
    have hX := (hbn.block _ hXl).trans hX
    have hY := (hbn.block _ hYl).trans hY
    have hZ := (hbn.block _ hZl).trans hZ
    clear hXl hYl hZl hbn
    generalize wn = wv at *
    have hXl : PX < wv.heap.size := (Array.getElem?_eq_some_iff.1 hX).1
    have hYl : PX + 1 < wv.heap.size := (Array.getElem?_eq_some_iff.1 hY).1
    have hZl : PX + 1 + 1 < wv.heap.size := (Array.getElem?_eq_some_iff.1 hZ).1
    conv => arg 4; whnf
    conv => arg 4; arg 1; whnf
    refine pt_free (by rfl) (fun K hK => ?_)
    go_big_quiet_op
    first | (refine hK _ ?_; clear hK K) | (refine ⟨_, fun _ _ => rfl, hK _ ?_⟩; clear hK K)
    conv => arg 4; whnf
    conv => arg 4; arg 1; whnf
    refine pt_eff (by rfl) (fun K hK => ?_)
    go_wp2_with fail
    refine (two_eq _ ka na kb nb sa sb hka hkb hka4 hkb4 (-1) 0 e1 (by decide)).mono ?_
    rintro en wn ⟨rfl, hbn⟩
    refine hK _ _ hbn ?_
    clear hK K
    have hbw := hbw.trans (hbn.mono hbw.size)
    have hX := (hbn.block _ hXl).trans hX
    have hY := (hbn.block _ hYl).trans hY
    have hZ := (hbn.block _ hZl).trans hZ
    clear hXl hYl hZl hbn
    generalize wn = wv at *
    have hXl : PX < wv.heap.size := (Array.getElem?_eq_some_iff.1 hX).1
    have hYl : PX + 1 < wv.heap.size := (Array.getElem?_eq_some_iff.1 hY).1
    have hZl : PX + 1 + 1 < wv.heap.size := (Array.getElem?_eq_some_iff.1 hZ).1
    conv => arg 4; whnf
    conv => arg 4; arg 1; whnf
    refine pt_free (by rfl) (fun K hK => ?_)
    go_big_quiet_op
    first | (refine hK _ ?_; clear hK K) | (refine ⟨_, fun _ _ => rfl, hK _ ?_⟩; clear hK K)
    conv => arg 4; whnf
    conv => arg 4; arg 1; whnf
    refine pt_free (by rfl) (fun K hK => ?_)
    go_big_quiet_op
    first | (refine hK _ ?_; clear hK K) | (refine ⟨_, fun _ _ => rfl, hK _ ?_⟩; clear hK K)
    conv => arg 4; whnf
    conv => arg 4; arg 1; whnf
    refine pt_free (by rfl) (fun K hK => ?_)
    go_big_quiet_op
    first | (refine hK _ ?_; clear hK K) | (refine ⟨_, fun _ _ => rfl, hK _ ?_⟩; clear hK K)
    conv => arg 4; whnf
    conv => arg 4; arg 1; whnf
    refine pt_free (by rfl) (fun K hK => ?_)
    go_big_quiet_op
    first | (refine hK _ ?_; clear hK K) | (refine ⟨_, fun _ _ => rfl, hK _ ?_⟩; clear hK K)
    refine pt_nil ?_
    obtain ⟨x0, x1, x2, _⟩ := val3 hX
    obtain ⟨y0, y1, y2, _⟩ := val3 hY
    obtain ⟨z0, z1, z2, _⟩ := val3 hZ
    go_wp2_with fail
    clear x0 x1 x2 y0 y1 y2 z0 z1 z2
    refine (two_le _ ka na kb nb sa sb hka hkb hka4 hkb4 (-1) 1 e1 (by decide)).mono ?_
    rintro en wn ⟨rfl, hbn⟩
    have hbw := hbw.trans (hbn.mono hbw.size)
    have hX := (hbn.block _ hXl).trans hX
    have hY := (hbn.block _ hYl).trans hY
    have hZ := (hbn.block _ hZl).trans hZ
    clear hXl hYl hZl hbn
    generalize wn = wv at *
    have hXl : PX < wv.heap.size := (Array.getElem?_eq_some_iff.1 hX).1
    have hYl : PX + 1 < wv.heap.size := (Array.getElem?_eq_some_iff.1 hY).1
    have hZl : PX + 1 + 1 < wv.heap.size := (Array.getElem?_eq_some_iff.1 hZ).1
    obtain ⟨x0, x1, x2, _⟩ := val3 hX
    obtain ⟨y0, y1, y2, _⟩ := val3 hY
    obtain ⟨z0, z1, z2, _⟩ := val3 hZ
    go_wp2_with fail
    clear x0 x1 x2 y0 y1 y2 z0 z1 z2
    refine (two_ge _ ka na kb nb sa sb hka hkb hka4 hkb4 (-1) 0 e1 (by decide)).mono ?_
    rintro en wn ⟨rfl, hbn⟩
    have hbw := hbw.trans (hbn.mono hbw.size)
    have hX := (hbn.block _ hXl).trans hX
    have hY := (hbn.block _ hYl).trans hY
    have hZ := (hbn.block _ hZl).trans hZ
    clear hXl hYl hZl hbn
    generalize wn = wv at *
    have hXl : PX < wv.heap.size := (Array.getElem?_eq_some_iff.1 hX).1
    have hYl : PX + 1 < wv.heap.size := (Array.getElem?_eq_some_iff.1 hY).1
    have hZl : PX + 1 + 1 < wv.heap.size := (Array.getElem?_eq_some_iff.1 hZ).1
    obtain ⟨x0, x1, x2, _⟩ := val3 hX
    obtain ⟨y0, y1, y2, _⟩ := val3 hY
    obtain ⟨z0, z1, z2, _⟩ := val3 hZ
    go_wp2_with fail
    clear x0 x1 x2 y0 y1 y2 z0 z1 z2
    refine (two_ne _ ka na kb nb sa sb hka hkb hka4 hkb4 (-1) 1 e1 (by decide)).mono ?_
    rintro en wn ⟨rfl, hbn⟩
    have hbw := hbw.trans (hbn.mono hbw.size)
    have hX := (hbn.block _ hXl).trans hX
    have hY := (hbn.block _ hYl).trans hY
    have hZ := (hbn.block _ hZl).trans hZ
    clear hXl hYl hZl hbn
    generalize wn = wv at *
    have hXl : PX < wv.heap.size := (Array.getElem?_eq_some_iff.1 hX).1
    have hYl : PX + 1 < wv.heap.size := (Array.getElem?_eq_some_iff.1 hY).1
    have hZl : PX + 1 + 1 < wv.heap.size := (Array.getElem?_eq_some_iff.1 hZ).1
    obtain ⟨x0, x1, x2, _⟩ := val3 hX
    obtain ⟨y0, y1, y2, _⟩ := val3 hY
    obtain ⟨z0, z1, z2, _⟩ := val3 hZ
    go_wp2_with fail
    clear x0 x1 x2 y0 y1 y2 z0 z1 z2
    refine (two_gt _ kb nb ka na sb sa hkb hka hkb4 hka4 (1) 1 e4 (by decide)).mono ?_
    rintro en wn ⟨rfl, hbn⟩
    have hbw := hbw.trans (hbn.mono hbw.size)
    have hX := (hbn.block _ hXl).trans hX
    have hY := (hbn.block _ hYl).trans hY
    have hZ := (hbn.block _ hZl).trans hZ
    clear hXl hYl hZl hbn
    generalize wn = wv at *
    have hXl : PX < wv.heap.size := (Array.getElem?_eq_some_iff.1 hX).1
    have hYl : PX + 1 < wv.heap.size := (Array.getElem?_eq_some_iff.1 hY).1
    have hZl : PX + 1 + 1 < wv.heap.size := (Array.getElem?_eq_some_iff.1 hZ).1
    have hle := HLE.out (by omega)
    clear HLE HR2 HR3
    by_cases h2 : c2 ≤ 0
    · have q2 : bN (decide (c2 ≤ 0)) = 1 := by rw [decide_eq_true h2]; rfl
      have q3 : bN (decide (c3 ≤ 0)) = 1 := by rw [decide_eq_true (hle h2)]; rfl
      clear hle h2
      obtain ⟨x0, x1, x2, _⟩ := val3 hX
      obtain ⟨y0, y1, y2, _⟩ := val3 hY
      obtain ⟨z0, z1, z2, _⟩ := val3 hZ
      go_wp2_with fail
      clear x0 x1 x2 y0 y1 y2 z0 z1 z2
      refine (two_le _ kb nb kc nc sb sc hkb hkc hkb4 hkc4 c2 1 e2 q2).mono ?_
      rintro en wn ⟨rfl, hbn⟩
      have hbw := hbw.trans (hbn.mono hbw.size)
      have hX := (hbn.block _ hXl).trans hX
      have hY := (hbn.block _ hYl).trans hY
      have hZ := (hbn.block _ hZl).trans hZ
      clear hXl hYl hZl hbn
      generalize wn = wv at *
      have hXl : PX < wv.heap.size := (Array.getElem?_eq_some_iff.1 hX).1
      have hYl : PX + 1 < wv.heap.size := (Array.getElem?_eq_some_iff.1 hY).1
      have hZl : PX + 1 + 1 < wv.heap.size := (Array.getElem?_eq_some_iff.1 hZ).1
      obtain ⟨x0, x1, x2, _⟩ := val3 hX
      obtain ⟨y0, y1, y2, _⟩ := val3 hY
      obtain ⟨z0, z1, z2, _⟩ := val3 hZ
      go_wp2_with fail
      clear x0 x1 x2 y0 y1 y2 z0 z1 z2
      refine (two_le _ ka na kc nc sa sc hka hkc hka4 hkc4 c3 1 e3 q3).mono ?_
      rintro en wn ⟨rfl, hbn⟩
      have hbw := hbw.trans (hbn.mono hbw.size)
      have hX := (hbn.block _ hXl).trans hX
      have hY := (hbn.block _ hYl).trans hY
      have hZ := (hbn.block _ hZl).trans hZ
      clear hXl hYl hZl hbn
      generalize wn = wv at *
      have hXl : PX < wv.heap.size := (Array.getElem?_eq_some_iff.1 hX).1
      have hYl : PX + 1 < wv.heap.size := (Array.getElem?_eq_some_iff.1 hY).1
      have hZl : PX + 1 + 1 < wv.heap.size := (Array.getElem?_eq_some_iff.1 hZ).1
      obtain ⟨x0, x1, x2, _⟩ := val3 hX
      obtain ⟨y0, y1, y2, _⟩ := val3 hY
      obtain ⟨z0, z1, z2, _⟩ := val3 hZ
      go_wp2_with fail
      clear x0 x1 x2 y0 y1 y2 z0 z1 z2
      refine (awake7 _).mono ?_
      rintro en wn ⟨rfl, hbn⟩
      have hbw := hbw.trans (hbn.mono hbw.size)
      go_wp2
      go_ret
      exact ⟨rfl, hbw⟩
    · have q2 : bN (decide (c2 ≤ 0)) = 0 := by rw [decide_eq_false h2]; rfl
      clear hle h2
      obtain ⟨x0, x1, x2, _⟩ := val3 hX
      obtain ⟨y0, y1, y2, _⟩ := val3 hY
      obtain ⟨z0, z1, z2, _⟩ := val3 hZ
      go_wp2_with fail
      clear x0 x1 x2 y0 y1 y2 z0 z1 z2
      refine (two_le _ kb nb kc nc sb sc hkb hkc hkb4 hkc4 c2 0 e2 q2).mono ?_
      rintro en wn ⟨rfl, hbn⟩
      have hbw := hbw.trans (hbn.mono hbw.size)
      have hX := (hbn.block _ hXl).trans hX
      have hY := (hbn.block _ hYl).trans hY
      have hZ := (hbn.block _ hZl).trans hZ
      clear hXl hYl hZl hbn
      generalize wn = wv at *
      have hXl : PX < wv.heap.size := (Array.getElem?_eq_some_iff.1 hX).1
      have hYl : PX + 1 < wv.heap.size := (Array.getElem?_eq_some_iff.1 hY).1
      have hZl : PX + 1 + 1 < wv.heap.size := (Array.getElem?_eq_some_iff.1 hZ).1
      obtain ⟨x0, x1, x2, _⟩ := val3 hX
      obtain ⟨y0, y1, y2, _⟩ := val3 hY
      obtain ⟨z0, z1, z2, _⟩ := val3 hZ
      go_wp2_with fail
      clear x0 x1 x2 y0 y1 y2 z0 z1 z2
      refine (awake7 _).mono ?_
      rintro en wn ⟨rfl, hbn⟩
      have hbw := hbw.trans (hbn.mono hbw.size)
      go_wp2
      go_ret
      exact ⟨rfl, hbw⟩
  · have h4 : c4 = 0 := by omega
    subst h4
    clear hanti
    refine wp_region_tree [] (.free 0 (.free 1 (.free 4 (.free 5 (.free 8 (.free 9 (.eff 2 (.free 3 (.eff 6 (.free 7 (.eff 10 (.free 11 (.free 12 (.free 13 (.free 14 .nil))))))))))))))) (by kernel_rfl) (by kernel_rfl) (fun _ _ d _ _ h => by cases d <;> exact h) ?_
    have hbw := hbW
    have hbw := hbw.drew
    have hX : W.drew.heap[PX]? = _ := hX
    have hY : W.drew.heap[PX + 1]? = _ := hY
    have hZ : W.drew.heap[PX + 1 + 1]? = _ := hZ
    generalize W.drew = wv at *
    have hXl : PX < wv.heap.size := (Array.getElem?_eq_some_iff.1 hX).1
    have hYl : PX + 1 < wv.heap.size := (Array.getElem?_eq_some_iff.1 hY).1
    have hZl : PX + 1 + 1 < wv.heap.size := (Array.getElem?_eq_some_iff.1 hZ).1
    conv => arg 4; whnf
    conv => arg 4; arg 1; whnf
    refine pt_loadB (k := PX) (fun W h => load_val _ W _ _ _ (h.trans hX)) hXl (by rfl) rfl rfl ?_
    simp only [Act.put, List.setIfInBounds_toArray, List.set_cons_zero, List.set_cons_succ]
    conv => arg 4; whnf
    conv => arg 4; arg 1; whnf
    refine pt_loadB (k := PX + 1) (fun W h => load_val _ W _ _ _ (h.trans hY)) hYl (by rfl) rfl rfl ?_
    simp only [Act.put, List.setIfInBounds_toArray, List.set_cons_zero, List.set_cons_succ]
    conv => arg 4; whnf
    conv => arg 4; arg 1; whnf
    refine pt_loadB (k := PX) (fun W h => load_val _ W _ _ _ (h.trans hX)) hXl (by rfl) rfl rfl ?_
    simp only [Act.put, List.setIfInBounds_toArray, List.set_cons_zero, List.set_cons_succ]
    conv => arg 4; whnf
    conv => arg 4; arg 1; whnf
    refine pt_loadB (k := PX + 1) (fun W h => load_val _ W _ _ _ (h.trans hY)) hYl (by rfl) rfl rfl ?_
    simp only [Act.put, List.setIfInBounds_toArray, List.set_cons_zero, List.set_cons_succ]
    conv => arg 4; whnf
    conv => arg 4; arg 1; whnf
    refine pt_loadB (k := PX) (fun W h => load_val _ W _ _ _ (h.trans hX)) hXl (by rfl) rfl rfl ?_
    simp only [Act.put, List.setIfInBounds_toArray, List.set_cons_zero, List.set_cons_succ]
    conv => arg 4; whnf
    conv => arg 4; arg 1; whnf
    refine pt_loadB (k := PX + 1) (fun W h => load_val _ W _ _ _ (h.trans hY)) hYl (by rfl) rfl rfl ?_
    simp only [Act.put, List.setIfInBounds_toArray, List.set_cons_zero, List.set_cons_succ]
    conv => arg 4; whnf
    conv => arg 4; arg 1; whnf
    refine pt_eff (by rfl) (fun K hK => ?_)
    go_wp2_with fail
    refine (two_lt _ ka na kb nb sa sb hka hkb hka4 hkb4 (0) 0 e1 (by decide)).mono ?_
    rintro en wn ⟨rfl, hbn⟩
    refine hK _ _ hbn ?_
    clear hK K
    have hbw := hbw.trans (hbn.mono hbw.size)
    have hX := (hbn.block _ hXl).trans hX
    have hY := (hbn.block _ hYl).trans hY
    have hZ := (hbn.block _ hZl).trans hZ
    clear hXl hYl hZl hbn
    generalize wn = wv at *
    have hXl : PX < wv.heap.size := (Array.getElem?_eq_some_iff.1 hX).1
    have hYl : PX + 1 < wv.heap.size := (Array.getElem?_eq_some_iff.1 hY).1
    have hZl : PX + 1 + 1 < wv.heap.size := (Array.getElem?_eq_some_iff.1 hZ).1
    conv => arg 4; whnf
    conv => arg 4; arg 1; whnf
    refine pt_free (by rfl) (fun K hK => ?_)
    go_big_quiet_op
    first | (refine hK _ ?_; clear hK K) | (refine ⟨_, fun _ _ => rfl, hK _ ?_⟩; clear hK K)
    conv => arg 4; whnf
    conv => arg 4; arg 1; whnf
    refine pt_eff (by rfl) (fun K hK => ?_)
    go_wp2_with fail
    refine (two_gt _ ka na kb nb sa sb hka hkb hka4 hkb4 (0) 0 e1 (by decide)).mono ?_
    rintro en wn ⟨rfl, hbn⟩
    refine hK _ _ hbn ?_
    clear hK K
    have hbw := hbw.trans (hbn.mono hbw.size)
    have hX := (hbn.block _ hXl).trans hX
    have hY := (hbn.block _ hYl).trans hY
    have hZ := (hbn.block _ hZl).trans hZ
    clear hXl hYl hZl hbn
    generalize wn = wv at *
    have hXl : PX < wv.heap.size := (Array.getElem?_eq_some_iff.1 hX).1
    have hYl : PX + 1 < wv.heap.size := (Array.getElem?_eq_some_iff.1 hY).1
    have hZl : PX + 1 + 1 < wv.heap.size := (Array.getElem?_eq_some_iff.1 hZ).1
    conv => arg 4; whnf
    conv => arg 4; arg 1; whnf
    refine pt_free (by rfl) (fun K hK => ?_)
    go_big_quiet_op
    first | (refine hK _ ?_; clear hK K) | (refine ⟨_, fun _ _ => rfl, hK _ ?_⟩; clear hK K)
    conv => arg 4; whnf
    conv => arg 4; arg 1; whnf
    refine pt_eff (by rfl) (fun K hK => ?_)
    go_wp2_with fail
    refine (two_eq _ ka na kb nb sa sb hka hkb hka4 hkb4 (0) 1 e1 (by decide)).mono ?_
    rintro en wn ⟨rfl, hbn⟩
    refine hK _ _ hbn ?_
    clear hK K
    have hbw := hbw.trans (hbn.mono hbw.size)
    have hX := (hbn.block _ hXl).trans hX
    have hY := (hbn.block _ hYl).trans hY
    have hZ := (hbn.block _ hZl).trans hZ
    clear hXl hYl hZl hbn
    generalize wn = wv at *
    have hXl : PX < wv.heap.size := (Array.getElem?_eq_some_iff.1 hX).1
    have hYl : PX + 1 < wv.heap.size := (Array.getElem?_eq_some_iff.1 hY).1
    have hZl : PX + 1 + 1 < wv.heap.size := (Array.getElem?_eq_some_iff.1 hZ).1
    conv => arg 4; whnf
    conv => arg 4; arg 1; whnf
    refine pt_free (by rfl) (fun K hK => ?_)
    go_big_quiet_op
    first | (refine hK _ ?_; clear hK K) | (refine ⟨_, fun _ _ => rfl, hK _ ?_⟩; clear hK K)
    conv => arg 4; whnf
    conv => arg 4; arg 1; whnf
    refine pt_free (by rfl) (fun K hK => ?_)
    go_big_quiet_op
    first | (refine hK _ ?_; clear hK K) | (refine ⟨_, fun _ _ => rfl, hK _ ?_⟩; clear hK K)
    conv => arg 4; whnf
    conv => arg 4; arg 1; whnf
    refine pt_free (by rfl) (fun K hK => ?_)
    go_big_quiet_op
    first | (refine hK _ ?_; clear hK K) | (refine ⟨_, fun _ _ => rfl, hK _ ?_⟩; clear hK K)
    conv => arg 4; whnf
    conv => arg 4; arg 1; whnf
    refine pt_free (by rfl) (fun K hK => ?_)
    go_big_quiet_op
    first | (refine hK _ ?_; clear hK K) | (refine ⟨_, fun _ _ => rfl, hK _ ?_⟩; clear hK K)
    refine pt_nil ?_
    obtain ⟨x0, x1, x2, _⟩ := val3 hX
    obtain ⟨y0, y1, y2, _⟩ := val3 hY
    obtain ⟨z0, z1, z2, _⟩ := val3 hZ
    go_wp2_with fail
    clear x0 x1 x2 y0 y1 y2 z0 z1 z2
    refine (two_le _ ka na kb nb sa sb hka hkb hka4 hkb4 (0) 1 e1 (by decide)).mono ?_
    rintro en wn ⟨rfl, hbn⟩
    have hbw := hbw.trans (hbn.mono hbw.size)
    have hX := (hbn.block _ hXl).trans hX
    have hY := (hbn.block _ hYl).trans hY
    have hZ := (hbn.block _ hZl).trans hZ
    clear hXl hYl hZl hbn
    generalize wn = wv at *
    have hXl : PX < wv.heap.size := (Array.getElem?_eq_some_iff.1 hX).1
    have hYl : PX + 1 < wv.heap.size := (Array.getElem?_eq_some_iff.1 hY).1
    have hZl : PX + 1 + 1 < wv.heap.size := (Array.getElem?_eq_some_iff.1 hZ).1
    obtain ⟨x0, x1, x2, _⟩ := val3 hX
    obtain ⟨y0, y1, y2, _⟩ := val3 hY
    obtain ⟨z0, z1, z2, _⟩ := val3 hZ
    go_wp2_with fail
    clear x0 x1 x2 y0 y1 y2 z0 z1 z2
    refine (two_ge _ ka na kb nb sa sb hka hkb hka4 hkb4 (0) 1 e1 (by decide)).mono ?_
    rintro en wn ⟨rfl, hbn⟩
    have hbw := hbw.trans (hbn.mono hbw.size)
    have hX := (hbn.block _ hXl).trans hX
    have hY := (hbn.block _ hYl).trans hY
    have hZ := (hbn.block _ hZl).trans hZ
    clear hXl hYl hZl hbn
    generalize wn = wv at *
    have hXl : PX < wv.heap.size := (Array.getElem?_eq_some_iff.1 hX).1
    have hYl : PX + 1 < wv.heap.size := (Array.getElem?_eq_some_iff.1 hY).1
    have hZl : PX + 1 + 1 < wv.heap.size := (Array.getElem?_eq_some_iff.1 hZ).1
    obtain ⟨x0, x1, x2, _⟩ := val3 hX
    obtain ⟨y0, y1, y2, _⟩ := val3 hY
    obtain ⟨z0, z1, z2, _⟩ := val3 hZ
    go_wp2_with fail
    clear x0 x1 x2 y0 y1 y2 z0 z1 z2
    refine (two_ne _ ka na kb nb sa sb hka hkb hka4 hkb4 (0) 0 e1 (by decide)).mono ?_
    rintro en wn ⟨rfl, hbn⟩
    have hbw := hbw.trans (hbn.mono hbw.size)
    have hX := (hbn.block _ hXl).trans hX
    have hY := (hbn.block _ hYl).trans hY
    have hZ := (hbn.block _ hZl).trans hZ
    clear hXl hYl hZl hbn
    generalize wn = wv at *
    have hXl : PX < wv.heap.size := (Array.getElem?_eq_some_iff.1 hX).1
    have hYl : PX + 1 < wv.heap.size := (Array.getElem?_eq_some_iff.1 hY).1
    have hZl : PX + 1 + 1 < wv.heap.size := (Array.getElem?_eq_some_iff.1 hZ).1
    obtain ⟨x0, x1, x2, _⟩ := val3 hX
    obtain ⟨y0, y1, y2, _⟩ := val3 hY
    obtain ⟨z0, z1, z2, _⟩ := val3 hZ
    go_wp2_with fail
    clear x0 x1 x2 y0 y1 y2 z0 z1 z2
    refine (two_gt _ kb nb ka na sb sa hkb hka hkb4 hka4 (0) 0 e4 (by decide)).mono ?_
    rintro en wn ⟨rfl, hbn⟩
    have hbw := hbw.trans (hbn.mono hbw.size)
    have hX := (hbn.block _ hXl).trans hX
    have hY := (hbn.block _ hYl).trans hY
    have hZ := (hbn.block _ hZl).trans hZ
    clear hXl hYl hZl hbn
    generalize wn = wv at *
    have hXl : PX < wv.heap.size := (Array.getElem?_eq_some_iff.1 hX).1
    have hYl : PX + 1 < wv.heap.size := (Array.getElem?_eq_some_iff.1 hY).1
    have hZl : PX + 1 + 1 < wv.heap.size := (Array.getElem?_eq_some_iff.1 hZ).1
    have hle := HLE.out (by omega)
    clear HLE HR2 HR3
    by_cases h2 : c2 ≤ 0
    · have q2 : bN (decide (c2 ≤ 0)) = 1 := by rw [decide_eq_true h2]; rfl
      have q3 : bN (decide (c3 ≤ 0)) = 1 := by rw [decide_eq_true (hle h2)]; rfl
      clear hle h2
      obtain ⟨x0, x1, x2, _⟩ := val3 hX
      obtain ⟨y0, y1, y2, _⟩ := val3 hY
      obtain ⟨z0, z1, z2, _⟩ := val3 hZ
      go_wp2_with fail
      clear x0 x1 x2 y0 y1 y2 z0 z1 z2
      refine (two_le _ kb nb kc nc sb sc hkb hkc hkb4 hkc4 c2 1 e2 q2).mono ?_
      rintro en wn ⟨rfl, hbn⟩
      have hbw := hbw.trans (hbn.mono hbw.size)
      have hX := (hbn.block _ hXl).trans hX
      have hY := (hbn.block _ hYl).trans hY
      have hZ := (hbn.block _ hZl).trans hZ
      clear hXl hYl hZl hbn
      generalize wn = wv at *
      have hXl : PX < wv.heap.size := (Array.getElem?_eq_some_iff.1 hX).1
      have hYl : PX + 1 < wv.heap.size := (Array.getElem?_eq_some_iff.1 hY).1
      have hZl : PX + 1 + 1 < wv.heap.size := (Array.getElem?_eq_some_iff.1 hZ).1
      obtain ⟨x0, x1, x2, _⟩ := val3 hX
      obtain ⟨y0, y1, y2, _⟩ := val3 hY
      obtain ⟨z0, z1, z2, _⟩ := val3 hZ
      go_wp2_with fail
      clear x0 x1 x2 y0 y1 y2 z0 z1 z2
      refine (two_le _ ka na kc nc sa sc hka hkc hka4 hkc4 c3 1 e3 q3).mono ?_
      rintro en wn ⟨rfl, hbn⟩
      have hbw := hbw.trans (hbn.mono hbw.size)
      have hX := (hbn.block _ hXl).trans hX
      have hY := (hbn.block _ hYl).trans hY
      have hZ := (hbn.block _ hZl).trans hZ
      clear hXl hYl hZl hbn
      generalize wn = wv at *
      have hXl : PX < wv.heap.size := (Array.getElem?_eq_some_iff.1 hX).1
      have hYl : PX + 1 < wv.heap.size := (Array.getElem?_eq_some_iff.1 hY).1
      have hZl : PX + 1 + 1 < wv.heap.size := (Array.getElem?_eq_some_iff.1 hZ).1
      obtain ⟨x0, x1, x2, _⟩ := val3 hX
      obtain ⟨y0, y1, y2, _⟩ := val3 hY
      obtain ⟨z0, z1, z2, _⟩ := val3 hZ
      go_wp2_with fail
      clear x0 x1 x2 y0 y1 y2 z0 z1 z2
      refine (awake7 _).mono ?_
      rintro en wn ⟨rfl, hbn⟩
      have hbw := hbw.trans (hbn.mono hbw.size)
      go_wp2
      go_ret
      exact ⟨rfl, hbw⟩
    · have q2 : bN (decide (c2 ≤ 0)) = 0 := by rw [decide_eq_false h2]; rfl
      clear hle h2
      obtain ⟨x0, x1, x2, _⟩ := val3 hX
      obtain ⟨y0, y1, y2, _⟩ := val3 hY
      obtain ⟨z0, z1, z2, _⟩ := val3 hZ
      go_wp2_with fail
      clear x0 x1 x2 y0 y1 y2 z0 z1 z2
      refine (two_le _ kb nb kc nc sb sc hkb hkc hkb4 hkc4 c2 0 e2 q2).mono ?_
      rintro en wn ⟨rfl, hbn⟩
      have hbw := hbw.trans (hbn.mono hbw.size)
      have hX := (hbn.block _ hXl).trans hX
      have hY := (hbn.block _ hYl).trans hY
      have hZ := (hbn.block _ hZl).trans hZ
      clear hXl hYl hZl hbn
      generalize wn = wv at *
      have hXl : PX < wv.heap.size := (Array.getElem?_eq_some_iff.1 hX).1
      have hYl : PX + 1 < wv.heap.size := (Array.getElem?_eq_some_iff.1 hY).1
      have hZl : PX + 1 + 1 < wv.heap.size := (Array.getElem?_eq_some_iff.1 hZ).1
      obtain ⟨x0, x1, x2, _⟩ := val3 hX
      obtain ⟨y0, y1, y2, _⟩ := val3 hY
      obtain ⟨z0, z1, z2, _⟩ := val3 hZ
      go_wp2_with fail
      clear x0 x1 x2 y0 y1 y2 z0 z1 z2
      refine (awake7 _).mono ?_
      rintro en wn ⟨rfl, hbn⟩
      have hbw := hbw.trans (hbn.mono hbw.size)
      go_wp2
      go_ret
      exact ⟨rfl, hbw⟩
  · have h4 : c4 = -1 := by omega
    subst h4
    clear hanti
    refine wp_region_tree [] (.free 0 (.free 1 (.free 4 (.free 5 (.free 8 (.free 9 (.eff 2 (.free 3 (.eff 6 (.free 7 (.eff 10 (.free 11 (.free 12 (.free 13 (.free 14 .nil))))))))))))))) (by kernel_rfl) (by kernel_rfl) (fun _ _ d _ _ h => by cases d <;> exact h) ?_
    have hbw := hbW
    have hbw := hbw.drew
    have hX : W.drew.heap[PX]? = _ := hX
    have hY : W.drew.heap[PX + 1]? = _ := hY
    have hZ : W.drew.heap[PX + 1 + 1]? = _ := hZ
    generalize W.drew = wv at *
    have hXl : PX < wv.heap.size := (Array.getElem?_eq_some_iff.1 hX).1
    have hYl : PX + 1 < wv.heap.size := (Array.getElem?_eq_some_iff.1 hY).1
    have hZl : PX + 1 + 1 < wv.heap.size := (Array.getElem?_eq_some_iff.1 hZ).1
    conv => arg 4; whnf
    conv => arg 4; arg 1; whnf
    refine pt_loadB (k := PX) (fun W h => load_val _ W _ _ _ (h.trans hX)) hXl (by rfl) rfl rfl ?_
    simp only [Act.put, List.setIfInBounds_toArray, List.set_cons_zero, List.set_cons_succ]
    conv => arg 4; whnf
    conv => arg 4; arg 1; whnf
    refine pt_loadB (k := PX + 1) (fun W h => load_val _ W _ _ _ (h.trans hY)) hYl (by rfl) rfl rfl ?_
    simp only [Act.put, List.setIfInBounds_toArray, List.set_cons_zero, List.set_cons_succ]
    conv => arg 4; whnf
    conv => arg 4; arg 1; whnf
    refine pt_loadB (k := PX) (fun W h => load_val _ W _ _ _ (h.trans hX)) hXl (by rfl) rfl rfl ?_
    simp only [Act.put, List.setIfInBounds_toArray, List.set_cons_zero, List.set_cons_succ]
    conv => arg 4; whnf
    conv => arg 4; arg 1; whnf
    refine pt_loadB (k := PX + 1) (fun W h => load_val _ W _ _ _ (h.trans hY)) hYl (by rfl) rfl rfl ?_
    simp only [Act.put, List.setIfInBounds_toArray, List.set_cons_zero, List.set_cons_succ]
    conv => arg 4; whnf
    conv => arg 4; arg 1; whnf
    refine pt_loadB (k := PX) (fun W h => load_val _ W _ _ _ (h.trans hX)) hXl (by rfl) rfl rfl ?_
    simp only [Act.put, List.setIfInBounds_toArray, List.set_cons_zero, List.set_cons_succ]
    conv => arg 4; whnf
    conv => arg 4; arg 1; whnf
    refine pt_loadB (k := PX + 1) (fun W h => load_val _ W _ _ _ (h.trans hY)) hYl (by rfl) rfl rfl ?_
    simp only [Act.put, List.setIfInBounds_toArray, List.set_cons_zero, List.set_cons_succ]
    conv => arg 4; whnf
    conv => arg 4; arg 1; whnf
    refine pt_eff (by rfl) (fun K hK => ?_)
    go_wp2_with fail
    refine (two_lt _ ka na kb nb sa sb hka hkb hka4 hkb4 (1) 0 e1 (by decide)).mono ?_
    rintro en wn ⟨rfl, hbn⟩
    refine hK _ _ hbn ?_
    clear hK K
    have hbw := hbw.trans (hbn.mono hbw.size)
    have hX := (hbn.block _ hXl).trans hX
    have hY := (hbn.block _ hYl).trans hY
    have hZ := (hbn.block _ hZl).trans hZ
    clear hXl hYl hZl hbn
    generalize wn = wv at *
    have hXl : PX < wv.heap.size := (Array.getElem?_eq_some_iff.1 hX).1
    have hYl : PX + 1 < wv.heap.size := (Array.getElem?_eq_some_iff.1 hY).1
    have hZl : PX + 1 + 1 < wv.heap.size := (Array.getElem?_eq_some_iff.1 hZ).1
    conv => arg 4; whnf
    conv => arg 4; arg 1; whnf
    refine pt_free (by rfl) (fun K hK => ?_)
    go_big_quiet_op
    first | (refine hK _ ?_; clear hK K) | (refine ⟨_, fun _ _ => rfl, hK _ ?_⟩; clear hK K)
    conv => arg 4; whnf
    conv => arg 4; arg 1; whnf
    refine pt_eff (by rfl) (fun K hK => ?_)
    go_wp2_with fail
    refine (two_gt _ ka na kb nb sa sb hka hkb hka4 hkb4 (1) 1 e1 (by decide)).mono ?_
    rintro en wn ⟨rfl, hbn⟩
    refine hK _ _ hbn ?_
    clear hK K
    have hbw := hbw.trans (hbn.mono hbw.size)
    have hX := (hbn.block _ hXl).trans hX
    have hY := (hbn.block _ hYl).trans hY
    have hZ := (hbn.block _ hZl).trans hZ
    clear hXl hYl hZl hbn
    generalize wn = wv at *
    have hXl : PX < wv.heap.size := (Array.getElem?_eq_some_iff.1 hX).1
    have hYl : PX + 1 < wv.heap.size := (Array.getElem?_eq_some_iff.1 hY).1
    have hZl : PX + 1 + 1 < wv.heap.size := (Array.getElem?_eq_some_iff.1 hZ).1
    conv => arg 4; whnf
    conv => arg 4; arg 1; whnf
    refine pt_free (by rfl) (fun K hK => ?_)
    go_big_quiet_op
    first | (refine hK _ ?_; clear hK K) | (refine ⟨_, fun _ _ => rfl, hK _ ?_⟩; clear hK K)
    conv => arg 4; whnf
    conv => arg 4; arg 1; whnf
    refine pt_eff (by rfl) (fun K hK => ?_)
    go_wp2_with fail
    refine (two_eq _ ka na kb nb sa sb hka hkb hka4 hkb4 (1) 0 e1 (by decide)).mono ?_
    rintro en wn ⟨rfl, hbn⟩
    refine hK _ _ hbn ?_
    clear hK K
    have hbw := hbw.trans (hbn.mono hbw.size)
    have hX := (hbn.block _ hXl).trans hX
    have hY := (hbn.block _ hYl).trans hY
    have hZ := (hbn.block _ hZl).trans hZ
    clear hXl hYl hZl hbn
    generalize wn = wv at *
    have hXl : PX < wv.heap.size := (Array.getElem?_eq_some_iff.1 hX).1
    have hYl : PX + 1 < wv.heap.size := (Array.getElem?_eq_some_iff.1 hY).1
    have hZl : PX + 1 + 1 < wv.heap.size := (Array.getElem?_eq_some_iff.1 hZ).1
    conv => arg 4; whnf
    conv => arg 4; arg 1; whnf
    refine pt_free (by rfl) (fun K hK => ?_)
    go_big_quiet_op
    first | (refine hK _ ?_; clear hK K) | (refine ⟨_, fun _ _ => rfl, hK _ ?_⟩; clear hK K)
    conv => arg 4; whnf
    conv => arg 4; arg 1; whnf
    refine pt_free (by rfl) (fun K hK => ?_)
    go_big_quiet_op
    first | (refine hK _ ?_; clear hK K) | (refine ⟨_, fun _ _ => rfl, hK _ ?_⟩; clear hK K)
    conv => arg 4; whnf
    conv => arg 4; arg 1; whnf
    refine pt_free (by rfl) (fun K hK => ?_)
    go_big_quiet_op
    first | (refine hK _ ?_; clear hK K) | (refine ⟨_, fun _ _ => rfl, hK _ ?_⟩; clear hK K)
    conv => arg 4; whnf
    conv => arg 4; arg 1; whnf
    refine pt_free (by rfl) (fun K hK => ?_)
    go_big_quiet_op
    first | (refine hK _ ?_; clear hK K) | (refine ⟨_, fun _ _ => rfl, hK _ ?_⟩; clear hK K)
    refine pt_nil ?_
    obtain ⟨x0, x1, x2, _⟩ := val3 hX
    obtain ⟨y0, y1, y2, _⟩ := val3 hY
    obtain ⟨z0, z1, z2, _⟩ := val3 hZ
    go_wp2_with fail
    clear x0 x1 x2 y0 y1 y2 z0 z1 z2
    refine (two_le _ ka na kb nb sa sb hka hkb hka4 hkb4 (1) 0 e1 (by decide)).mono ?_
    rintro en wn ⟨rfl, hbn⟩
    have hbw := hbw.trans (hbn.mono hbw.size)
    have hX := (hbn.block _ hXl).trans hX
    have hY := (hbn.block _ hYl).trans hY
    have hZ := (hbn.block _ hZl).trans hZ
    clear hXl hYl hZl hbn
    generalize wn = wv at *
    have hXl : PX < wv.heap.size := (Array.getElem?_eq_some_iff.1 hX).1
    have hYl : PX + 1 < wv.heap.size := (Array.getElem?_eq_some_iff.1 hY).1
    have hZl : PX + 1 + 1 < wv.heap.size := (Array.getElem?_eq_some_iff.1 hZ).1
    obtain ⟨x0, x1, x2, _⟩ := val3 hX
    obtain ⟨y0, y1, y2, _⟩ := val3 hY
    obtain ⟨z0, z1, z2, _⟩ := val3 hZ
    go_wp2_with fail
    clear x0 x1 x2 y0 y1 y2 z0 z1 z2
    refine (two_ge _ ka na kb nb sa sb hka hkb hka4 hkb4 (1) 1 e1 (by decide)).mono ?_
    rintro en wn ⟨rfl, hbn⟩
    have hbw := hbw.trans (hbn.mono hbw.size)
    have hX := (hbn.block _ hXl).trans hX
    have hY := (hbn.block _ hYl).trans hY
    have hZ := (hbn.block _ hZl).trans hZ
    clear hXl hYl hZl hbn
    generalize wn = wv at *
    have hXl : PX < wv.heap.size := (Array.getElem?_eq_some_iff.1 hX).1
    have hYl : PX + 1 < wv.heap.size := (Array.getElem?_eq_some_iff.1 hY).1
    have hZl : PX + 1 + 1 < wv.heap.size := (Array.getElem?_eq_some_iff.1 hZ).1
    obtain ⟨x0, x1, x2, _⟩ := val3 hX
    obtain ⟨y0, y1, y2, _⟩ := val3 hY
    obtain ⟨z0, z1, z2, _⟩ := val3 hZ
    go_wp2_with fail
    clear x0 x1 x2 y0 y1 y2 z0 z1 z2
    refine (two_ne _ ka na kb nb sa sb hka hkb hka4 hkb4 (1) 1 e1 (by decide)).mono ?_
    rintro en wn ⟨rfl, hbn⟩
    have hbw := hbw.trans (hbn.mono hbw.size)
    have hX := (hbn.block _ hXl).trans hX
    have hY := (hbn.block _ hYl).trans hY
    have hZ := (hbn.block _ hZl).trans hZ
    clear hXl hYl hZl hbn
    generalize wn = wv at *
    have hXl : PX < wv.heap.size := (Array.getElem?_eq_some_iff.1 hX).1
    have hYl : PX + 1 < wv.heap.size := (Array.getElem?_eq_some_iff.1 hY).1
    have hZl : PX + 1 + 1 < wv.heap.size := (Array.getElem?_eq_some_iff.1 hZ).1
    obtain ⟨x0, x1, x2, _⟩ := val3 hX
    obtain ⟨y0, y1, y2, _⟩ := val3 hY
    obtain ⟨z0, z1, z2, _⟩ := val3 hZ
    go_wp2_with fail
    clear x0 x1 x2 y0 y1 y2 z0 z1 z2
    refine (two_gt _ kb nb ka na sb sa hkb hka hkb4 hka4 (-1) 0 e4 (by decide)).mono ?_
    rintro en wn ⟨rfl, hbn⟩
    have hbw := hbw.trans (hbn.mono hbw.size)
    have hX := (hbn.block _ hXl).trans hX
    have hY := (hbn.block _ hYl).trans hY
    have hZ := (hbn.block _ hZl).trans hZ
    clear hXl hYl hZl hbn
    generalize wn = wv at *
    have hXl : PX < wv.heap.size := (Array.getElem?_eq_some_iff.1 hX).1
    have hYl : PX + 1 < wv.heap.size := (Array.getElem?_eq_some_iff.1 hY).1
    have hZl : PX + 1 + 1 < wv.heap.size := (Array.getElem?_eq_some_iff.1 hZ).1
    obtain ⟨r2, hr2⟩ : ∃ r, bN (decide (c2 ≤ 0)) = r := ⟨_, rfl⟩
    obtain ⟨x0, x1, x2, _⟩ := val3 hX
    obtain ⟨y0, y1, y2, _⟩ := val3 hY
    obtain ⟨z0, z1, z2, _⟩ := val3 hZ
    go_wp2_with fail
    clear x0 x1 x2 y0 y1 y2 z0 z1 z2
    refine (two_le _ kb nb kc nc sb sc hkb hkc hkb4 hkc4 c2 r2 e2 hr2).mono ?_
    rintro en wn ⟨rfl, hbn⟩
    have hbw := hbw.trans (hbn.mono hbw.size)
    have hX := (hbn.block _ hXl).trans hX
    have hY := (hbn.block _ hYl).trans hY
    have hZ := (hbn.block _ hZl).trans hZ
    clear hXl hYl hZl hbn
    generalize wn = wv at *
    have hXl : PX < wv.heap.size := (Array.getElem?_eq_some_iff.1 hX).1
    have hYl : PX + 1 < wv.heap.size := (Array.getElem?_eq_some_iff.1 hY).1
    have hZl : PX + 1 + 1 < wv.heap.size := (Array.getElem?_eq_some_iff.1 hZ).1
    obtain ⟨x0, x1, x2, _⟩ := val3 hX
    obtain ⟨y0, y1, y2, _⟩ := val3 hY
    obtain ⟨z0, z1, z2, _⟩ := val3 hZ
    go_wp2_with fail
    clear x0 x1 x2 y0 y1 y2 z0 z1 z2
    refine (awake7 _).mono ?_
    rintro en wn ⟨rfl, hbn⟩
    have hbw := hbw.trans (hbn.mono hbw.size)
    go_wp2
    go_ret
    exact ⟨rfl, hbw⟩
end Go.Proofs.YtejpfpklgkcagaaDoor
