/- The walk of FunIf, case Bad. Written by funifxgen.py. -/
import Derived.Test.YtcbaioagcemmnaaDoorFunIfW
namespace Go.Proofs.YtcbaioagcemmnaaDoor
open Go.RowKit Go.Maps
theorem blk3JBad {w : World} {p q : Nat} {o : Obj} {x y z : Value} (h : q ≠ p) (hq : w.heap[q]? = some o) : (((w.setCell ⟨p, 0, none⟩ x).setCell ⟨p, 1, none⟩ y).setCell ⟨p, 2, none⟩ z).heap[q]? = some o := by
  simp [World.setCell, Array.getElem?_modify, Ne.symm h, hq]
set_option maxRecDepth 100000 in
set_option maxHeartbeats 16000000 in
theorem funIf_Bad (w : World) (c k l : Nat) (n : Int) (hq : (c : Int) % 5 = 2) (rn : InR n) :
    Calls Tryd.prog 4 #[.int .u8 c, .int .u8 k, .int .u8 l, .int .i64 n] w fun e w' => e = .returned (.bool true) ∧ Below w.heap.size w w' := by
  have hX0 : vmake c n ⟨#[116]⟩ = (2, 0, ⟨#[116]⟩) := by unfold vmake; rw [if_neg (by omega), if_pos hq]; exact if_neg (by decide)
  have hm : mayV (2, 0, (⟨#[116]⟩ : ByteArray)) := by rw [← hX0]; exact (vmake_may c n _ rn).1
  have f1 : ((c : Int) % 5 == 4) = false := by rw [beq_eq_false_iff_ne]; omega
  have f2 : ((c : Int) % 5 == 2) = true := by simpa using hq
  have C3 := Lib.hid (fun W G g1 g2 g3 (y z : V3) hA => callA3 W G g1 g2 g3 (2, 0, ⟨#[116]⟩) y z hA hm 4 1 noB rfl)
  have C2 := Lib.hid (fun W G g1 g2 (y : V3) hA => callA2 W G g1 g2 (2, 0, ⟨#[116]⟩) y hA hm 4 1 noB rfl)
  have CX := Lib.hid (fun W => make_any W c n ⟨#[116]⟩)
  rw [hX0] at CX
  clear hq hm rn hX0
  go_enter Tryd.func4, Tryd.ntmps4
  go_wp2_with fail
  refine (CX.out w).mono ?_
  rintro e v1 ⟨rfl, hb1⟩
  go_wp2_with fail
  refine (make_some v1 k _ ⟨#[117]⟩).mono ?_
  rintro e v2 ⟨ky, ny, sy, rfl, hb2⟩
  go_wp2_with fail
  refine (make_some v2 l _ ⟨#[119]⟩).mono ?_
  rintro e v3 ⟨kz, nz, sz, rfl, hb3⟩
  have hb4 := hb1.trans ((hb2.trans (hb3.mono hb2.size)).mono hb1.size)
  have hs4 := hb4.size
  clear hb1 hb2 hb3 CX
  go_wp2_with fail
  have stx := str_eq_true (rfl : (⟨#[116]⟩ : ByteArray) = ⟨#[116]⟩)
  have sty := str_eq_true (rfl : sy = sy)
  have stz := str_eq_true (rfl : sz = sz)
  obtain ⟨W, hW⟩ : ∃ W, W = (((v3.alloc (.cells #[.int .i64 2, .int .i64 0, .string ⟨#[116]⟩] 31)).alloc (.cells #[.int .i64 ky, .int .i64 ny, .string sy] 31)).alloc (.cells #[.int .i64 kz, .int .i64 nz, .string sz] 31)) := ⟨_, rfl⟩
  have hs0 := heap_alloc_new v3 (.cells #[.int .i64 2, .int .i64 0, .string ⟨#[116]⟩] 31)
  have hs1 := heap_alloc_new (v3.alloc (.cells #[.int .i64 2, .int .i64 0, .string ⟨#[116]⟩] 31)) (.cells #[.int .i64 ky, .int .i64 ny, .string sy] 31)
  rw [World.size_alloc] at hs1
  have hs2 := heap_alloc_new ((v3.alloc (.cells #[.int .i64 2, .int .i64 0, .string ⟨#[116]⟩] 31)).alloc (.cells #[.int .i64 ky, .int .i64 ny, .string sy] 31)) (.cells #[.int .i64 kz, .int .i64 nz, .string sz] 31)
  rw [World.size_alloc, World.size_alloc] at hs2
  have hX : W.heap[v3.heap.size]? = some (.cells #[.int .i64 2, .int .i64 0, .string ⟨#[116]⟩] 31 (0, 0)) := by rw [hW]; exact (Below.heap_alloc _ _ _ (by simp; try omega)).trans ((Below.heap_alloc _ _ _ (by simp; try omega)).trans (hs0))
  have hY : W.heap[v3.heap.size + 1]? = some (.cells #[.int .i64 ky, .int .i64 ny, .string sy] 31 (0, 0)) := by rw [hW]; exact (Below.heap_alloc _ _ _ (by simp; try omega)).trans (hs1)
  have hZ : W.heap[v3.heap.size + 1 + 1]? = some (.cells #[.int .i64 kz, .int .i64 nz, .string sz] 31 (0, 0)) := by rw [hW]; exact hs2
  have hsW : W.heap.size = v3.heap.size + 3 := by rw [hW]; simp
  have hbW : Below w.heap.size w W := by rw [hW]; exact ((hb4.alloc hs4 _).alloc (by simp; try omega) _).alloc (by simp; try omega) _
  rw [← hW]
  clear hW hs0 hs1 hs2
  obtain ⟨P, hP⟩ : ∃ P, v3.heap.size = P := ⟨_, rfl⟩
  rw [hP] at hX hY hZ ⊢
  have hbw := hbW
  clear hbW hsW hP hb4 hs4
  generalize W = wv at *
  have hXl : P < wv.heap.size := (Array.getElem?_eq_some_iff.1 hX).1
  have hYl : P + 1 < wv.heap.size := (Array.getElem?_eq_some_iff.1 hY).1
  have hZl : P + 1 + 1 < wv.heap.size := (Array.getElem?_eq_some_iff.1 hZ).1
  refine wp_region_tree [9] (.free 0 (.free 2 (.free 4 (.alt 1 (.alt 3 (.alt 5 (.alt 6 (.alt 7 (.eff 8 (.last 9 (.nil))) 8 (.eff 7 (.last 9 (.nil)))) 8 (.eff 6 (.eff 7 (.last 9 (.nil))))) 8 (.eff 5 (.eff 6 (.eff 7 (.last 9 (.nil)))))) 8 (.eff 3 (.eff 5 (.eff 6 (.eff 7 (.last 9 (.nil))))))) 8 (.eff 1 (.eff 3 (.eff 5 (.eff 6 (.eff 7 (.last 9 (.nil))))))))))) (by kernel_rfl) (by kernel_rfl) (fun _ _ d _ _ h => by cases d <;> exact h) ?_
  have hbw := hbw.drew
  have hX : wv.drew.heap[P]? = _ := hX
  have hY : wv.drew.heap[P + 1]? = _ := hY
  have hZ : wv.drew.heap[P + 1 + 1]? = _ := hZ
  clear hXl hYl hZl
  generalize wv.drew = wv at *
  have hXl : P < wv.heap.size := (Array.getElem?_eq_some_iff.1 hX).1
  have hYl : P + 1 < wv.heap.size := (Array.getElem?_eq_some_iff.1 hY).1
  have hZl : P + 1 + 1 < wv.heap.size := (Array.getElem?_eq_some_iff.1 hZ).1
  conv => arg 4; whnf
  conv => arg 4; arg 1; whnf
  refine pt_loadB (k := P) (fun W h => load_val _ W _ _ _ (h.trans hX)) hXl (by rfl) rfl rfl ?_
  simp only [Act.put, List.setIfInBounds_toArray, List.set_cons_zero, List.set_cons_succ]
  conv => arg 4; whnf
  conv => arg 4; arg 1; whnf
  refine pt_loadB (k := P + 1) (fun W h => load_val _ W _ _ _ (h.trans hY)) hYl (by rfl) rfl rfl ?_
  simp only [Act.put, List.setIfInBounds_toArray, List.set_cons_zero, List.set_cons_succ]
  conv => arg 4; whnf
  conv => arg 4; arg 1; whnf
  refine pt_loadB (k := P + 1 + 1) (fun W h => load_val _ W _ _ _ (h.trans hZ)) hZl (by rfl) rfl rfl ?_
  simp only [Act.put, List.setIfInBounds_toArray, List.set_cons_zero, List.set_cons_succ]
  conv => arg 4; whnf
  refine pt_alt ?_ ?_
  conv => arg 4; whnf
  conv => arg 4; arg 1; whnf
  refine pt_eff (by rfl) (fun K hK => ?_)
  go_wp2_with fail
  refine (lone_any _ 2 0 ⟨#[116]⟩).mono ?_
  rintro en wn ⟨g1, rfl, hbn, hnew⟩
  refine hK _ _ hbn ?_
  clear hK K
  have hbw := hbw.trans (hbn.mono hbw.size)
  have hX := (hbn.block _ hXl).trans hX
  have hY := (hbn.block _ hYl).trans hY
  have hZ := (hbn.block _ hZl).trans hZ
  clear hXl hYl hZl hbn
  generalize wn = wv at *
  have hXl : P < wv.heap.size := (Array.getElem?_eq_some_iff.1 hX).1
  have hYl : P + 1 < wv.heap.size := (Array.getElem?_eq_some_iff.1 hY).1
  have hZl : P + 1 + 1 < wv.heap.size := (Array.getElem?_eq_some_iff.1 hZ).1
  have hv1 := hnew
  clear hnew
  conv => arg 4; whnf
  refine pt_alt ?_ ?_
  conv => arg 4; whnf
  conv => arg 4; arg 1; whnf
  refine pt_eff (by rfl) (fun K hK => ?_)
  go_wp2_with fail
  refine (lone_any _ ky ny sy).mono ?_
  rintro en wn ⟨g2, rfl, hbn, hnew⟩
  refine hK _ _ hbn ?_
  clear hK K
  have hbw := hbw.trans (hbn.mono hbw.size)
  have hX := (hbn.block _ hXl).trans hX
  have hY := (hbn.block _ hYl).trans hY
  have hZ := (hbn.block _ hZl).trans hZ
  have hv1 := hv1.below hbn
  clear hXl hYl hZl hbn
  generalize wn = wv at *
  have hXl : P < wv.heap.size := (Array.getElem?_eq_some_iff.1 hX).1
  have hYl : P + 1 < wv.heap.size := (Array.getElem?_eq_some_iff.1 hY).1
  have hZl : P + 1 + 1 < wv.heap.size := (Array.getElem?_eq_some_iff.1 hZ).1
  have hv2 := hnew
  clear hnew
  conv => arg 4; whnf
  refine pt_alt ?_ ?_
  conv => arg 4; whnf
  conv => arg 4; arg 1; whnf
  refine pt_eff (by rfl) (fun K hK => ?_)
  go_wp2_with fail
  refine (lone_any _ kz nz sz).mono ?_
  rintro en wn ⟨g3, rfl, hbn, hnew⟩
  refine hK _ _ hbn ?_
  clear hK K
  have hbw := hbw.trans (hbn.mono hbw.size)
  have hX := (hbn.block _ hXl).trans hX
  have hY := (hbn.block _ hYl).trans hY
  have hZ := (hbn.block _ hZl).trans hZ
  have hv1 := hv1.below hbn
  have hv2 := hv2.below hbn
  clear hXl hYl hZl hbn
  generalize wn = wv at *
  have hXl : P < wv.heap.size := (Array.getElem?_eq_some_iff.1 hX).1
  have hYl : P + 1 < wv.heap.size := (Array.getElem?_eq_some_iff.1 hY).1
  have hZl : P + 1 + 1 < wv.heap.size := (Array.getElem?_eq_some_iff.1 hZ).1
  have hv3 := hnew
  clear hnew
  conv => arg 4; whnf
  refine pt_alt ?_ ?_
  conv => arg 4; whnf
  conv => arg 4; arg 1; whnf
  refine pt_eff (by rfl) (fun K hK => ?_)
  go_wp2_with fail
  refine hK _ _ ((Below.refl _ _).alloc (Nat.le_refl _) _) ?_
  clear hK K
  have hbn : Below wv.heap.size wv (wv.alloc (.cells #[.bool false, .int .i64 0, .slice (some ⟨g1, 0, none⟩) 1 1, .bool false, .int .i64 0, .slice (some ⟨g2, 0, none⟩) 1 1, .bool false, .int .i64 0, .slice (some ⟨g3, 0, none⟩) 1 1] 27)) := (Below.refl _ _).alloc (Nat.le_refl _) _
  obtain ⟨G, hG⟩ : ∃ G, G = wv.heap.size := ⟨_, rfl⟩
  have hGo := heap_alloc_new wv (.cells #[.bool false, .int .i64 0, .slice (some ⟨g1, 0, none⟩) 1 1, .bool false, .int .i64 0, .slice (some ⟨g2, 0, none⟩) 1 1, .bool false, .int .i64 0, .slice (some ⟨g3, 0, none⟩) 1 1] 27)
  rw [← hG] at hGo ⊢
  clear hG
  have hAA : AtA (wv.alloc (.cells #[.bool false, .int .i64 0, .slice (some ⟨g1, 0, none⟩) 1 1, .bool false, .int .i64 0, .slice (some ⟨g2, 0, none⟩) 1 1, .bool false, .int .i64 0, .slice (some ⟨g3, 0, none⟩) 1 1] 27)) (some ⟨G, 0, none⟩) [oneArg (some ⟨g1, 0, none⟩) (2, 0, ⟨#[116]⟩), oneArg (some ⟨g2, 0, none⟩) (ky, ny, sy), oneArg (some ⟨g3, 0, none⟩) (kz, nz, sz)] := atA_lit (by simp) hGo rfl (fun a ha => by
    simp only [List.mem_cons, List.not_mem_nil, or_false] at ha
    rcases ha with rfl | rfl | rfl
    · exact hv1.below hbn
    · exact hv2.below hbn
    · exact hv3.below hbn)
  clear hGo hv1 hv2 hv3
  obtain ⟨wn, hwn⟩ : ∃ wn, wn = wv.alloc (.cells #[.bool false, .int .i64 0, .slice (some ⟨g1, 0, none⟩) 1 1, .bool false, .int .i64 0, .slice (some ⟨g2, 0, none⟩) 1 1, .bool false, .int .i64 0, .slice (some ⟨g3, 0, none⟩) 1 1] 27) := ⟨_, rfl⟩
  rw [← hwn] at hbn hAA ⊢
  clear hwn
  have hbw := hbw.trans (hbn.mono hbw.size)
  have hX := (hbn.block _ hXl).trans hX
  have hY := (hbn.block _ hYl).trans hY
  have hZ := (hbn.block _ hZl).trans hZ
  clear hXl hYl hZl hbn
  generalize wn = wv at *
  have hXl : P < wv.heap.size := (Array.getElem?_eq_some_iff.1 hX).1
  have hYl : P + 1 < wv.heap.size := (Array.getElem?_eq_some_iff.1 hY).1
  have hZl : P + 1 + 1 < wv.heap.size := (Array.getElem?_eq_some_iff.1 hZ).1
  conv => arg 4; whnf
  refine pt_alt ?_ ?_
  conv => arg 4; whnf
  conv => arg 4; arg 1; whnf
  refine pt_eff (by rfl) (fun K hK => ?_)
  go_wp2_with fail
  refine (C3.out _ _ _ _ _ _ _ hAA).mono ?_
  rintro en wn ⟨rfl, hbn⟩
  refine hK _ _ hbn ?_
  clear hK K
  clear hAA
  have hbw := hbw.trans (hbn.mono hbw.size)
  have hX := (hbn.block _ hXl).trans hX
  have hY := (hbn.block _ hYl).trans hY
  have hZ := (hbn.block _ hZl).trans hZ
  clear hXl hYl hZl hbn
  generalize wn = wv at *
  have hXl : P < wv.heap.size := (Array.getElem?_eq_some_iff.1 hX).1
  have hYl : P + 1 < wv.heap.size := (Array.getElem?_eq_some_iff.1 hY).1
  have hZl : P + 1 + 1 < wv.heap.size := (Array.getElem?_eq_some_iff.1 hZ).1
  conv => arg 4; whnf
  conv => arg 4; arg 1; whnf
  refine pt_eff (by rfl) (fun K hK => ?_)
  go_wp2_with fail
  refine hK _ _ ((Below.refl _ _).alloc (Nat.le_refl _) _) ?_
  clear hK K
  have hbn : Below wv.heap.size wv (wv.alloc (.cells #[.int .i64 0, .int .i64 0, .string ⟨#[]⟩] 31)) := (Below.refl _ _).alloc (Nat.le_refl _) _
  obtain ⟨V, hG⟩ : ∃ G, G = wv.heap.size := ⟨_, rfl⟩
  have hnew := heap_alloc_new wv (.cells #[.int .i64 0, .int .i64 0, .string ⟨#[]⟩] 31)
  have hfarV := Lib.hid (show P + 1 + 1 < V by omega)
  have hbigV := Lib.hid (show w.heap.size ≤ V by have := hbw.size; omega)
  rw [← hG] at hnew ⊢
  clear hG
  obtain ⟨wn, hwn⟩ : ∃ wn, wn = wv.alloc (.cells #[.int .i64 0, .int .i64 0, .string ⟨#[]⟩] 31) := ⟨_, rfl⟩
  rw [← hwn] at hbn hnew ⊢
  clear hwn
  have hbw := hbw.trans (hbn.mono hbw.size)
  have hX := (hbn.block _ hXl).trans hX
  have hY := (hbn.block _ hYl).trans hY
  have hZ := (hbn.block _ hZl).trans hZ
  clear hXl hYl hZl hbn
  generalize wn = wv at *
  have hXl : P < wv.heap.size := (Array.getElem?_eq_some_iff.1 hX).1
  have hYl : P + 1 < wv.heap.size := (Array.getElem?_eq_some_iff.1 hY).1
  have hZl : P + 1 + 1 < wv.heap.size := (Array.getElem?_eq_some_iff.1 hZ).1
  have hV := hnew
  clear hnew
  have hVl : V < wv.heap.size := (Array.getElem?_eq_some_iff.1 hV).1
  obtain ⟨r0, r1, r2, z0, z1, z2⟩ := val3 hV
  conv => arg 4; whnf
  conv => arg 4; arg 1; whnf
  refine pt_last (by rfl) (fun K hK => ?_)
  go_wp2_with fail
  clear r0 r1 r2 z0 z1 z2
  have hz := val_store (x := .int .i64 4) (y := .int .i64 1) (z := .string ⟨#[]⟩) hV
  have qX := blk3JBad (x := .int .i64 4) (y := .int .i64 1) (z := .string ⟨#[]⟩) (show P ≠ V by have := hfarV.out; omega) hX
  have qY := blk3JBad (x := .int .i64 4) (y := .int .i64 1) (z := .string ⟨#[]⟩) (show P + 1 ≠ V by have := hfarV.out; omega) hY
  have qZ := blk3JBad (x := .int .i64 4) (y := .int .i64 1) (z := .string ⟨#[]⟩) (show P + 1 + 1 ≠ V by have := hfarV.out; omega) hZ
  have hbw := ((hbw.setCell (p := ⟨V, 0, none⟩) hbigV.out (.int .i64 4)).setCell (p := ⟨V, 1, none⟩) hbigV.out (.int .i64 1)).setCell (p := ⟨V, 2, none⟩) hbigV.out (.string ⟨#[]⟩)
  clear hX hY hZ hV hXl hYl hZl hVl
  have hV := hz
  have hX := qX
  have hY := qY
  have hZ := qZ
  clear hz qX qY qZ
  generalize (((wv.setCell ⟨V, 0, none⟩ (.int .i64 4)).setCell ⟨V, 1, none⟩ (.int .i64 1)).setCell ⟨V, 2, none⟩ (.string ⟨#[]⟩)) = wv at *
  have hXl : P < wv.heap.size := (Array.getElem?_eq_some_iff.1 hX).1
  have hYl : P + 1 < wv.heap.size := (Array.getElem?_eq_some_iff.1 hY).1
  have hZl : P + 1 + 1 < wv.heap.size := (Array.getElem?_eq_some_iff.1 hZ).1
  have hVl : V < wv.heap.size := (Array.getElem?_eq_some_iff.1 hV).1
  refine pt_nil ?_
  go_wp2_with fail
  refine wp_region_tree [7] (.free 0 (.free 2 (.alt 1 (.alt 3 (.alt 4 (.alt 5 (.eff 6 (.last 7 (.nil))) 6 (.eff 5 (.last 7 (.nil)))) 6 (.eff 4 (.eff 5 (.last 7 (.nil))))) 6 (.eff 3 (.eff 4 (.eff 5 (.last 7 (.nil)))))) 6 (.eff 1 (.eff 3 (.eff 4 (.eff 5 (.last 7 (.nil))))))))) (by kernel_rfl) (by kernel_rfl) (fun _ _ d _ _ h => by cases d <;> exact h) ?_
  have hbw := hbw.drew
  have hX : wv.drew.heap[P]? = _ := hX
  have hY : wv.drew.heap[P + 1]? = _ := hY
  have hZ : wv.drew.heap[P + 1 + 1]? = _ := hZ
  have hV : wv.drew.heap[V]? = _ := hV
  clear hXl hYl hZl hVl
  generalize wv.drew = wv at *
  have hXl : P < wv.heap.size := (Array.getElem?_eq_some_iff.1 hX).1
  have hYl : P + 1 < wv.heap.size := (Array.getElem?_eq_some_iff.1 hY).1
  have hZl : P + 1 + 1 < wv.heap.size := (Array.getElem?_eq_some_iff.1 hZ).1
  have hVl : V < wv.heap.size := (Array.getElem?_eq_some_iff.1 hV).1
  conv => arg 4; whnf
  conv => arg 4; arg 1; whnf
  refine pt_loadB (k := P) (fun W h => load_val _ W _ _ _ (h.trans hX)) hXl (by rfl) rfl rfl ?_
  simp only [Act.put, List.setIfInBounds_toArray, List.set_cons_zero, List.set_cons_succ]
  conv => arg 4; whnf
  conv => arg 4; arg 1; whnf
  refine pt_loadB (k := P + 1) (fun W h => load_val _ W _ _ _ (h.trans hY)) hYl (by rfl) rfl rfl ?_
  simp only [Act.put, List.setIfInBounds_toArray, List.set_cons_zero, List.set_cons_succ]
  conv => arg 4; whnf
  refine pt_alt ?_ ?_
  conv => arg 4; whnf
  conv => arg 4; arg 1; whnf
  refine pt_eff (by rfl) (fun K hK => ?_)
  go_wp2_with fail
  refine (lone_any _ 2 0 ⟨#[116]⟩).mono ?_
  rintro en wn ⟨e1, rfl, hbn, hnew⟩
  refine hK _ _ hbn ?_
  clear hK K
  have hbw := hbw.trans (hbn.mono hbw.size)
  have hX := (hbn.block _ hXl).trans hX
  have hY := (hbn.block _ hYl).trans hY
  have hZ := (hbn.block _ hZl).trans hZ
  have hV := (hbn.block _ hVl).trans hV
  clear hXl hYl hZl hVl hbn
  generalize wn = wv at *
  have hXl : P < wv.heap.size := (Array.getElem?_eq_some_iff.1 hX).1
  have hYl : P + 1 < wv.heap.size := (Array.getElem?_eq_some_iff.1 hY).1
  have hZl : P + 1 + 1 < wv.heap.size := (Array.getElem?_eq_some_iff.1 hZ).1
  have hVl : V < wv.heap.size := (Array.getElem?_eq_some_iff.1 hV).1
  have ha1 := hnew
  clear hnew
  conv => arg 4; whnf
  refine pt_alt ?_ ?_
  conv => arg 4; whnf
  conv => arg 4; arg 1; whnf
  refine pt_eff (by rfl) (fun K hK => ?_)
  go_wp2_with fail
  refine (lone_any _ ky ny sy).mono ?_
  rintro en wn ⟨e2, rfl, hbn, hnew⟩
  refine hK _ _ hbn ?_
  clear hK K
  have hbw := hbw.trans (hbn.mono hbw.size)
  have hX := (hbn.block _ hXl).trans hX
  have hY := (hbn.block _ hYl).trans hY
  have hZ := (hbn.block _ hZl).trans hZ
  have hV := (hbn.block _ hVl).trans hV
  have ha1 := ha1.below hbn
  clear hXl hYl hZl hVl hbn
  generalize wn = wv at *
  have hXl : P < wv.heap.size := (Array.getElem?_eq_some_iff.1 hX).1
  have hYl : P + 1 < wv.heap.size := (Array.getElem?_eq_some_iff.1 hY).1
  have hZl : P + 1 + 1 < wv.heap.size := (Array.getElem?_eq_some_iff.1 hZ).1
  have hVl : V < wv.heap.size := (Array.getElem?_eq_some_iff.1 hV).1
  have ha2 := hnew
  clear hnew
  conv => arg 4; whnf
  refine pt_alt ?_ ?_
  conv => arg 4; whnf
  conv => arg 4; arg 1; whnf
  refine pt_eff (by rfl) (fun K hK => ?_)
  go_wp2_with fail
  refine hK _ _ ((Below.refl _ _).alloc (Nat.le_refl _) _) ?_
  clear hK K
  have hbn : Below wv.heap.size wv (wv.alloc (.cells #[.bool false, .int .i64 0, .slice (some ⟨e1, 0, none⟩) 1 1, .bool false, .int .i64 0, .slice (some ⟨e2, 0, none⟩) 1 1] 27)) := (Below.refl _ _).alloc (Nat.le_refl _) _
  obtain ⟨G, hG⟩ : ∃ G, G = wv.heap.size := ⟨_, rfl⟩
  have hGo := heap_alloc_new wv (.cells #[.bool false, .int .i64 0, .slice (some ⟨e1, 0, none⟩) 1 1, .bool false, .int .i64 0, .slice (some ⟨e2, 0, none⟩) 1 1] 27)
  rw [← hG] at hGo ⊢
  clear hG
  have hAA : AtA (wv.alloc (.cells #[.bool false, .int .i64 0, .slice (some ⟨e1, 0, none⟩) 1 1, .bool false, .int .i64 0, .slice (some ⟨e2, 0, none⟩) 1 1] 27)) (some ⟨G, 0, none⟩) [oneArg (some ⟨e1, 0, none⟩) (2, 0, ⟨#[116]⟩), oneArg (some ⟨e2, 0, none⟩) (ky, ny, sy)] := atA_lit (by simp) hGo rfl (fun a ha => by
    simp only [List.mem_cons, List.not_mem_nil, or_false] at ha
    rcases ha with rfl | rfl
    · exact ha1.below hbn
    · exact ha2.below hbn)
  clear hGo ha1 ha2
  obtain ⟨wn, hwn⟩ : ∃ wn, wn = wv.alloc (.cells #[.bool false, .int .i64 0, .slice (some ⟨e1, 0, none⟩) 1 1, .bool false, .int .i64 0, .slice (some ⟨e2, 0, none⟩) 1 1] 27) := ⟨_, rfl⟩
  rw [← hwn] at hbn hAA ⊢
  clear hwn
  have hbw := hbw.trans (hbn.mono hbw.size)
  have hX := (hbn.block _ hXl).trans hX
  have hY := (hbn.block _ hYl).trans hY
  have hZ := (hbn.block _ hZl).trans hZ
  have hV := (hbn.block _ hVl).trans hV
  clear hXl hYl hZl hVl hbn
  generalize wn = wv at *
  have hXl : P < wv.heap.size := (Array.getElem?_eq_some_iff.1 hX).1
  have hYl : P + 1 < wv.heap.size := (Array.getElem?_eq_some_iff.1 hY).1
  have hZl : P + 1 + 1 < wv.heap.size := (Array.getElem?_eq_some_iff.1 hZ).1
  have hVl : V < wv.heap.size := (Array.getElem?_eq_some_iff.1 hV).1
  conv => arg 4; whnf
  refine pt_alt ?_ ?_
  conv => arg 4; whnf
  conv => arg 4; arg 1; whnf
  refine pt_eff (by rfl) (fun K hK => ?_)
  go_wp2_with fail
  refine (C2.out _ _ _ _ _ hAA).mono ?_
  rintro en wn ⟨rfl, hbn⟩
  refine hK _ _ hbn ?_
  clear hK K
  clear hAA
  have hbw := hbw.trans (hbn.mono hbw.size)
  have hX := (hbn.block _ hXl).trans hX
  have hY := (hbn.block _ hYl).trans hY
  have hZ := (hbn.block _ hZl).trans hZ
  have hV := (hbn.block _ hVl).trans hV
  clear hXl hYl hZl hVl hbn
  generalize wn = wv at *
  have hXl : P < wv.heap.size := (Array.getElem?_eq_some_iff.1 hX).1
  have hYl : P + 1 < wv.heap.size := (Array.getElem?_eq_some_iff.1 hY).1
  have hZl : P + 1 + 1 < wv.heap.size := (Array.getElem?_eq_some_iff.1 hZ).1
  have hVl : V < wv.heap.size := (Array.getElem?_eq_some_iff.1 hV).1
  conv => arg 4; whnf
  conv => arg 4; arg 1; whnf
  refine pt_eff (by rfl) (fun K hK => ?_)
  go_wp2_with fail
  refine hK _ _ ((Below.refl _ _).alloc (Nat.le_refl _) _) ?_
  clear hK K
  have hbn : Below wv.heap.size wv (wv.alloc (.cells #[.int .i64 0, .int .i64 0, .string ⟨#[]⟩] 31)) := (Below.refl _ _).alloc (Nat.le_refl _) _
  obtain ⟨U, hG⟩ : ∃ G, G = wv.heap.size := ⟨_, rfl⟩
  have hnew := heap_alloc_new wv (.cells #[.int .i64 0, .int .i64 0, .string ⟨#[]⟩] 31)
  have hfarU := Lib.hid (show P + 1 + 1 < U by omega)
  have hfarUV := Lib.hid (show V < U by omega)
  have hbigU := Lib.hid (show w.heap.size ≤ U by have := hbw.size; omega)
  rw [← hG] at hnew ⊢
  clear hG
  obtain ⟨wn, hwn⟩ : ∃ wn, wn = wv.alloc (.cells #[.int .i64 0, .int .i64 0, .string ⟨#[]⟩] 31) := ⟨_, rfl⟩
  rw [← hwn] at hbn hnew ⊢
  clear hwn
  have hbw := hbw.trans (hbn.mono hbw.size)
  have hX := (hbn.block _ hXl).trans hX
  have hY := (hbn.block _ hYl).trans hY
  have hZ := (hbn.block _ hZl).trans hZ
  have hV := (hbn.block _ hVl).trans hV
  clear hXl hYl hZl hVl hbn
  generalize wn = wv at *
  have hXl : P < wv.heap.size := (Array.getElem?_eq_some_iff.1 hX).1
  have hYl : P + 1 < wv.heap.size := (Array.getElem?_eq_some_iff.1 hY).1
  have hZl : P + 1 + 1 < wv.heap.size := (Array.getElem?_eq_some_iff.1 hZ).1
  have hVl : V < wv.heap.size := (Array.getElem?_eq_some_iff.1 hV).1
  have hU := hnew
  clear hnew
  have hUl : U < wv.heap.size := (Array.getElem?_eq_some_iff.1 hU).1
  obtain ⟨r0, r1, r2, z0, z1, z2⟩ := val3 hU
  conv => arg 4; whnf
  conv => arg 4; arg 1; whnf
  refine pt_last (by rfl) (fun K hK => ?_)
  go_wp2_with fail
  clear r0 r1 r2 z0 z1 z2
  have hz := val_store (x := .int .i64 4) (y := .int .i64 1) (z := .string ⟨#[]⟩) hU
  have qX := blk3JBad (x := .int .i64 4) (y := .int .i64 1) (z := .string ⟨#[]⟩) (show P ≠ U by have := hfarU.out; omega) hX
  have qY := blk3JBad (x := .int .i64 4) (y := .int .i64 1) (z := .string ⟨#[]⟩) (show P + 1 ≠ U by have := hfarU.out; omega) hY
  have qZ := blk3JBad (x := .int .i64 4) (y := .int .i64 1) (z := .string ⟨#[]⟩) (show P + 1 + 1 ≠ U by have := hfarU.out; omega) hZ
  have qV := blk3JBad (x := .int .i64 4) (y := .int .i64 1) (z := .string ⟨#[]⟩) (show V ≠ U by have := hfarUV.out; omega) hV
  have hbw := ((hbw.setCell (p := ⟨U, 0, none⟩) hbigU.out (.int .i64 4)).setCell (p := ⟨U, 1, none⟩) hbigU.out (.int .i64 1)).setCell (p := ⟨U, 2, none⟩) hbigU.out (.string ⟨#[]⟩)
  clear hX hY hZ hV hU hXl hYl hZl hVl hUl
  have hU := hz
  have hX := qX
  have hY := qY
  have hZ := qZ
  have hV := qV
  clear hz qX qY qZ qV
  generalize (((wv.setCell ⟨U, 0, none⟩ (.int .i64 4)).setCell ⟨U, 1, none⟩ (.int .i64 1)).setCell ⟨U, 2, none⟩ (.string ⟨#[]⟩)) = wv at *
  have hXl : P < wv.heap.size := (Array.getElem?_eq_some_iff.1 hX).1
  have hYl : P + 1 < wv.heap.size := (Array.getElem?_eq_some_iff.1 hY).1
  have hZl : P + 1 + 1 < wv.heap.size := (Array.getElem?_eq_some_iff.1 hZ).1
  have hVl : V < wv.heap.size := (Array.getElem?_eq_some_iff.1 hV).1
  have hUl : U < wv.heap.size := (Array.getElem?_eq_some_iff.1 hU).1
  refine pt_nil ?_
  obtain ⟨x0, x1, x2, _⟩ := val3 hX
  obtain ⟨y0, y1, y2, _⟩ := val3 hY
  obtain ⟨z0, z1, z2, _⟩ := val3 hZ
  obtain ⟨v0, v1, v2, _⟩ := val3 hV
  obtain ⟨u0, u1, u2, _⟩ := val3 hU
  clear hX hY hZ hV hU hXl hYl hZl hVl hUl
  go_wp2_with fail
  refine (awake8 _).mono ?_
  rintro en wn ⟨rfl, hbn⟩
  clear x0 x1 x2 y0 y1 y2 z0 z1 z2 v0 v1 v2 u0 u1 u2
  go_wp2
  go_ret
  exact ⟨rfl, hbw.trans (hbn.mono hbw.size)⟩
  conv => arg 4; whnf
  conv => arg 4; arg 1; whnf
  refine pt_eff (by rfl) (fun K hK => ?_)
  go_wp2_with fail
  refine hK _ _ ((Below.refl _ _).alloc (Nat.le_refl _) _) ?_
  clear hK K
  have hbn : Below wv.heap.size wv (wv.alloc (.cells #[.int .i64 0, .int .i64 0, .string ⟨#[]⟩] 31)) := (Below.refl _ _).alloc (Nat.le_refl _) _
  obtain ⟨U, hG⟩ : ∃ G, G = wv.heap.size := ⟨_, rfl⟩
  have hnew := heap_alloc_new wv (.cells #[.int .i64 0, .int .i64 0, .string ⟨#[]⟩] 31)
  have hfarU := Lib.hid (show P + 1 + 1 < U by omega)
  have hfarUV := Lib.hid (show V < U by omega)
  have hbigU := Lib.hid (show w.heap.size ≤ U by have := hbw.size; omega)
  rw [← hG] at hnew ⊢
  clear hG
  obtain ⟨wn, hwn⟩ : ∃ wn, wn = wv.alloc (.cells #[.int .i64 0, .int .i64 0, .string ⟨#[]⟩] 31) := ⟨_, rfl⟩
  rw [← hwn] at hbn hnew ⊢
  clear hwn
  have hbw := hbw.trans (hbn.mono hbw.size)
  have hX := (hbn.block _ hXl).trans hX
  have hY := (hbn.block _ hYl).trans hY
  have hZ := (hbn.block _ hZl).trans hZ
  have hV := (hbn.block _ hVl).trans hV
  have hAA := hAA.below hbn
  clear hXl hYl hZl hVl hbn
  generalize wn = wv at *
  have hXl : P < wv.heap.size := (Array.getElem?_eq_some_iff.1 hX).1
  have hYl : P + 1 < wv.heap.size := (Array.getElem?_eq_some_iff.1 hY).1
  have hZl : P + 1 + 1 < wv.heap.size := (Array.getElem?_eq_some_iff.1 hZ).1
  have hVl : V < wv.heap.size := (Array.getElem?_eq_some_iff.1 hV).1
  have hU := hnew
  clear hnew
  have hUl : U < wv.heap.size := (Array.getElem?_eq_some_iff.1 hU).1
  conv => arg 4; whnf
  conv => arg 4; arg 1; whnf
  refine pt_eff (by rfl) (fun K hK => ?_)
  go_wp2_with fail
  refine (C2.out _ _ _ _ _ hAA).mono ?_
  rintro en wn ⟨rfl, hbn⟩
  refine hK _ _ hbn ?_
  clear hK K
  clear hAA
  have hbw := hbw.trans (hbn.mono hbw.size)
  have hX := (hbn.block _ hXl).trans hX
  have hY := (hbn.block _ hYl).trans hY
  have hZ := (hbn.block _ hZl).trans hZ
  have hV := (hbn.block _ hVl).trans hV
  have hU := (hbn.block _ hUl).trans hU
  clear hXl hYl hZl hVl hUl hbn
  generalize wn = wv at *
  have hXl : P < wv.heap.size := (Array.getElem?_eq_some_iff.1 hX).1
  have hYl : P + 1 < wv.heap.size := (Array.getElem?_eq_some_iff.1 hY).1
  have hZl : P + 1 + 1 < wv.heap.size := (Array.getElem?_eq_some_iff.1 hZ).1
  have hVl : V < wv.heap.size := (Array.getElem?_eq_some_iff.1 hV).1
  have hUl : U < wv.heap.size := (Array.getElem?_eq_some_iff.1 hU).1
  obtain ⟨r0, r1, r2, z0, z1, z2⟩ := val3 hU
  conv => arg 4; whnf
  conv => arg 4; arg 1; whnf
  refine pt_last (by rfl) (fun K hK => ?_)
  go_wp2_with fail
  clear r0 r1 r2 z0 z1 z2
  have hz := val_store (x := .int .i64 4) (y := .int .i64 1) (z := .string ⟨#[]⟩) hU
  have qX := blk3JBad (x := .int .i64 4) (y := .int .i64 1) (z := .string ⟨#[]⟩) (show P ≠ U by have := hfarU.out; omega) hX
  have qY := blk3JBad (x := .int .i64 4) (y := .int .i64 1) (z := .string ⟨#[]⟩) (show P + 1 ≠ U by have := hfarU.out; omega) hY
  have qZ := blk3JBad (x := .int .i64 4) (y := .int .i64 1) (z := .string ⟨#[]⟩) (show P + 1 + 1 ≠ U by have := hfarU.out; omega) hZ
  have qV := blk3JBad (x := .int .i64 4) (y := .int .i64 1) (z := .string ⟨#[]⟩) (show V ≠ U by have := hfarUV.out; omega) hV
  have hbw := ((hbw.setCell (p := ⟨U, 0, none⟩) hbigU.out (.int .i64 4)).setCell (p := ⟨U, 1, none⟩) hbigU.out (.int .i64 1)).setCell (p := ⟨U, 2, none⟩) hbigU.out (.string ⟨#[]⟩)
  clear hX hY hZ hV hU hXl hYl hZl hVl hUl
  have hU := hz
  have hX := qX
  have hY := qY
  have hZ := qZ
  have hV := qV
  clear hz qX qY qZ qV
  generalize (((wv.setCell ⟨U, 0, none⟩ (.int .i64 4)).setCell ⟨U, 1, none⟩ (.int .i64 1)).setCell ⟨U, 2, none⟩ (.string ⟨#[]⟩)) = wv at *
  have hXl : P < wv.heap.size := (Array.getElem?_eq_some_iff.1 hX).1
  have hYl : P + 1 < wv.heap.size := (Array.getElem?_eq_some_iff.1 hY).1
  have hZl : P + 1 + 1 < wv.heap.size := (Array.getElem?_eq_some_iff.1 hZ).1
  have hVl : V < wv.heap.size := (Array.getElem?_eq_some_iff.1 hV).1
  have hUl : U < wv.heap.size := (Array.getElem?_eq_some_iff.1 hU).1
  refine pt_nil ?_
  obtain ⟨x0, x1, x2, _⟩ := val3 hX
  obtain ⟨y0, y1, y2, _⟩ := val3 hY
  obtain ⟨z0, z1, z2, _⟩ := val3 hZ
  obtain ⟨v0, v1, v2, _⟩ := val3 hV
  obtain ⟨u0, u1, u2, _⟩ := val3 hU
  clear hX hY hZ hV hU hXl hYl hZl hVl hUl
  go_wp2_with fail
  refine (awake8 _).mono ?_
  rintro en wn ⟨rfl, hbn⟩
  clear x0 x1 x2 y0 y1 y2 z0 z1 z2 v0 v1 v2 u0 u1 u2
  go_wp2
  go_ret
  exact ⟨rfl, hbw.trans (hbn.mono hbw.size)⟩
  conv => arg 4; whnf
  conv => arg 4; arg 1; whnf
  refine pt_eff (by rfl) (fun K hK => ?_)
  go_wp2_with fail
  refine hK _ _ ((Below.refl _ _).alloc (Nat.le_refl _) _) ?_
  clear hK K
  have hbn : Below wv.heap.size wv (wv.alloc (.cells #[.int .i64 0, .int .i64 0, .string ⟨#[]⟩] 31)) := (Below.refl _ _).alloc (Nat.le_refl _) _
  obtain ⟨U, hG⟩ : ∃ G, G = wv.heap.size := ⟨_, rfl⟩
  have hnew := heap_alloc_new wv (.cells #[.int .i64 0, .int .i64 0, .string ⟨#[]⟩] 31)
  have hfarU := Lib.hid (show P + 1 + 1 < U by omega)
  have hfarUV := Lib.hid (show V < U by omega)
  have hbigU := Lib.hid (show w.heap.size ≤ U by have := hbw.size; omega)
  rw [← hG] at hnew ⊢
  clear hG
  obtain ⟨wn, hwn⟩ : ∃ wn, wn = wv.alloc (.cells #[.int .i64 0, .int .i64 0, .string ⟨#[]⟩] 31) := ⟨_, rfl⟩
  rw [← hwn] at hbn hnew ⊢
  clear hwn
  have hbw := hbw.trans (hbn.mono hbw.size)
  have hX := (hbn.block _ hXl).trans hX
  have hY := (hbn.block _ hYl).trans hY
  have hZ := (hbn.block _ hZl).trans hZ
  have hV := (hbn.block _ hVl).trans hV
  have ha1 := ha1.below hbn
  have ha2 := ha2.below hbn
  clear hXl hYl hZl hVl hbn
  generalize wn = wv at *
  have hXl : P < wv.heap.size := (Array.getElem?_eq_some_iff.1 hX).1
  have hYl : P + 1 < wv.heap.size := (Array.getElem?_eq_some_iff.1 hY).1
  have hZl : P + 1 + 1 < wv.heap.size := (Array.getElem?_eq_some_iff.1 hZ).1
  have hVl : V < wv.heap.size := (Array.getElem?_eq_some_iff.1 hV).1
  have hU := hnew
  clear hnew
  have hUl : U < wv.heap.size := (Array.getElem?_eq_some_iff.1 hU).1
  conv => arg 4; whnf
  conv => arg 4; arg 1; whnf
  refine pt_eff (by rfl) (fun K hK => ?_)
  go_wp2_with fail
  refine hK _ _ ((Below.refl _ _).alloc (Nat.le_refl _) _) ?_
  clear hK K
  have hbn : Below wv.heap.size wv (wv.alloc (.cells #[.bool false, .int .i64 0, .slice (some ⟨e1, 0, none⟩) 1 1, .bool false, .int .i64 0, .slice (some ⟨e2, 0, none⟩) 1 1] 27)) := (Below.refl _ _).alloc (Nat.le_refl _) _
  obtain ⟨G, hG⟩ : ∃ G, G = wv.heap.size := ⟨_, rfl⟩
  have hGo := heap_alloc_new wv (.cells #[.bool false, .int .i64 0, .slice (some ⟨e1, 0, none⟩) 1 1, .bool false, .int .i64 0, .slice (some ⟨e2, 0, none⟩) 1 1] 27)
  rw [← hG] at hGo ⊢
  clear hG
  have hAA : AtA (wv.alloc (.cells #[.bool false, .int .i64 0, .slice (some ⟨e1, 0, none⟩) 1 1, .bool false, .int .i64 0, .slice (some ⟨e2, 0, none⟩) 1 1] 27)) (some ⟨G, 0, none⟩) [oneArg (some ⟨e1, 0, none⟩) (2, 0, ⟨#[116]⟩), oneArg (some ⟨e2, 0, none⟩) (ky, ny, sy)] := atA_lit (by simp) hGo rfl (fun a ha => by
    simp only [List.mem_cons, List.not_mem_nil, or_false] at ha
    rcases ha with rfl | rfl
    · exact ha1.below hbn
    · exact ha2.below hbn)
  clear hGo ha1 ha2
  obtain ⟨wn, hwn⟩ : ∃ wn, wn = wv.alloc (.cells #[.bool false, .int .i64 0, .slice (some ⟨e1, 0, none⟩) 1 1, .bool false, .int .i64 0, .slice (some ⟨e2, 0, none⟩) 1 1] 27) := ⟨_, rfl⟩
  rw [← hwn] at hbn hAA ⊢
  clear hwn
  have hbw := hbw.trans (hbn.mono hbw.size)
  have hX := (hbn.block _ hXl).trans hX
  have hY := (hbn.block _ hYl).trans hY
  have hZ := (hbn.block _ hZl).trans hZ
  have hV := (hbn.block _ hVl).trans hV
  have hU := (hbn.block _ hUl).trans hU
  clear hXl hYl hZl hVl hUl hbn
  generalize wn = wv at *
  have hXl : P < wv.heap.size := (Array.getElem?_eq_some_iff.1 hX).1
  have hYl : P + 1 < wv.heap.size := (Array.getElem?_eq_some_iff.1 hY).1
  have hZl : P + 1 + 1 < wv.heap.size := (Array.getElem?_eq_some_iff.1 hZ).1
  have hVl : V < wv.heap.size := (Array.getElem?_eq_some_iff.1 hV).1
  have hUl : U < wv.heap.size := (Array.getElem?_eq_some_iff.1 hU).1
  conv => arg 4; whnf
  conv => arg 4; arg 1; whnf
  refine pt_eff (by rfl) (fun K hK => ?_)
  go_wp2_with fail
  refine (C2.out _ _ _ _ _ hAA).mono ?_
  rintro en wn ⟨rfl, hbn⟩
  refine hK _ _ hbn ?_
  clear hK K
  clear hAA
  have hbw := hbw.trans (hbn.mono hbw.size)
  have hX := (hbn.block _ hXl).trans hX
  have hY := (hbn.block _ hYl).trans hY
  have hZ := (hbn.block _ hZl).trans hZ
  have hV := (hbn.block _ hVl).trans hV
  have hU := (hbn.block _ hUl).trans hU
  clear hXl hYl hZl hVl hUl hbn
  generalize wn = wv at *
  have hXl : P < wv.heap.size := (Array.getElem?_eq_some_iff.1 hX).1
  have hYl : P + 1 < wv.heap.size := (Array.getElem?_eq_some_iff.1 hY).1
  have hZl : P + 1 + 1 < wv.heap.size := (Array.getElem?_eq_some_iff.1 hZ).1
  have hVl : V < wv.heap.size := (Array.getElem?_eq_some_iff.1 hV).1
  have hUl : U < wv.heap.size := (Array.getElem?_eq_some_iff.1 hU).1
  obtain ⟨r0, r1, r2, z0, z1, z2⟩ := val3 hU
  conv => arg 4; whnf
  conv => arg 4; arg 1; whnf
  refine pt_last (by rfl) (fun K hK => ?_)
  go_wp2_with fail
  clear r0 r1 r2 z0 z1 z2
  have hz := val_store (x := .int .i64 4) (y := .int .i64 1) (z := .string ⟨#[]⟩) hU
  have qX := blk3JBad (x := .int .i64 4) (y := .int .i64 1) (z := .string ⟨#[]⟩) (show P ≠ U by have := hfarU.out; omega) hX
  have qY := blk3JBad (x := .int .i64 4) (y := .int .i64 1) (z := .string ⟨#[]⟩) (show P + 1 ≠ U by have := hfarU.out; omega) hY
  have qZ := blk3JBad (x := .int .i64 4) (y := .int .i64 1) (z := .string ⟨#[]⟩) (show P + 1 + 1 ≠ U by have := hfarU.out; omega) hZ
  have qV := blk3JBad (x := .int .i64 4) (y := .int .i64 1) (z := .string ⟨#[]⟩) (show V ≠ U by have := hfarUV.out; omega) hV
  have hbw := ((hbw.setCell (p := ⟨U, 0, none⟩) hbigU.out (.int .i64 4)).setCell (p := ⟨U, 1, none⟩) hbigU.out (.int .i64 1)).setCell (p := ⟨U, 2, none⟩) hbigU.out (.string ⟨#[]⟩)
  clear hX hY hZ hV hU hXl hYl hZl hVl hUl
  have hU := hz
  have hX := qX
  have hY := qY
  have hZ := qZ
  have hV := qV
  clear hz qX qY qZ qV
  generalize (((wv.setCell ⟨U, 0, none⟩ (.int .i64 4)).setCell ⟨U, 1, none⟩ (.int .i64 1)).setCell ⟨U, 2, none⟩ (.string ⟨#[]⟩)) = wv at *
  have hXl : P < wv.heap.size := (Array.getElem?_eq_some_iff.1 hX).1
  have hYl : P + 1 < wv.heap.size := (Array.getElem?_eq_some_iff.1 hY).1
  have hZl : P + 1 + 1 < wv.heap.size := (Array.getElem?_eq_some_iff.1 hZ).1
  have hVl : V < wv.heap.size := (Array.getElem?_eq_some_iff.1 hV).1
  have hUl : U < wv.heap.size := (Array.getElem?_eq_some_iff.1 hU).1
  refine pt_nil ?_
  obtain ⟨x0, x1, x2, _⟩ := val3 hX
  obtain ⟨y0, y1, y2, _⟩ := val3 hY
  obtain ⟨z0, z1, z2, _⟩ := val3 hZ
  obtain ⟨v0, v1, v2, _⟩ := val3 hV
  obtain ⟨u0, u1, u2, _⟩ := val3 hU
  clear hX hY hZ hV hU hXl hYl hZl hVl hUl
  go_wp2_with fail
  refine (awake8 _).mono ?_
  rintro en wn ⟨rfl, hbn⟩
  clear x0 x1 x2 y0 y1 y2 z0 z1 z2 v0 v1 v2 u0 u1 u2
  go_wp2
  go_ret
  exact ⟨rfl, hbw.trans (hbn.mono hbw.size)⟩
  conv => arg 4; whnf
  conv => arg 4; arg 1; whnf
  refine pt_eff (by rfl) (fun K hK => ?_)
  go_wp2_with fail
  refine hK _ _ ((Below.refl _ _).alloc (Nat.le_refl _) _) ?_
  clear hK K
  have hbn : Below wv.heap.size wv (wv.alloc (.cells #[.int .i64 0, .int .i64 0, .string ⟨#[]⟩] 31)) := (Below.refl _ _).alloc (Nat.le_refl _) _
  obtain ⟨U, hG⟩ : ∃ G, G = wv.heap.size := ⟨_, rfl⟩
  have hnew := heap_alloc_new wv (.cells #[.int .i64 0, .int .i64 0, .string ⟨#[]⟩] 31)
  have hfarU := Lib.hid (show P + 1 + 1 < U by omega)
  have hfarUV := Lib.hid (show V < U by omega)
  have hbigU := Lib.hid (show w.heap.size ≤ U by have := hbw.size; omega)
  rw [← hG] at hnew ⊢
  clear hG
  obtain ⟨wn, hwn⟩ : ∃ wn, wn = wv.alloc (.cells #[.int .i64 0, .int .i64 0, .string ⟨#[]⟩] 31) := ⟨_, rfl⟩
  rw [← hwn] at hbn hnew ⊢
  clear hwn
  have hbw := hbw.trans (hbn.mono hbw.size)
  have hX := (hbn.block _ hXl).trans hX
  have hY := (hbn.block _ hYl).trans hY
  have hZ := (hbn.block _ hZl).trans hZ
  have hV := (hbn.block _ hVl).trans hV
  have ha1 := ha1.below hbn
  clear hXl hYl hZl hVl hbn
  generalize wn = wv at *
  have hXl : P < wv.heap.size := (Array.getElem?_eq_some_iff.1 hX).1
  have hYl : P + 1 < wv.heap.size := (Array.getElem?_eq_some_iff.1 hY).1
  have hZl : P + 1 + 1 < wv.heap.size := (Array.getElem?_eq_some_iff.1 hZ).1
  have hVl : V < wv.heap.size := (Array.getElem?_eq_some_iff.1 hV).1
  have hU := hnew
  clear hnew
  have hUl : U < wv.heap.size := (Array.getElem?_eq_some_iff.1 hU).1
  conv => arg 4; whnf
  conv => arg 4; arg 1; whnf
  refine pt_eff (by rfl) (fun K hK => ?_)
  go_wp2_with fail
  refine (lone_any _ ky ny sy).mono ?_
  rintro en wn ⟨e2, rfl, hbn, hnew⟩
  refine hK _ _ hbn ?_
  clear hK K
  have hbw := hbw.trans (hbn.mono hbw.size)
  have hX := (hbn.block _ hXl).trans hX
  have hY := (hbn.block _ hYl).trans hY
  have hZ := (hbn.block _ hZl).trans hZ
  have hV := (hbn.block _ hVl).trans hV
  have hU := (hbn.block _ hUl).trans hU
  have ha1 := ha1.below hbn
  clear hXl hYl hZl hVl hUl hbn
  generalize wn = wv at *
  have hXl : P < wv.heap.size := (Array.getElem?_eq_some_iff.1 hX).1
  have hYl : P + 1 < wv.heap.size := (Array.getElem?_eq_some_iff.1 hY).1
  have hZl : P + 1 + 1 < wv.heap.size := (Array.getElem?_eq_some_iff.1 hZ).1
  have hVl : V < wv.heap.size := (Array.getElem?_eq_some_iff.1 hV).1
  have hUl : U < wv.heap.size := (Array.getElem?_eq_some_iff.1 hU).1
  have ha2 := hnew
  clear hnew
  conv => arg 4; whnf
  conv => arg 4; arg 1; whnf
  refine pt_eff (by rfl) (fun K hK => ?_)
  go_wp2_with fail
  refine hK _ _ ((Below.refl _ _).alloc (Nat.le_refl _) _) ?_
  clear hK K
  have hbn : Below wv.heap.size wv (wv.alloc (.cells #[.bool false, .int .i64 0, .slice (some ⟨e1, 0, none⟩) 1 1, .bool false, .int .i64 0, .slice (some ⟨e2, 0, none⟩) 1 1] 27)) := (Below.refl _ _).alloc (Nat.le_refl _) _
  obtain ⟨G, hG⟩ : ∃ G, G = wv.heap.size := ⟨_, rfl⟩
  have hGo := heap_alloc_new wv (.cells #[.bool false, .int .i64 0, .slice (some ⟨e1, 0, none⟩) 1 1, .bool false, .int .i64 0, .slice (some ⟨e2, 0, none⟩) 1 1] 27)
  rw [← hG] at hGo ⊢
  clear hG
  have hAA : AtA (wv.alloc (.cells #[.bool false, .int .i64 0, .slice (some ⟨e1, 0, none⟩) 1 1, .bool false, .int .i64 0, .slice (some ⟨e2, 0, none⟩) 1 1] 27)) (some ⟨G, 0, none⟩) [oneArg (some ⟨e1, 0, none⟩) (2, 0, ⟨#[116]⟩), oneArg (some ⟨e2, 0, none⟩) (ky, ny, sy)] := atA_lit (by simp) hGo rfl (fun a ha => by
    simp only [List.mem_cons, List.not_mem_nil, or_false] at ha
    rcases ha with rfl | rfl
    · exact ha1.below hbn
    · exact ha2.below hbn)
  clear hGo ha1 ha2
  obtain ⟨wn, hwn⟩ : ∃ wn, wn = wv.alloc (.cells #[.bool false, .int .i64 0, .slice (some ⟨e1, 0, none⟩) 1 1, .bool false, .int .i64 0, .slice (some ⟨e2, 0, none⟩) 1 1] 27) := ⟨_, rfl⟩
  rw [← hwn] at hbn hAA ⊢
  clear hwn
  have hbw := hbw.trans (hbn.mono hbw.size)
  have hX := (hbn.block _ hXl).trans hX
  have hY := (hbn.block _ hYl).trans hY
  have hZ := (hbn.block _ hZl).trans hZ
  have hV := (hbn.block _ hVl).trans hV
  have hU := (hbn.block _ hUl).trans hU
  clear hXl hYl hZl hVl hUl hbn
  generalize wn = wv at *
  have hXl : P < wv.heap.size := (Array.getElem?_eq_some_iff.1 hX).1
  have hYl : P + 1 < wv.heap.size := (Array.getElem?_eq_some_iff.1 hY).1
  have hZl : P + 1 + 1 < wv.heap.size := (Array.getElem?_eq_some_iff.1 hZ).1
  have hVl : V < wv.heap.size := (Array.getElem?_eq_some_iff.1 hV).1
  have hUl : U < wv.heap.size := (Array.getElem?_eq_some_iff.1 hU).1
  conv => arg 4; whnf
  conv => arg 4; arg 1; whnf
  refine pt_eff (by rfl) (fun K hK => ?_)
  go_wp2_with fail
  refine (C2.out _ _ _ _ _ hAA).mono ?_
  rintro en wn ⟨rfl, hbn⟩
  refine hK _ _ hbn ?_
  clear hK K
  clear hAA
  have hbw := hbw.trans (hbn.mono hbw.size)
  have hX := (hbn.block _ hXl).trans hX
  have hY := (hbn.block _ hYl).trans hY
  have hZ := (hbn.block _ hZl).trans hZ
  have hV := (hbn.block _ hVl).trans hV
  have hU := (hbn.block _ hUl).trans hU
  clear hXl hYl hZl hVl hUl hbn
  generalize wn = wv at *
  have hXl : P < wv.heap.size := (Array.getElem?_eq_some_iff.1 hX).1
  have hYl : P + 1 < wv.heap.size := (Array.getElem?_eq_some_iff.1 hY).1
  have hZl : P + 1 + 1 < wv.heap.size := (Array.getElem?_eq_some_iff.1 hZ).1
  have hVl : V < wv.heap.size := (Array.getElem?_eq_some_iff.1 hV).1
  have hUl : U < wv.heap.size := (Array.getElem?_eq_some_iff.1 hU).1
  obtain ⟨r0, r1, r2, z0, z1, z2⟩ := val3 hU
  conv => arg 4; whnf
  conv => arg 4; arg 1; whnf
  refine pt_last (by rfl) (fun K hK => ?_)
  go_wp2_with fail
  clear r0 r1 r2 z0 z1 z2
  have hz := val_store (x := .int .i64 4) (y := .int .i64 1) (z := .string ⟨#[]⟩) hU
  have qX := blk3JBad (x := .int .i64 4) (y := .int .i64 1) (z := .string ⟨#[]⟩) (show P ≠ U by have := hfarU.out; omega) hX
  have qY := blk3JBad (x := .int .i64 4) (y := .int .i64 1) (z := .string ⟨#[]⟩) (show P + 1 ≠ U by have := hfarU.out; omega) hY
  have qZ := blk3JBad (x := .int .i64 4) (y := .int .i64 1) (z := .string ⟨#[]⟩) (show P + 1 + 1 ≠ U by have := hfarU.out; omega) hZ
  have qV := blk3JBad (x := .int .i64 4) (y := .int .i64 1) (z := .string ⟨#[]⟩) (show V ≠ U by have := hfarUV.out; omega) hV
  have hbw := ((hbw.setCell (p := ⟨U, 0, none⟩) hbigU.out (.int .i64 4)).setCell (p := ⟨U, 1, none⟩) hbigU.out (.int .i64 1)).setCell (p := ⟨U, 2, none⟩) hbigU.out (.string ⟨#[]⟩)
  clear hX hY hZ hV hU hXl hYl hZl hVl hUl
  have hU := hz
  have hX := qX
  have hY := qY
  have hZ := qZ
  have hV := qV
  clear hz qX qY qZ qV
  generalize (((wv.setCell ⟨U, 0, none⟩ (.int .i64 4)).setCell ⟨U, 1, none⟩ (.int .i64 1)).setCell ⟨U, 2, none⟩ (.string ⟨#[]⟩)) = wv at *
  have hXl : P < wv.heap.size := (Array.getElem?_eq_some_iff.1 hX).1
  have hYl : P + 1 < wv.heap.size := (Array.getElem?_eq_some_iff.1 hY).1
  have hZl : P + 1 + 1 < wv.heap.size := (Array.getElem?_eq_some_iff.1 hZ).1
  have hVl : V < wv.heap.size := (Array.getElem?_eq_some_iff.1 hV).1
  have hUl : U < wv.heap.size := (Array.getElem?_eq_some_iff.1 hU).1
  refine pt_nil ?_
  obtain ⟨x0, x1, x2, _⟩ := val3 hX
  obtain ⟨y0, y1, y2, _⟩ := val3 hY
  obtain ⟨z0, z1, z2, _⟩ := val3 hZ
  obtain ⟨v0, v1, v2, _⟩ := val3 hV
  obtain ⟨u0, u1, u2, _⟩ := val3 hU
  clear hX hY hZ hV hU hXl hYl hZl hVl hUl
  go_wp2_with fail
  refine (awake8 _).mono ?_
  rintro en wn ⟨rfl, hbn⟩
  clear x0 x1 x2 y0 y1 y2 z0 z1 z2 v0 v1 v2 u0 u1 u2
  go_wp2
  go_ret
  exact ⟨rfl, hbw.trans (hbn.mono hbw.size)⟩
  conv => arg 4; whnf
  conv => arg 4; arg 1; whnf
  refine pt_eff (by rfl) (fun K hK => ?_)
  go_wp2_with fail
  refine hK _ _ ((Below.refl _ _).alloc (Nat.le_refl _) _) ?_
  clear hK K
  have hbn : Below wv.heap.size wv (wv.alloc (.cells #[.int .i64 0, .int .i64 0, .string ⟨#[]⟩] 31)) := (Below.refl _ _).alloc (Nat.le_refl _) _
  obtain ⟨U, hG⟩ : ∃ G, G = wv.heap.size := ⟨_, rfl⟩
  have hnew := heap_alloc_new wv (.cells #[.int .i64 0, .int .i64 0, .string ⟨#[]⟩] 31)
  have hfarU := Lib.hid (show P + 1 + 1 < U by omega)
  have hfarUV := Lib.hid (show V < U by omega)
  have hbigU := Lib.hid (show w.heap.size ≤ U by have := hbw.size; omega)
  rw [← hG] at hnew ⊢
  clear hG
  obtain ⟨wn, hwn⟩ : ∃ wn, wn = wv.alloc (.cells #[.int .i64 0, .int .i64 0, .string ⟨#[]⟩] 31) := ⟨_, rfl⟩
  rw [← hwn] at hbn hnew ⊢
  clear hwn
  have hbw := hbw.trans (hbn.mono hbw.size)
  have hX := (hbn.block _ hXl).trans hX
  have hY := (hbn.block _ hYl).trans hY
  have hZ := (hbn.block _ hZl).trans hZ
  have hV := (hbn.block _ hVl).trans hV
  clear hXl hYl hZl hVl hbn
  generalize wn = wv at *
  have hXl : P < wv.heap.size := (Array.getElem?_eq_some_iff.1 hX).1
  have hYl : P + 1 < wv.heap.size := (Array.getElem?_eq_some_iff.1 hY).1
  have hZl : P + 1 + 1 < wv.heap.size := (Array.getElem?_eq_some_iff.1 hZ).1
  have hVl : V < wv.heap.size := (Array.getElem?_eq_some_iff.1 hV).1
  have hU := hnew
  clear hnew
  have hUl : U < wv.heap.size := (Array.getElem?_eq_some_iff.1 hU).1
  conv => arg 4; whnf
  conv => arg 4; arg 1; whnf
  refine pt_eff (by rfl) (fun K hK => ?_)
  go_wp2_with fail
  refine (lone_any _ 2 0 ⟨#[116]⟩).mono ?_
  rintro en wn ⟨e1, rfl, hbn, hnew⟩
  refine hK _ _ hbn ?_
  clear hK K
  have hbw := hbw.trans (hbn.mono hbw.size)
  have hX := (hbn.block _ hXl).trans hX
  have hY := (hbn.block _ hYl).trans hY
  have hZ := (hbn.block _ hZl).trans hZ
  have hV := (hbn.block _ hVl).trans hV
  have hU := (hbn.block _ hUl).trans hU
  clear hXl hYl hZl hVl hUl hbn
  generalize wn = wv at *
  have hXl : P < wv.heap.size := (Array.getElem?_eq_some_iff.1 hX).1
  have hYl : P + 1 < wv.heap.size := (Array.getElem?_eq_some_iff.1 hY).1
  have hZl : P + 1 + 1 < wv.heap.size := (Array.getElem?_eq_some_iff.1 hZ).1
  have hVl : V < wv.heap.size := (Array.getElem?_eq_some_iff.1 hV).1
  have hUl : U < wv.heap.size := (Array.getElem?_eq_some_iff.1 hU).1
  have ha1 := hnew
  clear hnew
  conv => arg 4; whnf
  conv => arg 4; arg 1; whnf
  refine pt_eff (by rfl) (fun K hK => ?_)
  go_wp2_with fail
  refine (lone_any _ ky ny sy).mono ?_
  rintro en wn ⟨e2, rfl, hbn, hnew⟩
  refine hK _ _ hbn ?_
  clear hK K
  have hbw := hbw.trans (hbn.mono hbw.size)
  have hX := (hbn.block _ hXl).trans hX
  have hY := (hbn.block _ hYl).trans hY
  have hZ := (hbn.block _ hZl).trans hZ
  have hV := (hbn.block _ hVl).trans hV
  have hU := (hbn.block _ hUl).trans hU
  have ha1 := ha1.below hbn
  clear hXl hYl hZl hVl hUl hbn
  generalize wn = wv at *
  have hXl : P < wv.heap.size := (Array.getElem?_eq_some_iff.1 hX).1
  have hYl : P + 1 < wv.heap.size := (Array.getElem?_eq_some_iff.1 hY).1
  have hZl : P + 1 + 1 < wv.heap.size := (Array.getElem?_eq_some_iff.1 hZ).1
  have hVl : V < wv.heap.size := (Array.getElem?_eq_some_iff.1 hV).1
  have hUl : U < wv.heap.size := (Array.getElem?_eq_some_iff.1 hU).1
  have ha2 := hnew
  clear hnew
  conv => arg 4; whnf
  conv => arg 4; arg 1; whnf
  refine pt_eff (by rfl) (fun K hK => ?_)
  go_wp2_with fail
  refine hK _ _ ((Below.refl _ _).alloc (Nat.le_refl _) _) ?_
  clear hK K
  have hbn : Below wv.heap.size wv (wv.alloc (.cells #[.bool false, .int .i64 0, .slice (some ⟨e1, 0, none⟩) 1 1, .bool false, .int .i64 0, .slice (some ⟨e2, 0, none⟩) 1 1] 27)) := (Below.refl _ _).alloc (Nat.le_refl _) _
  obtain ⟨G, hG⟩ : ∃ G, G = wv.heap.size := ⟨_, rfl⟩
  have hGo := heap_alloc_new wv (.cells #[.bool false, .int .i64 0, .slice (some ⟨e1, 0, none⟩) 1 1, .bool false, .int .i64 0, .slice (some ⟨e2, 0, none⟩) 1 1] 27)
  rw [← hG] at hGo ⊢
  clear hG
  have hAA : AtA (wv.alloc (.cells #[.bool false, .int .i64 0, .slice (some ⟨e1, 0, none⟩) 1 1, .bool false, .int .i64 0, .slice (some ⟨e2, 0, none⟩) 1 1] 27)) (some ⟨G, 0, none⟩) [oneArg (some ⟨e1, 0, none⟩) (2, 0, ⟨#[116]⟩), oneArg (some ⟨e2, 0, none⟩) (ky, ny, sy)] := atA_lit (by simp) hGo rfl (fun a ha => by
    simp only [List.mem_cons, List.not_mem_nil, or_false] at ha
    rcases ha with rfl | rfl
    · exact ha1.below hbn
    · exact ha2.below hbn)
  clear hGo ha1 ha2
  obtain ⟨wn, hwn⟩ : ∃ wn, wn = wv.alloc (.cells #[.bool false, .int .i64 0, .slice (some ⟨e1, 0, none⟩) 1 1, .bool false, .int .i64 0, .slice (some ⟨e2, 0, none⟩) 1 1] 27) := ⟨_, rfl⟩
  rw [← hwn] at hbn hAA ⊢
  clear hwn
  have hbw := hbw.trans (hbn.mono hbw.size)
  have hX := (hbn.block _ hXl).trans hX
  have hY := (hbn.block _ hYl).trans hY
  have hZ := (hbn.block _ hZl).trans hZ
  have hV := (hbn.block _ hVl).trans hV
  have hU := (hbn.block _ hUl).trans hU
  clear hXl hYl hZl hVl hUl hbn
  generalize wn = wv at *
  have hXl : P < wv.heap.size := (Array.getElem?_eq_some_iff.1 hX).1
  have hYl : P + 1 < wv.heap.size := (Array.getElem?_eq_some_iff.1 hY).1
  have hZl : P + 1 + 1 < wv.heap.size := (Array.getElem?_eq_some_iff.1 hZ).1
  have hVl : V < wv.heap.size := (Array.getElem?_eq_some_iff.1 hV).1
  have hUl : U < wv.heap.size := (Array.getElem?_eq_some_iff.1 hU).1
  conv => arg 4; whnf
  conv => arg 4; arg 1; whnf
  refine pt_eff (by rfl) (fun K hK => ?_)
  go_wp2_with fail
  refine (C2.out _ _ _ _ _ hAA).mono ?_
  rintro en wn ⟨rfl, hbn⟩
  refine hK _ _ hbn ?_
  clear hK K
  clear hAA
  have hbw := hbw.trans (hbn.mono hbw.size)
  have hX := (hbn.block _ hXl).trans hX
  have hY := (hbn.block _ hYl).trans hY
  have hZ := (hbn.block _ hZl).trans hZ
  have hV := (hbn.block _ hVl).trans hV
  have hU := (hbn.block _ hUl).trans hU
  clear hXl hYl hZl hVl hUl hbn
  generalize wn = wv at *
  have hXl : P < wv.heap.size := (Array.getElem?_eq_some_iff.1 hX).1
  have hYl : P + 1 < wv.heap.size := (Array.getElem?_eq_some_iff.1 hY).1
  have hZl : P + 1 + 1 < wv.heap.size := (Array.getElem?_eq_some_iff.1 hZ).1
  have hVl : V < wv.heap.size := (Array.getElem?_eq_some_iff.1 hV).1
  have hUl : U < wv.heap.size := (Array.getElem?_eq_some_iff.1 hU).1
  obtain ⟨r0, r1, r2, z0, z1, z2⟩ := val3 hU
  conv => arg 4; whnf
  conv => arg 4; arg 1; whnf
  refine pt_last (by rfl) (fun K hK => ?_)
  go_wp2_with fail
  clear r0 r1 r2 z0 z1 z2
  have hz := val_store (x := .int .i64 4) (y := .int .i64 1) (z := .string ⟨#[]⟩) hU
  have qX := blk3JBad (x := .int .i64 4) (y := .int .i64 1) (z := .string ⟨#[]⟩) (show P ≠ U by have := hfarU.out; omega) hX
  have qY := blk3JBad (x := .int .i64 4) (y := .int .i64 1) (z := .string ⟨#[]⟩) (show P + 1 ≠ U by have := hfarU.out; omega) hY
  have qZ := blk3JBad (x := .int .i64 4) (y := .int .i64 1) (z := .string ⟨#[]⟩) (show P + 1 + 1 ≠ U by have := hfarU.out; omega) hZ
  have qV := blk3JBad (x := .int .i64 4) (y := .int .i64 1) (z := .string ⟨#[]⟩) (show V ≠ U by have := hfarUV.out; omega) hV
  have hbw := ((hbw.setCell (p := ⟨U, 0, none⟩) hbigU.out (.int .i64 4)).setCell (p := ⟨U, 1, none⟩) hbigU.out (.int .i64 1)).setCell (p := ⟨U, 2, none⟩) hbigU.out (.string ⟨#[]⟩)
  clear hX hY hZ hV hU hXl hYl hZl hVl hUl
  have hU := hz
  have hX := qX
  have hY := qY
  have hZ := qZ
  have hV := qV
  clear hz qX qY qZ qV
  generalize (((wv.setCell ⟨U, 0, none⟩ (.int .i64 4)).setCell ⟨U, 1, none⟩ (.int .i64 1)).setCell ⟨U, 2, none⟩ (.string ⟨#[]⟩)) = wv at *
  have hXl : P < wv.heap.size := (Array.getElem?_eq_some_iff.1 hX).1
  have hYl : P + 1 < wv.heap.size := (Array.getElem?_eq_some_iff.1 hY).1
  have hZl : P + 1 + 1 < wv.heap.size := (Array.getElem?_eq_some_iff.1 hZ).1
  have hVl : V < wv.heap.size := (Array.getElem?_eq_some_iff.1 hV).1
  have hUl : U < wv.heap.size := (Array.getElem?_eq_some_iff.1 hU).1
  refine pt_nil ?_
  obtain ⟨x0, x1, x2, _⟩ := val3 hX
  obtain ⟨y0, y1, y2, _⟩ := val3 hY
  obtain ⟨z0, z1, z2, _⟩ := val3 hZ
  obtain ⟨v0, v1, v2, _⟩ := val3 hV
  obtain ⟨u0, u1, u2, _⟩ := val3 hU
  clear hX hY hZ hV hU hXl hYl hZl hVl hUl
  go_wp2_with fail
  refine (awake8 _).mono ?_
  rintro en wn ⟨rfl, hbn⟩
  clear x0 x1 x2 y0 y1 y2 z0 z1 z2 v0 v1 v2 u0 u1 u2
  go_wp2
  go_ret
  exact ⟨rfl, hbw.trans (hbn.mono hbw.size)⟩
  conv => arg 4; whnf
  conv => arg 4; arg 1; whnf
  refine pt_eff (by rfl) (fun K hK => ?_)
  go_wp2_with fail
  refine hK _ _ ((Below.refl _ _).alloc (Nat.le_refl _) _) ?_
  clear hK K
  have hbn : Below wv.heap.size wv (wv.alloc (.cells #[.int .i64 0, .int .i64 0, .string ⟨#[]⟩] 31)) := (Below.refl _ _).alloc (Nat.le_refl _) _
  obtain ⟨V, hG⟩ : ∃ G, G = wv.heap.size := ⟨_, rfl⟩
  have hnew := heap_alloc_new wv (.cells #[.int .i64 0, .int .i64 0, .string ⟨#[]⟩] 31)
  have hfarV := Lib.hid (show P + 1 + 1 < V by omega)
  have hbigV := Lib.hid (show w.heap.size ≤ V by have := hbw.size; omega)
  rw [← hG] at hnew ⊢
  clear hG
  obtain ⟨wn, hwn⟩ : ∃ wn, wn = wv.alloc (.cells #[.int .i64 0, .int .i64 0, .string ⟨#[]⟩] 31) := ⟨_, rfl⟩
  rw [← hwn] at hbn hnew ⊢
  clear hwn
  have hbw := hbw.trans (hbn.mono hbw.size)
  have hX := (hbn.block _ hXl).trans hX
  have hY := (hbn.block _ hYl).trans hY
  have hZ := (hbn.block _ hZl).trans hZ
  have hAA := hAA.below hbn
  clear hXl hYl hZl hbn
  generalize wn = wv at *
  have hXl : P < wv.heap.size := (Array.getElem?_eq_some_iff.1 hX).1
  have hYl : P + 1 < wv.heap.size := (Array.getElem?_eq_some_iff.1 hY).1
  have hZl : P + 1 + 1 < wv.heap.size := (Array.getElem?_eq_some_iff.1 hZ).1
  have hV := hnew
  clear hnew
  have hVl : V < wv.heap.size := (Array.getElem?_eq_some_iff.1 hV).1
  conv => arg 4; whnf
  conv => arg 4; arg 1; whnf
  refine pt_eff (by rfl) (fun K hK => ?_)
  go_wp2_with fail
  refine (C3.out _ _ _ _ _ _ _ hAA).mono ?_
  rintro en wn ⟨rfl, hbn⟩
  refine hK _ _ hbn ?_
  clear hK K
  clear hAA
  have hbw := hbw.trans (hbn.mono hbw.size)
  have hX := (hbn.block _ hXl).trans hX
  have hY := (hbn.block _ hYl).trans hY
  have hZ := (hbn.block _ hZl).trans hZ
  have hV := (hbn.block _ hVl).trans hV
  clear hXl hYl hZl hVl hbn
  generalize wn = wv at *
  have hXl : P < wv.heap.size := (Array.getElem?_eq_some_iff.1 hX).1
  have hYl : P + 1 < wv.heap.size := (Array.getElem?_eq_some_iff.1 hY).1
  have hZl : P + 1 + 1 < wv.heap.size := (Array.getElem?_eq_some_iff.1 hZ).1
  have hVl : V < wv.heap.size := (Array.getElem?_eq_some_iff.1 hV).1
  obtain ⟨r0, r1, r2, z0, z1, z2⟩ := val3 hV
  conv => arg 4; whnf
  conv => arg 4; arg 1; whnf
  refine pt_last (by rfl) (fun K hK => ?_)
  go_wp2_with fail
  clear r0 r1 r2 z0 z1 z2
  have hz := val_store (x := .int .i64 4) (y := .int .i64 1) (z := .string ⟨#[]⟩) hV
  have qX := blk3JBad (x := .int .i64 4) (y := .int .i64 1) (z := .string ⟨#[]⟩) (show P ≠ V by have := hfarV.out; omega) hX
  have qY := blk3JBad (x := .int .i64 4) (y := .int .i64 1) (z := .string ⟨#[]⟩) (show P + 1 ≠ V by have := hfarV.out; omega) hY
  have qZ := blk3JBad (x := .int .i64 4) (y := .int .i64 1) (z := .string ⟨#[]⟩) (show P + 1 + 1 ≠ V by have := hfarV.out; omega) hZ
  have hbw := ((hbw.setCell (p := ⟨V, 0, none⟩) hbigV.out (.int .i64 4)).setCell (p := ⟨V, 1, none⟩) hbigV.out (.int .i64 1)).setCell (p := ⟨V, 2, none⟩) hbigV.out (.string ⟨#[]⟩)
  clear hX hY hZ hV hXl hYl hZl hVl
  have hV := hz
  have hX := qX
  have hY := qY
  have hZ := qZ
  clear hz qX qY qZ
  generalize (((wv.setCell ⟨V, 0, none⟩ (.int .i64 4)).setCell ⟨V, 1, none⟩ (.int .i64 1)).setCell ⟨V, 2, none⟩ (.string ⟨#[]⟩)) = wv at *
  have hXl : P < wv.heap.size := (Array.getElem?_eq_some_iff.1 hX).1
  have hYl : P + 1 < wv.heap.size := (Array.getElem?_eq_some_iff.1 hY).1
  have hZl : P + 1 + 1 < wv.heap.size := (Array.getElem?_eq_some_iff.1 hZ).1
  have hVl : V < wv.heap.size := (Array.getElem?_eq_some_iff.1 hV).1
  refine pt_nil ?_
  go_wp2_with fail
  refine wp_region_tree [7] (.free 0 (.free 2 (.alt 1 (.alt 3 (.alt 4 (.alt 5 (.eff 6 (.last 7 (.nil))) 6 (.eff 5 (.last 7 (.nil)))) 6 (.eff 4 (.eff 5 (.last 7 (.nil))))) 6 (.eff 3 (.eff 4 (.eff 5 (.last 7 (.nil)))))) 6 (.eff 1 (.eff 3 (.eff 4 (.eff 5 (.last 7 (.nil))))))))) (by kernel_rfl) (by kernel_rfl) (fun _ _ d _ _ h => by cases d <;> exact h) ?_
  have hbw := hbw.drew
  have hX : wv.drew.heap[P]? = _ := hX
  have hY : wv.drew.heap[P + 1]? = _ := hY
  have hZ : wv.drew.heap[P + 1 + 1]? = _ := hZ
  have hV : wv.drew.heap[V]? = _ := hV
  clear hXl hYl hZl hVl
  generalize wv.drew = wv at *
  have hXl : P < wv.heap.size := (Array.getElem?_eq_some_iff.1 hX).1
  have hYl : P + 1 < wv.heap.size := (Array.getElem?_eq_some_iff.1 hY).1
  have hZl : P + 1 + 1 < wv.heap.size := (Array.getElem?_eq_some_iff.1 hZ).1
  have hVl : V < wv.heap.size := (Array.getElem?_eq_some_iff.1 hV).1
  conv => arg 4; whnf
  conv => arg 4; arg 1; whnf
  refine pt_loadB (k := P) (fun W h => load_val _ W _ _ _ (h.trans hX)) hXl (by rfl) rfl rfl ?_
  simp only [Act.put, List.setIfInBounds_toArray, List.set_cons_zero, List.set_cons_succ]
  conv => arg 4; whnf
  conv => arg 4; arg 1; whnf
  refine pt_loadB (k := P + 1) (fun W h => load_val _ W _ _ _ (h.trans hY)) hYl (by rfl) rfl rfl ?_
  simp only [Act.put, List.setIfInBounds_toArray, List.set_cons_zero, List.set_cons_succ]
  conv => arg 4; whnf
  refine pt_alt ?_ ?_
  conv => arg 4; whnf
  conv => arg 4; arg 1; whnf
  refine pt_eff (by rfl) (fun K hK => ?_)
  go_wp2_with fail
  refine (lone_any _ 2 0 ⟨#[116]⟩).mono ?_
  rintro en wn ⟨e1, rfl, hbn, hnew⟩
  refine hK _ _ hbn ?_
  clear hK K
  have hbw := hbw.trans (hbn.mono hbw.size)
  have hX := (hbn.block _ hXl).trans hX
  have hY := (hbn.block _ hYl).trans hY
  have hZ := (hbn.block _ hZl).trans hZ
  have hV := (hbn.block _ hVl).trans hV
  clear hXl hYl hZl hVl hbn
  generalize wn = wv at *
  have hXl : P < wv.heap.size := (Array.getElem?_eq_some_iff.1 hX).1
  have hYl : P + 1 < wv.heap.size := (Array.getElem?_eq_some_iff.1 hY).1
  have hZl : P + 1 + 1 < wv.heap.size := (Array.getElem?_eq_some_iff.1 hZ).1
  have hVl : V < wv.heap.size := (Array.getElem?_eq_some_iff.1 hV).1
  have ha1 := hnew
  clear hnew
  conv => arg 4; whnf
  refine pt_alt ?_ ?_
  conv => arg 4; whnf
  conv => arg 4; arg 1; whnf
  refine pt_eff (by rfl) (fun K hK => ?_)
  go_wp2_with fail
  refine (lone_any _ ky ny sy).mono ?_
  rintro en wn ⟨e2, rfl, hbn, hnew⟩
  refine hK _ _ hbn ?_
  clear hK K
  have hbw := hbw.trans (hbn.mono hbw.size)
  have hX := (hbn.block _ hXl).trans hX
  have hY := (hbn.block _ hYl).trans hY
  have hZ := (hbn.block _ hZl).trans hZ
  have hV := (hbn.block _ hVl).trans hV
  have ha1 := ha1.below hbn
  clear hXl hYl hZl hVl hbn
  generalize wn = wv at *
  have hXl : P < wv.heap.size := (Array.getElem?_eq_some_iff.1 hX).1
  have hYl : P + 1 < wv.heap.size := (Array.getElem?_eq_some_iff.1 hY).1
  have hZl : P + 1 + 1 < wv.heap.size := (Array.getElem?_eq_some_iff.1 hZ).1
  have hVl : V < wv.heap.size := (Array.getElem?_eq_some_iff.1 hV).1
  have ha2 := hnew
  clear hnew
  conv => arg 4; whnf
  refine pt_alt ?_ ?_
  conv => arg 4; whnf
  conv => arg 4; arg 1; whnf
  refine pt_eff (by rfl) (fun K hK => ?_)
  go_wp2_with fail
  refine hK _ _ ((Below.refl _ _).alloc (Nat.le_refl _) _) ?_
  clear hK K
  have hbn : Below wv.heap.size wv (wv.alloc (.cells #[.bool false, .int .i64 0, .slice (some ⟨e1, 0, none⟩) 1 1, .bool false, .int .i64 0, .slice (some ⟨e2, 0, none⟩) 1 1] 27)) := (Below.refl _ _).alloc (Nat.le_refl _) _
  obtain ⟨G, hG⟩ : ∃ G, G = wv.heap.size := ⟨_, rfl⟩
  have hGo := heap_alloc_new wv (.cells #[.bool false, .int .i64 0, .slice (some ⟨e1, 0, none⟩) 1 1, .bool false, .int .i64 0, .slice (some ⟨e2, 0, none⟩) 1 1] 27)
  rw [← hG] at hGo ⊢
  clear hG
  have hAA : AtA (wv.alloc (.cells #[.bool false, .int .i64 0, .slice (some ⟨e1, 0, none⟩) 1 1, .bool false, .int .i64 0, .slice (some ⟨e2, 0, none⟩) 1 1] 27)) (some ⟨G, 0, none⟩) [oneArg (some ⟨e1, 0, none⟩) (2, 0, ⟨#[116]⟩), oneArg (some ⟨e2, 0, none⟩) (ky, ny, sy)] := atA_lit (by simp) hGo rfl (fun a ha => by
    simp only [List.mem_cons, List.not_mem_nil, or_false] at ha
    rcases ha with rfl | rfl
    · exact ha1.below hbn
    · exact ha2.below hbn)
  clear hGo ha1 ha2
  obtain ⟨wn, hwn⟩ : ∃ wn, wn = wv.alloc (.cells #[.bool false, .int .i64 0, .slice (some ⟨e1, 0, none⟩) 1 1, .bool false, .int .i64 0, .slice (some ⟨e2, 0, none⟩) 1 1] 27) := ⟨_, rfl⟩
  rw [← hwn] at hbn hAA ⊢
  clear hwn
  have hbw := hbw.trans (hbn.mono hbw.size)
  have hX := (hbn.block _ hXl).trans hX
  have hY := (hbn.block _ hYl).trans hY
  have hZ := (hbn.block _ hZl).trans hZ
  have hV := (hbn.block _ hVl).trans hV
  clear hXl hYl hZl hVl hbn
  generalize wn = wv at *
  have hXl : P < wv.heap.size := (Array.getElem?_eq_some_iff.1 hX).1
  have hYl : P + 1 < wv.heap.size := (Array.getElem?_eq_some_iff.1 hY).1
  have hZl : P + 1 + 1 < wv.heap.size := (Array.getElem?_eq_some_iff.1 hZ).1
  have hVl : V < wv.heap.size := (Array.getElem?_eq_some_iff.1 hV).1
  conv => arg 4; whnf
  refine pt_alt ?_ ?_
  conv => arg 4; whnf
  conv => arg 4; arg 1; whnf
  refine pt_eff (by rfl) (fun K hK => ?_)
  go_wp2_with fail
  refine (C2.out _ _ _ _ _ hAA).mono ?_
  rintro en wn ⟨rfl, hbn⟩
  refine hK _ _ hbn ?_
  clear hK K
  clear hAA
  have hbw := hbw.trans (hbn.mono hbw.size)
  have hX := (hbn.block _ hXl).trans hX
  have hY := (hbn.block _ hYl).trans hY
  have hZ := (hbn.block _ hZl).trans hZ
  have hV := (hbn.block _ hVl).trans hV
  clear hXl hYl hZl hVl hbn
  generalize wn = wv at *
  have hXl : P < wv.heap.size := (Array.getElem?_eq_some_iff.1 hX).1
  have hYl : P + 1 < wv.heap.size := (Array.getElem?_eq_some_iff.1 hY).1
  have hZl : P + 1 + 1 < wv.heap.size := (Array.getElem?_eq_some_iff.1 hZ).1
  have hVl : V < wv.heap.size := (Array.getElem?_eq_some_iff.1 hV).1
  conv => arg 4; whnf
  conv => arg 4; arg 1; whnf
  refine pt_eff (by rfl) (fun K hK => ?_)
  go_wp2_with fail
  refine hK _ _ ((Below.refl _ _).alloc (Nat.le_refl _) _) ?_
  clear hK K
  have hbn : Below wv.heap.size wv (wv.alloc (.cells #[.int .i64 0, .int .i64 0, .string ⟨#[]⟩] 31)) := (Below.refl _ _).alloc (Nat.le_refl _) _
  obtain ⟨U, hG⟩ : ∃ G, G = wv.heap.size := ⟨_, rfl⟩
  have hnew := heap_alloc_new wv (.cells #[.int .i64 0, .int .i64 0, .string ⟨#[]⟩] 31)
  have hfarU := Lib.hid (show P + 1 + 1 < U by omega)
  have hfarUV := Lib.hid (show V < U by omega)
  have hbigU := Lib.hid (show w.heap.size ≤ U by have := hbw.size; omega)
  rw [← hG] at hnew ⊢
  clear hG
  obtain ⟨wn, hwn⟩ : ∃ wn, wn = wv.alloc (.cells #[.int .i64 0, .int .i64 0, .string ⟨#[]⟩] 31) := ⟨_, rfl⟩
  rw [← hwn] at hbn hnew ⊢
  clear hwn
  have hbw := hbw.trans (hbn.mono hbw.size)
  have hX := (hbn.block _ hXl).trans hX
  have hY := (hbn.block _ hYl).trans hY
  have hZ := (hbn.block _ hZl).trans hZ
  have hV := (hbn.block _ hVl).trans hV
  clear hXl hYl hZl hVl hbn
  generalize wn = wv at *
  have hXl : P < wv.heap.size := (Array.getElem?_eq_some_iff.1 hX).1
  have hYl : P + 1 < wv.heap.size := (Array.getElem?_eq_some_iff.1 hY).1
  have hZl : P + 1 + 1 < wv.heap.size := (Array.getElem?_eq_some_iff.1 hZ).1
  have hVl : V < wv.heap.size := (Array.getElem?_eq_some_iff.1 hV).1
  have hU := hnew
  clear hnew
  have hUl : U < wv.heap.size := (Array.getElem?_eq_some_iff.1 hU).1
  obtain ⟨r0, r1, r2, z0, z1, z2⟩ := val3 hU
  conv => arg 4; whnf
  conv => arg 4; arg 1; whnf
  refine pt_last (by rfl) (fun K hK => ?_)
  go_wp2_with fail
  clear r0 r1 r2 z0 z1 z2
  have hz := val_store (x := .int .i64 4) (y := .int .i64 1) (z := .string ⟨#[]⟩) hU
  have qX := blk3JBad (x := .int .i64 4) (y := .int .i64 1) (z := .string ⟨#[]⟩) (show P ≠ U by have := hfarU.out; omega) hX
  have qY := blk3JBad (x := .int .i64 4) (y := .int .i64 1) (z := .string ⟨#[]⟩) (show P + 1 ≠ U by have := hfarU.out; omega) hY
  have qZ := blk3JBad (x := .int .i64 4) (y := .int .i64 1) (z := .string ⟨#[]⟩) (show P + 1 + 1 ≠ U by have := hfarU.out; omega) hZ
  have qV := blk3JBad (x := .int .i64 4) (y := .int .i64 1) (z := .string ⟨#[]⟩) (show V ≠ U by have := hfarUV.out; omega) hV
  have hbw := ((hbw.setCell (p := ⟨U, 0, none⟩) hbigU.out (.int .i64 4)).setCell (p := ⟨U, 1, none⟩) hbigU.out (.int .i64 1)).setCell (p := ⟨U, 2, none⟩) hbigU.out (.string ⟨#[]⟩)
  clear hX hY hZ hV hU hXl hYl hZl hVl hUl
  have hU := hz
  have hX := qX
  have hY := qY
  have hZ := qZ
  have hV := qV
  clear hz qX qY qZ qV
  generalize (((wv.setCell ⟨U, 0, none⟩ (.int .i64 4)).setCell ⟨U, 1, none⟩ (.int .i64 1)).setCell ⟨U, 2, none⟩ (.string ⟨#[]⟩)) = wv at *
  have hXl : P < wv.heap.size := (Array.getElem?_eq_some_iff.1 hX).1
  have hYl : P + 1 < wv.heap.size := (Array.getElem?_eq_some_iff.1 hY).1
  have hZl : P + 1 + 1 < wv.heap.size := (Array.getElem?_eq_some_iff.1 hZ).1
  have hVl : V < wv.heap.size := (Array.getElem?_eq_some_iff.1 hV).1
  have hUl : U < wv.heap.size := (Array.getElem?_eq_some_iff.1 hU).1
  refine pt_nil ?_
  obtain ⟨x0, x1, x2, _⟩ := val3 hX
  obtain ⟨y0, y1, y2, _⟩ := val3 hY
  obtain ⟨z0, z1, z2, _⟩ := val3 hZ
  obtain ⟨v0, v1, v2, _⟩ := val3 hV
  obtain ⟨u0, u1, u2, _⟩ := val3 hU
  clear hX hY hZ hV hU hXl hYl hZl hVl hUl
  go_wp2_with fail
  refine (awake8 _).mono ?_
  rintro en wn ⟨rfl, hbn⟩
  clear x0 x1 x2 y0 y1 y2 z0 z1 z2 v0 v1 v2 u0 u1 u2
  go_wp2
  go_ret
  exact ⟨rfl, hbw.trans (hbn.mono hbw.size)⟩
  conv => arg 4; whnf
  conv => arg 4; arg 1; whnf
  refine pt_eff (by rfl) (fun K hK => ?_)
  go_wp2_with fail
  refine hK _ _ ((Below.refl _ _).alloc (Nat.le_refl _) _) ?_
  clear hK K
  have hbn : Below wv.heap.size wv (wv.alloc (.cells #[.int .i64 0, .int .i64 0, .string ⟨#[]⟩] 31)) := (Below.refl _ _).alloc (Nat.le_refl _) _
  obtain ⟨U, hG⟩ : ∃ G, G = wv.heap.size := ⟨_, rfl⟩
  have hnew := heap_alloc_new wv (.cells #[.int .i64 0, .int .i64 0, .string ⟨#[]⟩] 31)
  have hfarU := Lib.hid (show P + 1 + 1 < U by omega)
  have hfarUV := Lib.hid (show V < U by omega)
  have hbigU := Lib.hid (show w.heap.size ≤ U by have := hbw.size; omega)
  rw [← hG] at hnew ⊢
  clear hG
  obtain ⟨wn, hwn⟩ : ∃ wn, wn = wv.alloc (.cells #[.int .i64 0, .int .i64 0, .string ⟨#[]⟩] 31) := ⟨_, rfl⟩
  rw [← hwn] at hbn hnew ⊢
  clear hwn
  have hbw := hbw.trans (hbn.mono hbw.size)
  have hX := (hbn.block _ hXl).trans hX
  have hY := (hbn.block _ hYl).trans hY
  have hZ := (hbn.block _ hZl).trans hZ
  have hV := (hbn.block _ hVl).trans hV
  have hAA := hAA.below hbn
  clear hXl hYl hZl hVl hbn
  generalize wn = wv at *
  have hXl : P < wv.heap.size := (Array.getElem?_eq_some_iff.1 hX).1
  have hYl : P + 1 < wv.heap.size := (Array.getElem?_eq_some_iff.1 hY).1
  have hZl : P + 1 + 1 < wv.heap.size := (Array.getElem?_eq_some_iff.1 hZ).1
  have hVl : V < wv.heap.size := (Array.getElem?_eq_some_iff.1 hV).1
  have hU := hnew
  clear hnew
  have hUl : U < wv.heap.size := (Array.getElem?_eq_some_iff.1 hU).1
  conv => arg 4; whnf
  conv => arg 4; arg 1; whnf
  refine pt_eff (by rfl) (fun K hK => ?_)
  go_wp2_with fail
  refine (C2.out _ _ _ _ _ hAA).mono ?_
  rintro en wn ⟨rfl, hbn⟩
  refine hK _ _ hbn ?_
  clear hK K
  clear hAA
  have hbw := hbw.trans (hbn.mono hbw.size)
  have hX := (hbn.block _ hXl).trans hX
  have hY := (hbn.block _ hYl).trans hY
  have hZ := (hbn.block _ hZl).trans hZ
  have hV := (hbn.block _ hVl).trans hV
  have hU := (hbn.block _ hUl).trans hU
  clear hXl hYl hZl hVl hUl hbn
  generalize wn = wv at *
  have hXl : P < wv.heap.size := (Array.getElem?_eq_some_iff.1 hX).1
  have hYl : P + 1 < wv.heap.size := (Array.getElem?_eq_some_iff.1 hY).1
  have hZl : P + 1 + 1 < wv.heap.size := (Array.getElem?_eq_some_iff.1 hZ).1
  have hVl : V < wv.heap.size := (Array.getElem?_eq_some_iff.1 hV).1
  have hUl : U < wv.heap.size := (Array.getElem?_eq_some_iff.1 hU).1
  obtain ⟨r0, r1, r2, z0, z1, z2⟩ := val3 hU
  conv => arg 4; whnf
  conv => arg 4; arg 1; whnf
  refine pt_last (by rfl) (fun K hK => ?_)
  go_wp2_with fail
  clear r0 r1 r2 z0 z1 z2
  have hz := val_store (x := .int .i64 4) (y := .int .i64 1) (z := .string ⟨#[]⟩) hU
  have qX := blk3JBad (x := .int .i64 4) (y := .int .i64 1) (z := .string ⟨#[]⟩) (show P ≠ U by have := hfarU.out; omega) hX
  have qY := blk3JBad (x := .int .i64 4) (y := .int .i64 1) (z := .string ⟨#[]⟩) (show P + 1 ≠ U by have := hfarU.out; omega) hY
  have qZ := blk3JBad (x := .int .i64 4) (y := .int .i64 1) (z := .string ⟨#[]⟩) (show P + 1 + 1 ≠ U by have := hfarU.out; omega) hZ
  have qV := blk3JBad (x := .int .i64 4) (y := .int .i64 1) (z := .string ⟨#[]⟩) (show V ≠ U by have := hfarUV.out; omega) hV
  have hbw := ((hbw.setCell (p := ⟨U, 0, none⟩) hbigU.out (.int .i64 4)).setCell (p := ⟨U, 1, none⟩) hbigU.out (.int .i64 1)).setCell (p := ⟨U, 2, none⟩) hbigU.out (.string ⟨#[]⟩)
  clear hX hY hZ hV hU hXl hYl hZl hVl hUl
  have hU := hz
  have hX := qX
  have hY := qY
  have hZ := qZ
  have hV := qV
  clear hz qX qY qZ qV
  generalize (((wv.setCell ⟨U, 0, none⟩ (.int .i64 4)).setCell ⟨U, 1, none⟩ (.int .i64 1)).setCell ⟨U, 2, none⟩ (.string ⟨#[]⟩)) = wv at *
  have hXl : P < wv.heap.size := (Array.getElem?_eq_some_iff.1 hX).1
  have hYl : P + 1 < wv.heap.size := (Array.getElem?_eq_some_iff.1 hY).1
  have hZl : P + 1 + 1 < wv.heap.size := (Array.getElem?_eq_some_iff.1 hZ).1
  have hVl : V < wv.heap.size := (Array.getElem?_eq_some_iff.1 hV).1
  have hUl : U < wv.heap.size := (Array.getElem?_eq_some_iff.1 hU).1
  refine pt_nil ?_
  obtain ⟨x0, x1, x2, _⟩ := val3 hX
  obtain ⟨y0, y1, y2, _⟩ := val3 hY
  obtain ⟨z0, z1, z2, _⟩ := val3 hZ
  obtain ⟨v0, v1, v2, _⟩ := val3 hV
  obtain ⟨u0, u1, u2, _⟩ := val3 hU
  clear hX hY hZ hV hU hXl hYl hZl hVl hUl
  go_wp2_with fail
  refine (awake8 _).mono ?_
  rintro en wn ⟨rfl, hbn⟩
  clear x0 x1 x2 y0 y1 y2 z0 z1 z2 v0 v1 v2 u0 u1 u2
  go_wp2
  go_ret
  exact ⟨rfl, hbw.trans (hbn.mono hbw.size)⟩
  conv => arg 4; whnf
  conv => arg 4; arg 1; whnf
  refine pt_eff (by rfl) (fun K hK => ?_)
  go_wp2_with fail
  refine hK _ _ ((Below.refl _ _).alloc (Nat.le_refl _) _) ?_
  clear hK K
  have hbn : Below wv.heap.size wv (wv.alloc (.cells #[.int .i64 0, .int .i64 0, .string ⟨#[]⟩] 31)) := (Below.refl _ _).alloc (Nat.le_refl _) _
  obtain ⟨U, hG⟩ : ∃ G, G = wv.heap.size := ⟨_, rfl⟩
  have hnew := heap_alloc_new wv (.cells #[.int .i64 0, .int .i64 0, .string ⟨#[]⟩] 31)
  have hfarU := Lib.hid (show P + 1 + 1 < U by omega)
  have hfarUV := Lib.hid (show V < U by omega)
  have hbigU := Lib.hid (show w.heap.size ≤ U by have := hbw.size; omega)
  rw [← hG] at hnew ⊢
  clear hG
  obtain ⟨wn, hwn⟩ : ∃ wn, wn = wv.alloc (.cells #[.int .i64 0, .int .i64 0, .string ⟨#[]⟩] 31) := ⟨_, rfl⟩
  rw [← hwn] at hbn hnew ⊢
  clear hwn
  have hbw := hbw.trans (hbn.mono hbw.size)
  have hX := (hbn.block _ hXl).trans hX
  have hY := (hbn.block _ hYl).trans hY
  have hZ := (hbn.block _ hZl).trans hZ
  have hV := (hbn.block _ hVl).trans hV
  have ha1 := ha1.below hbn
  have ha2 := ha2.below hbn
  clear hXl hYl hZl hVl hbn
  generalize wn = wv at *
  have hXl : P < wv.heap.size := (Array.getElem?_eq_some_iff.1 hX).1
  have hYl : P + 1 < wv.heap.size := (Array.getElem?_eq_some_iff.1 hY).1
  have hZl : P + 1 + 1 < wv.heap.size := (Array.getElem?_eq_some_iff.1 hZ).1
  have hVl : V < wv.heap.size := (Array.getElem?_eq_some_iff.1 hV).1
  have hU := hnew
  clear hnew
  have hUl : U < wv.heap.size := (Array.getElem?_eq_some_iff.1 hU).1
  conv => arg 4; whnf
  conv => arg 4; arg 1; whnf
  refine pt_eff (by rfl) (fun K hK => ?_)
  go_wp2_with fail
  refine hK _ _ ((Below.refl _ _).alloc (Nat.le_refl _) _) ?_
  clear hK K
  have hbn : Below wv.heap.size wv (wv.alloc (.cells #[.bool false, .int .i64 0, .slice (some ⟨e1, 0, none⟩) 1 1, .bool false, .int .i64 0, .slice (some ⟨e2, 0, none⟩) 1 1] 27)) := (Below.refl _ _).alloc (Nat.le_refl _) _
  obtain ⟨G, hG⟩ : ∃ G, G = wv.heap.size := ⟨_, rfl⟩
  have hGo := heap_alloc_new wv (.cells #[.bool false, .int .i64 0, .slice (some ⟨e1, 0, none⟩) 1 1, .bool false, .int .i64 0, .slice (some ⟨e2, 0, none⟩) 1 1] 27)
  rw [← hG] at hGo ⊢
  clear hG
  have hAA : AtA (wv.alloc (.cells #[.bool false, .int .i64 0, .slice (some ⟨e1, 0, none⟩) 1 1, .bool false, .int .i64 0, .slice (some ⟨e2, 0, none⟩) 1 1] 27)) (some ⟨G, 0, none⟩) [oneArg (some ⟨e1, 0, none⟩) (2, 0, ⟨#[116]⟩), oneArg (some ⟨e2, 0, none⟩) (ky, ny, sy)] := atA_lit (by simp) hGo rfl (fun a ha => by
    simp only [List.mem_cons, List.not_mem_nil, or_false] at ha
    rcases ha with rfl | rfl
    · exact ha1.below hbn
    · exact ha2.below hbn)
  clear hGo ha1 ha2
  obtain ⟨wn, hwn⟩ : ∃ wn, wn = wv.alloc (.cells #[.bool false, .int .i64 0, .slice (some ⟨e1, 0, none⟩) 1 1, .bool false, .int .i64 0, .slice (some ⟨e2, 0, none⟩) 1 1] 27) := ⟨_, rfl⟩
  rw [← hwn] at hbn hAA ⊢
  clear hwn
  have hbw := hbw.trans (hbn.mono hbw.size)
  have hX := (hbn.block _ hXl).trans hX
  have hY := (hbn.block _ hYl).trans hY
  have hZ := (hbn.block _ hZl).trans hZ
  have hV := (hbn.block _ hVl).trans hV
  have hU := (hbn.block _ hUl).trans hU
  clear hXl hYl hZl hVl hUl hbn
  generalize wn = wv at *
  have hXl : P < wv.heap.size := (Array.getElem?_eq_some_iff.1 hX).1
  have hYl : P + 1 < wv.heap.size := (Array.getElem?_eq_some_iff.1 hY).1
  have hZl : P + 1 + 1 < wv.heap.size := (Array.getElem?_eq_some_iff.1 hZ).1
  have hVl : V < wv.heap.size := (Array.getElem?_eq_some_iff.1 hV).1
  have hUl : U < wv.heap.size := (Array.getElem?_eq_some_iff.1 hU).1
  conv => arg 4; whnf
  conv => arg 4; arg 1; whnf
  refine pt_eff (by rfl) (fun K hK => ?_)
  go_wp2_with fail
  refine (C2.out _ _ _ _ _ hAA).mono ?_
  rintro en wn ⟨rfl, hbn⟩
  refine hK _ _ hbn ?_
  clear hK K
  clear hAA
  have hbw := hbw.trans (hbn.mono hbw.size)
  have hX := (hbn.block _ hXl).trans hX
  have hY := (hbn.block _ hYl).trans hY
  have hZ := (hbn.block _ hZl).trans hZ
  have hV := (hbn.block _ hVl).trans hV
  have hU := (hbn.block _ hUl).trans hU
  clear hXl hYl hZl hVl hUl hbn
  generalize wn = wv at *
  have hXl : P < wv.heap.size := (Array.getElem?_eq_some_iff.1 hX).1
  have hYl : P + 1 < wv.heap.size := (Array.getElem?_eq_some_iff.1 hY).1
  have hZl : P + 1 + 1 < wv.heap.size := (Array.getElem?_eq_some_iff.1 hZ).1
  have hVl : V < wv.heap.size := (Array.getElem?_eq_some_iff.1 hV).1
  have hUl : U < wv.heap.size := (Array.getElem?_eq_some_iff.1 hU).1
  obtain ⟨r0, r1, r2, z0, z1, z2⟩ := val3 hU
  conv => arg 4; whnf
  conv => arg 4; arg 1; whnf
  refine pt_last (by rfl) (fun K hK => ?_)
  go_wp2_with fail
  clear r0 r1 r2 z0 z1 z2
  have hz := val_store (x := .int .i64 4) (y := .int .i64 1) (z := .string ⟨#[]⟩) hU
  have qX := blk3JBad (x := .int .i64 4) (y := .int .i64 1) (z := .string ⟨#[]⟩) (show P ≠ U by have := hfarU.out; omega) hX
  have qY := blk3JBad (x := .int .i64 4) (y := .int .i64 1) (z := .string ⟨#[]⟩) (show P + 1 ≠ U by have := hfarU.out; omega) hY
  have qZ := blk3JBad (x := .int .i64 4) (y := .int .i64 1) (z := .string ⟨#[]⟩) (show P + 1 + 1 ≠ U by have := hfarU.out; omega) hZ
  have qV := blk3JBad (x := .int .i64 4) (y := .int .i64 1) (z := .string ⟨#[]⟩) (show V ≠ U by have := hfarUV.out; omega) hV
  have hbw := ((hbw.setCell (p := ⟨U, 0, none⟩) hbigU.out (.int .i64 4)).setCell (p := ⟨U, 1, none⟩) hbigU.out (.int .i64 1)).setCell (p := ⟨U, 2, none⟩) hbigU.out (.string ⟨#[]⟩)
  clear hX hY hZ hV hU hXl hYl hZl hVl hUl
  have hU := hz
  have hX := qX
  have hY := qY
  have hZ := qZ
  have hV := qV
  clear hz qX qY qZ qV
  generalize (((wv.setCell ⟨U, 0, none⟩ (.int .i64 4)).setCell ⟨U, 1, none⟩ (.int .i64 1)).setCell ⟨U, 2, none⟩ (.string ⟨#[]⟩)) = wv at *
  have hXl : P < wv.heap.size := (Array.getElem?_eq_some_iff.1 hX).1
  have hYl : P + 1 < wv.heap.size := (Array.getElem?_eq_some_iff.1 hY).1
  have hZl : P + 1 + 1 < wv.heap.size := (Array.getElem?_eq_some_iff.1 hZ).1
  have hVl : V < wv.heap.size := (Array.getElem?_eq_some_iff.1 hV).1
  have hUl : U < wv.heap.size := (Array.getElem?_eq_some_iff.1 hU).1
  refine pt_nil ?_
  obtain ⟨x0, x1, x2, _⟩ := val3 hX
  obtain ⟨y0, y1, y2, _⟩ := val3 hY
  obtain ⟨z0, z1, z2, _⟩ := val3 hZ
  obtain ⟨v0, v1, v2, _⟩ := val3 hV
  obtain ⟨u0, u1, u2, _⟩ := val3 hU
  clear hX hY hZ hV hU hXl hYl hZl hVl hUl
  go_wp2_with fail
  refine (awake8 _).mono ?_
  rintro en wn ⟨rfl, hbn⟩
  clear x0 x1 x2 y0 y1 y2 z0 z1 z2 v0 v1 v2 u0 u1 u2
  go_wp2
  go_ret
  exact ⟨rfl, hbw.trans (hbn.mono hbw.size)⟩
  conv => arg 4; whnf
  conv => arg 4; arg 1; whnf
  refine pt_eff (by rfl) (fun K hK => ?_)
  go_wp2_with fail
  refine hK _ _ ((Below.refl _ _).alloc (Nat.le_refl _) _) ?_
  clear hK K
  have hbn : Below wv.heap.size wv (wv.alloc (.cells #[.int .i64 0, .int .i64 0, .string ⟨#[]⟩] 31)) := (Below.refl _ _).alloc (Nat.le_refl _) _
  obtain ⟨U, hG⟩ : ∃ G, G = wv.heap.size := ⟨_, rfl⟩
  have hnew := heap_alloc_new wv (.cells #[.int .i64 0, .int .i64 0, .string ⟨#[]⟩] 31)
  have hfarU := Lib.hid (show P + 1 + 1 < U by omega)
  have hfarUV := Lib.hid (show V < U by omega)
  have hbigU := Lib.hid (show w.heap.size ≤ U by have := hbw.size; omega)
  rw [← hG] at hnew ⊢
  clear hG
  obtain ⟨wn, hwn⟩ : ∃ wn, wn = wv.alloc (.cells #[.int .i64 0, .int .i64 0, .string ⟨#[]⟩] 31) := ⟨_, rfl⟩
  rw [← hwn] at hbn hnew ⊢
  clear hwn
  have hbw := hbw.trans (hbn.mono hbw.size)
  have hX := (hbn.block _ hXl).trans hX
  have hY := (hbn.block _ hYl).trans hY
  have hZ := (hbn.block _ hZl).trans hZ
  have hV := (hbn.block _ hVl).trans hV
  have ha1 := ha1.below hbn
  clear hXl hYl hZl hVl hbn
  generalize wn = wv at *
  have hXl : P < wv.heap.size := (Array.getElem?_eq_some_iff.1 hX).1
  have hYl : P + 1 < wv.heap.size := (Array.getElem?_eq_some_iff.1 hY).1
  have hZl : P + 1 + 1 < wv.heap.size := (Array.getElem?_eq_some_iff.1 hZ).1
  have hVl : V < wv.heap.size := (Array.getElem?_eq_some_iff.1 hV).1
  have hU := hnew
  clear hnew
  have hUl : U < wv.heap.size := (Array.getElem?_eq_some_iff.1 hU).1
  conv => arg 4; whnf
  conv => arg 4; arg 1; whnf
  refine pt_eff (by rfl) (fun K hK => ?_)
  go_wp2_with fail
  refine (lone_any _ ky ny sy).mono ?_
  rintro en wn ⟨e2, rfl, hbn, hnew⟩
  refine hK _ _ hbn ?_
  clear hK K
  have hbw := hbw.trans (hbn.mono hbw.size)
  have hX := (hbn.block _ hXl).trans hX
  have hY := (hbn.block _ hYl).trans hY
  have hZ := (hbn.block _ hZl).trans hZ
  have hV := (hbn.block _ hVl).trans hV
  have hU := (hbn.block _ hUl).trans hU
  have ha1 := ha1.below hbn
  clear hXl hYl hZl hVl hUl hbn
  generalize wn = wv at *
  have hXl : P < wv.heap.size := (Array.getElem?_eq_some_iff.1 hX).1
  have hYl : P + 1 < wv.heap.size := (Array.getElem?_eq_some_iff.1 hY).1
  have hZl : P + 1 + 1 < wv.heap.size := (Array.getElem?_eq_some_iff.1 hZ).1
  have hVl : V < wv.heap.size := (Array.getElem?_eq_some_iff.1 hV).1
  have hUl : U < wv.heap.size := (Array.getElem?_eq_some_iff.1 hU).1
  have ha2 := hnew
  clear hnew
  conv => arg 4; whnf
  conv => arg 4; arg 1; whnf
  refine pt_eff (by rfl) (fun K hK => ?_)
  go_wp2_with fail
  refine hK _ _ ((Below.refl _ _).alloc (Nat.le_refl _) _) ?_
  clear hK K
  have hbn : Below wv.heap.size wv (wv.alloc (.cells #[.bool false, .int .i64 0, .slice (some ⟨e1, 0, none⟩) 1 1, .bool false, .int .i64 0, .slice (some ⟨e2, 0, none⟩) 1 1] 27)) := (Below.refl _ _).alloc (Nat.le_refl _) _
  obtain ⟨G, hG⟩ : ∃ G, G = wv.heap.size := ⟨_, rfl⟩
  have hGo := heap_alloc_new wv (.cells #[.bool false, .int .i64 0, .slice (some ⟨e1, 0, none⟩) 1 1, .bool false, .int .i64 0, .slice (some ⟨e2, 0, none⟩) 1 1] 27)
  rw [← hG] at hGo ⊢
  clear hG
  have hAA : AtA (wv.alloc (.cells #[.bool false, .int .i64 0, .slice (some ⟨e1, 0, none⟩) 1 1, .bool false, .int .i64 0, .slice (some ⟨e2, 0, none⟩) 1 1] 27)) (some ⟨G, 0, none⟩) [oneArg (some ⟨e1, 0, none⟩) (2, 0, ⟨#[116]⟩), oneArg (some ⟨e2, 0, none⟩) (ky, ny, sy)] := atA_lit (by simp) hGo rfl (fun a ha => by
    simp only [List.mem_cons, List.not_mem_nil, or_false] at ha
    rcases ha with rfl | rfl
    · exact ha1.below hbn
    · exact ha2.below hbn)
  clear hGo ha1 ha2
  obtain ⟨wn, hwn⟩ : ∃ wn, wn = wv.alloc (.cells #[.bool false, .int .i64 0, .slice (some ⟨e1, 0, none⟩) 1 1, .bool false, .int .i64 0, .slice (some ⟨e2, 0, none⟩) 1 1] 27) := ⟨_, rfl⟩
  rw [← hwn] at hbn hAA ⊢
  clear hwn
  have hbw := hbw.trans (hbn.mono hbw.size)
  have hX := (hbn.block _ hXl).trans hX
  have hY := (hbn.block _ hYl).trans hY
  have hZ := (hbn.block _ hZl).trans hZ
  have hV := (hbn.block _ hVl).trans hV
  have hU := (hbn.block _ hUl).trans hU
  clear hXl hYl hZl hVl hUl hbn
  generalize wn = wv at *
  have hXl : P < wv.heap.size := (Array.getElem?_eq_some_iff.1 hX).1
  have hYl : P + 1 < wv.heap.size := (Array.getElem?_eq_some_iff.1 hY).1
  have hZl : P + 1 + 1 < wv.heap.size := (Array.getElem?_eq_some_iff.1 hZ).1
  have hVl : V < wv.heap.size := (Array.getElem?_eq_some_iff.1 hV).1
  have hUl : U < wv.heap.size := (Array.getElem?_eq_some_iff.1 hU).1
  conv => arg 4; whnf
  conv => arg 4; arg 1; whnf
  refine pt_eff (by rfl) (fun K hK => ?_)
  go_wp2_with fail
  refine (C2.out _ _ _ _ _ hAA).mono ?_
  rintro en wn ⟨rfl, hbn⟩
  refine hK _ _ hbn ?_
  clear hK K
  clear hAA
  have hbw := hbw.trans (hbn.mono hbw.size)
  have hX := (hbn.block _ hXl).trans hX
  have hY := (hbn.block _ hYl).trans hY
  have hZ := (hbn.block _ hZl).trans hZ
  have hV := (hbn.block _ hVl).trans hV
  have hU := (hbn.block _ hUl).trans hU
  clear hXl hYl hZl hVl hUl hbn
  generalize wn = wv at *
  have hXl : P < wv.heap.size := (Array.getElem?_eq_some_iff.1 hX).1
  have hYl : P + 1 < wv.heap.size := (Array.getElem?_eq_some_iff.1 hY).1
  have hZl : P + 1 + 1 < wv.heap.size := (Array.getElem?_eq_some_iff.1 hZ).1
  have hVl : V < wv.heap.size := (Array.getElem?_eq_some_iff.1 hV).1
  have hUl : U < wv.heap.size := (Array.getElem?_eq_some_iff.1 hU).1
  obtain ⟨r0, r1, r2, z0, z1, z2⟩ := val3 hU
  conv => arg 4; whnf
  conv => arg 4; arg 1; whnf
  refine pt_last (by rfl) (fun K hK => ?_)
  go_wp2_with fail
  clear r0 r1 r2 z0 z1 z2
  have hz := val_store (x := .int .i64 4) (y := .int .i64 1) (z := .string ⟨#[]⟩) hU
  have qX := blk3JBad (x := .int .i64 4) (y := .int .i64 1) (z := .string ⟨#[]⟩) (show P ≠ U by have := hfarU.out; omega) hX
  have qY := blk3JBad (x := .int .i64 4) (y := .int .i64 1) (z := .string ⟨#[]⟩) (show P + 1 ≠ U by have := hfarU.out; omega) hY
  have qZ := blk3JBad (x := .int .i64 4) (y := .int .i64 1) (z := .string ⟨#[]⟩) (show P + 1 + 1 ≠ U by have := hfarU.out; omega) hZ
  have qV := blk3JBad (x := .int .i64 4) (y := .int .i64 1) (z := .string ⟨#[]⟩) (show V ≠ U by have := hfarUV.out; omega) hV
  have hbw := ((hbw.setCell (p := ⟨U, 0, none⟩) hbigU.out (.int .i64 4)).setCell (p := ⟨U, 1, none⟩) hbigU.out (.int .i64 1)).setCell (p := ⟨U, 2, none⟩) hbigU.out (.string ⟨#[]⟩)
  clear hX hY hZ hV hU hXl hYl hZl hVl hUl
  have hU := hz
  have hX := qX
  have hY := qY
  have hZ := qZ
  have hV := qV
  clear hz qX qY qZ qV
  generalize (((wv.setCell ⟨U, 0, none⟩ (.int .i64 4)).setCell ⟨U, 1, none⟩ (.int .i64 1)).setCell ⟨U, 2, none⟩ (.string ⟨#[]⟩)) = wv at *
  have hXl : P < wv.heap.size := (Array.getElem?_eq_some_iff.1 hX).1
  have hYl : P + 1 < wv.heap.size := (Array.getElem?_eq_some_iff.1 hY).1
  have hZl : P + 1 + 1 < wv.heap.size := (Array.getElem?_eq_some_iff.1 hZ).1
  have hVl : V < wv.heap.size := (Array.getElem?_eq_some_iff.1 hV).1
  have hUl : U < wv.heap.size := (Array.getElem?_eq_some_iff.1 hU).1
  refine pt_nil ?_
  obtain ⟨x0, x1, x2, _⟩ := val3 hX
  obtain ⟨y0, y1, y2, _⟩ := val3 hY
  obtain ⟨z0, z1, z2, _⟩ := val3 hZ
  obtain ⟨v0, v1, v2, _⟩ := val3 hV
  obtain ⟨u0, u1, u2, _⟩ := val3 hU
  clear hX hY hZ hV hU hXl hYl hZl hVl hUl
  go_wp2_with fail
  refine (awake8 _).mono ?_
  rintro en wn ⟨rfl, hbn⟩
  clear x0 x1 x2 y0 y1 y2 z0 z1 z2 v0 v1 v2 u0 u1 u2
  go_wp2
  go_ret
  exact ⟨rfl, hbw.trans (hbn.mono hbw.size)⟩
  conv => arg 4; whnf
  conv => arg 4; arg 1; whnf
  refine pt_eff (by rfl) (fun K hK => ?_)
  go_wp2_with fail
  refine hK _ _ ((Below.refl _ _).alloc (Nat.le_refl _) _) ?_
  clear hK K
  have hbn : Below wv.heap.size wv (wv.alloc (.cells #[.int .i64 0, .int .i64 0, .string ⟨#[]⟩] 31)) := (Below.refl _ _).alloc (Nat.le_refl _) _
  obtain ⟨U, hG⟩ : ∃ G, G = wv.heap.size := ⟨_, rfl⟩
  have hnew := heap_alloc_new wv (.cells #[.int .i64 0, .int .i64 0, .string ⟨#[]⟩] 31)
  have hfarU := Lib.hid (show P + 1 + 1 < U by omega)
  have hfarUV := Lib.hid (show V < U by omega)
  have hbigU := Lib.hid (show w.heap.size ≤ U by have := hbw.size; omega)
  rw [← hG] at hnew ⊢
  clear hG
  obtain ⟨wn, hwn⟩ : ∃ wn, wn = wv.alloc (.cells #[.int .i64 0, .int .i64 0, .string ⟨#[]⟩] 31) := ⟨_, rfl⟩
  rw [← hwn] at hbn hnew ⊢
  clear hwn
  have hbw := hbw.trans (hbn.mono hbw.size)
  have hX := (hbn.block _ hXl).trans hX
  have hY := (hbn.block _ hYl).trans hY
  have hZ := (hbn.block _ hZl).trans hZ
  have hV := (hbn.block _ hVl).trans hV
  clear hXl hYl hZl hVl hbn
  generalize wn = wv at *
  have hXl : P < wv.heap.size := (Array.getElem?_eq_some_iff.1 hX).1
  have hYl : P + 1 < wv.heap.size := (Array.getElem?_eq_some_iff.1 hY).1
  have hZl : P + 1 + 1 < wv.heap.size := (Array.getElem?_eq_some_iff.1 hZ).1
  have hVl : V < wv.heap.size := (Array.getElem?_eq_some_iff.1 hV).1
  have hU := hnew
  clear hnew
  have hUl : U < wv.heap.size := (Array.getElem?_eq_some_iff.1 hU).1
  conv => arg 4; whnf
  conv => arg 4; arg 1; whnf
  refine pt_eff (by rfl) (fun K hK => ?_)
  go_wp2_with fail
  refine (lone_any _ 2 0 ⟨#[116]⟩).mono ?_
  rintro en wn ⟨e1, rfl, hbn, hnew⟩
  refine hK _ _ hbn ?_
  clear hK K
  have hbw := hbw.trans (hbn.mono hbw.size)
  have hX := (hbn.block _ hXl).trans hX
  have hY := (hbn.block _ hYl).trans hY
  have hZ := (hbn.block _ hZl).trans hZ
  have hV := (hbn.block _ hVl).trans hV
  have hU := (hbn.block _ hUl).trans hU
  clear hXl hYl hZl hVl hUl hbn
  generalize wn = wv at *
  have hXl : P < wv.heap.size := (Array.getElem?_eq_some_iff.1 hX).1
  have hYl : P + 1 < wv.heap.size := (Array.getElem?_eq_some_iff.1 hY).1
  have hZl : P + 1 + 1 < wv.heap.size := (Array.getElem?_eq_some_iff.1 hZ).1
  have hVl : V < wv.heap.size := (Array.getElem?_eq_some_iff.1 hV).1
  have hUl : U < wv.heap.size := (Array.getElem?_eq_some_iff.1 hU).1
  have ha1 := hnew
  clear hnew
  conv => arg 4; whnf
  conv => arg 4; arg 1; whnf
  refine pt_eff (by rfl) (fun K hK => ?_)
  go_wp2_with fail
  refine (lone_any _ ky ny sy).mono ?_
  rintro en wn ⟨e2, rfl, hbn, hnew⟩
  refine hK _ _ hbn ?_
  clear hK K
  have hbw := hbw.trans (hbn.mono hbw.size)
  have hX := (hbn.block _ hXl).trans hX
  have hY := (hbn.block _ hYl).trans hY
  have hZ := (hbn.block _ hZl).trans hZ
  have hV := (hbn.block _ hVl).trans hV
  have hU := (hbn.block _ hUl).trans hU
  have ha1 := ha1.below hbn
  clear hXl hYl hZl hVl hUl hbn
  generalize wn = wv at *
  have hXl : P < wv.heap.size := (Array.getElem?_eq_some_iff.1 hX).1
  have hYl : P + 1 < wv.heap.size := (Array.getElem?_eq_some_iff.1 hY).1
  have hZl : P + 1 + 1 < wv.heap.size := (Array.getElem?_eq_some_iff.1 hZ).1
  have hVl : V < wv.heap.size := (Array.getElem?_eq_some_iff.1 hV).1
  have hUl : U < wv.heap.size := (Array.getElem?_eq_some_iff.1 hU).1
  have ha2 := hnew
  clear hnew
  conv => arg 4; whnf
  conv => arg 4; arg 1; whnf
  refine pt_eff (by rfl) (fun K hK => ?_)
  go_wp2_with fail
  refine hK _ _ ((Below.refl _ _).alloc (Nat.le_refl _) _) ?_
  clear hK K
  have hbn : Below wv.heap.size wv (wv.alloc (.cells #[.bool false, .int .i64 0, .slice (some ⟨e1, 0, none⟩) 1 1, .bool false, .int .i64 0, .slice (some ⟨e2, 0, none⟩) 1 1] 27)) := (Below.refl _ _).alloc (Nat.le_refl _) _
  obtain ⟨G, hG⟩ : ∃ G, G = wv.heap.size := ⟨_, rfl⟩
  have hGo := heap_alloc_new wv (.cells #[.bool false, .int .i64 0, .slice (some ⟨e1, 0, none⟩) 1 1, .bool false, .int .i64 0, .slice (some ⟨e2, 0, none⟩) 1 1] 27)
  rw [← hG] at hGo ⊢
  clear hG
  have hAA : AtA (wv.alloc (.cells #[.bool false, .int .i64 0, .slice (some ⟨e1, 0, none⟩) 1 1, .bool false, .int .i64 0, .slice (some ⟨e2, 0, none⟩) 1 1] 27)) (some ⟨G, 0, none⟩) [oneArg (some ⟨e1, 0, none⟩) (2, 0, ⟨#[116]⟩), oneArg (some ⟨e2, 0, none⟩) (ky, ny, sy)] := atA_lit (by simp) hGo rfl (fun a ha => by
    simp only [List.mem_cons, List.not_mem_nil, or_false] at ha
    rcases ha with rfl | rfl
    · exact ha1.below hbn
    · exact ha2.below hbn)
  clear hGo ha1 ha2
  obtain ⟨wn, hwn⟩ : ∃ wn, wn = wv.alloc (.cells #[.bool false, .int .i64 0, .slice (some ⟨e1, 0, none⟩) 1 1, .bool false, .int .i64 0, .slice (some ⟨e2, 0, none⟩) 1 1] 27) := ⟨_, rfl⟩
  rw [← hwn] at hbn hAA ⊢
  clear hwn
  have hbw := hbw.trans (hbn.mono hbw.size)
  have hX := (hbn.block _ hXl).trans hX
  have hY := (hbn.block _ hYl).trans hY
  have hZ := (hbn.block _ hZl).trans hZ
  have hV := (hbn.block _ hVl).trans hV
  have hU := (hbn.block _ hUl).trans hU
  clear hXl hYl hZl hVl hUl hbn
  generalize wn = wv at *
  have hXl : P < wv.heap.size := (Array.getElem?_eq_some_iff.1 hX).1
  have hYl : P + 1 < wv.heap.size := (Array.getElem?_eq_some_iff.1 hY).1
  have hZl : P + 1 + 1 < wv.heap.size := (Array.getElem?_eq_some_iff.1 hZ).1
  have hVl : V < wv.heap.size := (Array.getElem?_eq_some_iff.1 hV).1
  have hUl : U < wv.heap.size := (Array.getElem?_eq_some_iff.1 hU).1
  conv => arg 4; whnf
  conv => arg 4; arg 1; whnf
  refine pt_eff (by rfl) (fun K hK => ?_)
  go_wp2_with fail
  refine (C2.out _ _ _ _ _ hAA).mono ?_
  rintro en wn ⟨rfl, hbn⟩
  refine hK _ _ hbn ?_
  clear hK K
  clear hAA
  have hbw := hbw.trans (hbn.mono hbw.size)
  have hX := (hbn.block _ hXl).trans hX
  have hY := (hbn.block _ hYl).trans hY
  have hZ := (hbn.block _ hZl).trans hZ
  have hV := (hbn.block _ hVl).trans hV
  have hU := (hbn.block _ hUl).trans hU
  clear hXl hYl hZl hVl hUl hbn
  generalize wn = wv at *
  have hXl : P < wv.heap.size := (Array.getElem?_eq_some_iff.1 hX).1
  have hYl : P + 1 < wv.heap.size := (Array.getElem?_eq_some_iff.1 hY).1
  have hZl : P + 1 + 1 < wv.heap.size := (Array.getElem?_eq_some_iff.1 hZ).1
  have hVl : V < wv.heap.size := (Array.getElem?_eq_some_iff.1 hV).1
  have hUl : U < wv.heap.size := (Array.getElem?_eq_some_iff.1 hU).1
  obtain ⟨r0, r1, r2, z0, z1, z2⟩ := val3 hU
  conv => arg 4; whnf
  conv => arg 4; arg 1; whnf
  refine pt_last (by rfl) (fun K hK => ?_)
  go_wp2_with fail
  clear r0 r1 r2 z0 z1 z2
  have hz := val_store (x := .int .i64 4) (y := .int .i64 1) (z := .string ⟨#[]⟩) hU
  have qX := blk3JBad (x := .int .i64 4) (y := .int .i64 1) (z := .string ⟨#[]⟩) (show P ≠ U by have := hfarU.out; omega) hX
  have qY := blk3JBad (x := .int .i64 4) (y := .int .i64 1) (z := .string ⟨#[]⟩) (show P + 1 ≠ U by have := hfarU.out; omega) hY
  have qZ := blk3JBad (x := .int .i64 4) (y := .int .i64 1) (z := .string ⟨#[]⟩) (show P + 1 + 1 ≠ U by have := hfarU.out; omega) hZ
  have qV := blk3JBad (x := .int .i64 4) (y := .int .i64 1) (z := .string ⟨#[]⟩) (show V ≠ U by have := hfarUV.out; omega) hV
  have hbw := ((hbw.setCell (p := ⟨U, 0, none⟩) hbigU.out (.int .i64 4)).setCell (p := ⟨U, 1, none⟩) hbigU.out (.int .i64 1)).setCell (p := ⟨U, 2, none⟩) hbigU.out (.string ⟨#[]⟩)
  clear hX hY hZ hV hU hXl hYl hZl hVl hUl
  have hU := hz
  have hX := qX
  have hY := qY
  have hZ := qZ
  have hV := qV
  clear hz qX qY qZ qV
  generalize (((wv.setCell ⟨U, 0, none⟩ (.int .i64 4)).setCell ⟨U, 1, none⟩ (.int .i64 1)).setCell ⟨U, 2, none⟩ (.string ⟨#[]⟩)) = wv at *
  have hXl : P < wv.heap.size := (Array.getElem?_eq_some_iff.1 hX).1
  have hYl : P + 1 < wv.heap.size := (Array.getElem?_eq_some_iff.1 hY).1
  have hZl : P + 1 + 1 < wv.heap.size := (Array.getElem?_eq_some_iff.1 hZ).1
  have hVl : V < wv.heap.size := (Array.getElem?_eq_some_iff.1 hV).1
  have hUl : U < wv.heap.size := (Array.getElem?_eq_some_iff.1 hU).1
  refine pt_nil ?_
  obtain ⟨x0, x1, x2, _⟩ := val3 hX
  obtain ⟨y0, y1, y2, _⟩ := val3 hY
  obtain ⟨z0, z1, z2, _⟩ := val3 hZ
  obtain ⟨v0, v1, v2, _⟩ := val3 hV
  obtain ⟨u0, u1, u2, _⟩ := val3 hU
  clear hX hY hZ hV hU hXl hYl hZl hVl hUl
  go_wp2_with fail
  refine (awake8 _).mono ?_
  rintro en wn ⟨rfl, hbn⟩
  clear x0 x1 x2 y0 y1 y2 z0 z1 z2 v0 v1 v2 u0 u1 u2
  go_wp2
  go_ret
  exact ⟨rfl, hbw.trans (hbn.mono hbw.size)⟩
  conv => arg 4; whnf
  conv => arg 4; arg 1; whnf
  refine pt_eff (by rfl) (fun K hK => ?_)
  go_wp2_with fail
  refine hK _ _ ((Below.refl _ _).alloc (Nat.le_refl _) _) ?_
  clear hK K
  have hbn : Below wv.heap.size wv (wv.alloc (.cells #[.int .i64 0, .int .i64 0, .string ⟨#[]⟩] 31)) := (Below.refl _ _).alloc (Nat.le_refl _) _
  obtain ⟨V, hG⟩ : ∃ G, G = wv.heap.size := ⟨_, rfl⟩
  have hnew := heap_alloc_new wv (.cells #[.int .i64 0, .int .i64 0, .string ⟨#[]⟩] 31)
  have hfarV := Lib.hid (show P + 1 + 1 < V by omega)
  have hbigV := Lib.hid (show w.heap.size ≤ V by have := hbw.size; omega)
  rw [← hG] at hnew ⊢
  clear hG
  obtain ⟨wn, hwn⟩ : ∃ wn, wn = wv.alloc (.cells #[.int .i64 0, .int .i64 0, .string ⟨#[]⟩] 31) := ⟨_, rfl⟩
  rw [← hwn] at hbn hnew ⊢
  clear hwn
  have hbw := hbw.trans (hbn.mono hbw.size)
  have hX := (hbn.block _ hXl).trans hX
  have hY := (hbn.block _ hYl).trans hY
  have hZ := (hbn.block _ hZl).trans hZ
  have hv1 := hv1.below hbn
  have hv2 := hv2.below hbn
  have hv3 := hv3.below hbn
  clear hXl hYl hZl hbn
  generalize wn = wv at *
  have hXl : P < wv.heap.size := (Array.getElem?_eq_some_iff.1 hX).1
  have hYl : P + 1 < wv.heap.size := (Array.getElem?_eq_some_iff.1 hY).1
  have hZl : P + 1 + 1 < wv.heap.size := (Array.getElem?_eq_some_iff.1 hZ).1
  have hV := hnew
  clear hnew
  have hVl : V < wv.heap.size := (Array.getElem?_eq_some_iff.1 hV).1
  conv => arg 4; whnf
  conv => arg 4; arg 1; whnf
  refine pt_eff (by rfl) (fun K hK => ?_)
  go_wp2_with fail
  refine hK _ _ ((Below.refl _ _).alloc (Nat.le_refl _) _) ?_
  clear hK K
  have hbn : Below wv.heap.size wv (wv.alloc (.cells #[.bool false, .int .i64 0, .slice (some ⟨g1, 0, none⟩) 1 1, .bool false, .int .i64 0, .slice (some ⟨g2, 0, none⟩) 1 1, .bool false, .int .i64 0, .slice (some ⟨g3, 0, none⟩) 1 1] 27)) := (Below.refl _ _).alloc (Nat.le_refl _) _
  obtain ⟨G, hG⟩ : ∃ G, G = wv.heap.size := ⟨_, rfl⟩
  have hGo := heap_alloc_new wv (.cells #[.bool false, .int .i64 0, .slice (some ⟨g1, 0, none⟩) 1 1, .bool false, .int .i64 0, .slice (some ⟨g2, 0, none⟩) 1 1, .bool false, .int .i64 0, .slice (some ⟨g3, 0, none⟩) 1 1] 27)
  rw [← hG] at hGo ⊢
  clear hG
  have hAA : AtA (wv.alloc (.cells #[.bool false, .int .i64 0, .slice (some ⟨g1, 0, none⟩) 1 1, .bool false, .int .i64 0, .slice (some ⟨g2, 0, none⟩) 1 1, .bool false, .int .i64 0, .slice (some ⟨g3, 0, none⟩) 1 1] 27)) (some ⟨G, 0, none⟩) [oneArg (some ⟨g1, 0, none⟩) (2, 0, ⟨#[116]⟩), oneArg (some ⟨g2, 0, none⟩) (ky, ny, sy), oneArg (some ⟨g3, 0, none⟩) (kz, nz, sz)] := atA_lit (by simp) hGo rfl (fun a ha => by
    simp only [List.mem_cons, List.not_mem_nil, or_false] at ha
    rcases ha with rfl | rfl | rfl
    · exact hv1.below hbn
    · exact hv2.below hbn
    · exact hv3.below hbn)
  clear hGo hv1 hv2 hv3
  obtain ⟨wn, hwn⟩ : ∃ wn, wn = wv.alloc (.cells #[.bool false, .int .i64 0, .slice (some ⟨g1, 0, none⟩) 1 1, .bool false, .int .i64 0, .slice (some ⟨g2, 0, none⟩) 1 1, .bool false, .int .i64 0, .slice (some ⟨g3, 0, none⟩) 1 1] 27) := ⟨_, rfl⟩
  rw [← hwn] at hbn hAA ⊢
  clear hwn
  have hbw := hbw.trans (hbn.mono hbw.size)
  have hX := (hbn.block _ hXl).trans hX
  have hY := (hbn.block _ hYl).trans hY
  have hZ := (hbn.block _ hZl).trans hZ
  have hV := (hbn.block _ hVl).trans hV
  clear hXl hYl hZl hVl hbn
  generalize wn = wv at *
  have hXl : P < wv.heap.size := (Array.getElem?_eq_some_iff.1 hX).1
  have hYl : P + 1 < wv.heap.size := (Array.getElem?_eq_some_iff.1 hY).1
  have hZl : P + 1 + 1 < wv.heap.size := (Array.getElem?_eq_some_iff.1 hZ).1
  have hVl : V < wv.heap.size := (Array.getElem?_eq_some_iff.1 hV).1
  conv => arg 4; whnf
  conv => arg 4; arg 1; whnf
  refine pt_eff (by rfl) (fun K hK => ?_)
  go_wp2_with fail
  refine (C3.out _ _ _ _ _ _ _ hAA).mono ?_
  rintro en wn ⟨rfl, hbn⟩
  refine hK _ _ hbn ?_
  clear hK K
  clear hAA
  have hbw := hbw.trans (hbn.mono hbw.size)
  have hX := (hbn.block _ hXl).trans hX
  have hY := (hbn.block _ hYl).trans hY
  have hZ := (hbn.block _ hZl).trans hZ
  have hV := (hbn.block _ hVl).trans hV
  clear hXl hYl hZl hVl hbn
  generalize wn = wv at *
  have hXl : P < wv.heap.size := (Array.getElem?_eq_some_iff.1 hX).1
  have hYl : P + 1 < wv.heap.size := (Array.getElem?_eq_some_iff.1 hY).1
  have hZl : P + 1 + 1 < wv.heap.size := (Array.getElem?_eq_some_iff.1 hZ).1
  have hVl : V < wv.heap.size := (Array.getElem?_eq_some_iff.1 hV).1
  obtain ⟨r0, r1, r2, z0, z1, z2⟩ := val3 hV
  conv => arg 4; whnf
  conv => arg 4; arg 1; whnf
  refine pt_last (by rfl) (fun K hK => ?_)
  go_wp2_with fail
  clear r0 r1 r2 z0 z1 z2
  have hz := val_store (x := .int .i64 4) (y := .int .i64 1) (z := .string ⟨#[]⟩) hV
  have qX := blk3JBad (x := .int .i64 4) (y := .int .i64 1) (z := .string ⟨#[]⟩) (show P ≠ V by have := hfarV.out; omega) hX
  have qY := blk3JBad (x := .int .i64 4) (y := .int .i64 1) (z := .string ⟨#[]⟩) (show P + 1 ≠ V by have := hfarV.out; omega) hY
  have qZ := blk3JBad (x := .int .i64 4) (y := .int .i64 1) (z := .string ⟨#[]⟩) (show P + 1 + 1 ≠ V by have := hfarV.out; omega) hZ
  have hbw := ((hbw.setCell (p := ⟨V, 0, none⟩) hbigV.out (.int .i64 4)).setCell (p := ⟨V, 1, none⟩) hbigV.out (.int .i64 1)).setCell (p := ⟨V, 2, none⟩) hbigV.out (.string ⟨#[]⟩)
  clear hX hY hZ hV hXl hYl hZl hVl
  have hV := hz
  have hX := qX
  have hY := qY
  have hZ := qZ
  clear hz qX qY qZ
  generalize (((wv.setCell ⟨V, 0, none⟩ (.int .i64 4)).setCell ⟨V, 1, none⟩ (.int .i64 1)).setCell ⟨V, 2, none⟩ (.string ⟨#[]⟩)) = wv at *
  have hXl : P < wv.heap.size := (Array.getElem?_eq_some_iff.1 hX).1
  have hYl : P + 1 < wv.heap.size := (Array.getElem?_eq_some_iff.1 hY).1
  have hZl : P + 1 + 1 < wv.heap.size := (Array.getElem?_eq_some_iff.1 hZ).1
  have hVl : V < wv.heap.size := (Array.getElem?_eq_some_iff.1 hV).1
  refine pt_nil ?_
  go_wp2_with fail
  refine wp_region_tree [7] (.free 0 (.free 2 (.alt 1 (.alt 3 (.alt 4 (.alt 5 (.eff 6 (.last 7 (.nil))) 6 (.eff 5 (.last 7 (.nil)))) 6 (.eff 4 (.eff 5 (.last 7 (.nil))))) 6 (.eff 3 (.eff 4 (.eff 5 (.last 7 (.nil)))))) 6 (.eff 1 (.eff 3 (.eff 4 (.eff 5 (.last 7 (.nil))))))))) (by kernel_rfl) (by kernel_rfl) (fun _ _ d _ _ h => by cases d <;> exact h) ?_
  have hbw := hbw.drew
  have hX : wv.drew.heap[P]? = _ := hX
  have hY : wv.drew.heap[P + 1]? = _ := hY
  have hZ : wv.drew.heap[P + 1 + 1]? = _ := hZ
  have hV : wv.drew.heap[V]? = _ := hV
  clear hXl hYl hZl hVl
  generalize wv.drew = wv at *
  have hXl : P < wv.heap.size := (Array.getElem?_eq_some_iff.1 hX).1
  have hYl : P + 1 < wv.heap.size := (Array.getElem?_eq_some_iff.1 hY).1
  have hZl : P + 1 + 1 < wv.heap.size := (Array.getElem?_eq_some_iff.1 hZ).1
  have hVl : V < wv.heap.size := (Array.getElem?_eq_some_iff.1 hV).1
  conv => arg 4; whnf
  conv => arg 4; arg 1; whnf
  refine pt_loadB (k := P) (fun W h => load_val _ W _ _ _ (h.trans hX)) hXl (by rfl) rfl rfl ?_
  simp only [Act.put, List.setIfInBounds_toArray, List.set_cons_zero, List.set_cons_succ]
  conv => arg 4; whnf
  conv => arg 4; arg 1; whnf
  refine pt_loadB (k := P + 1) (fun W h => load_val _ W _ _ _ (h.trans hY)) hYl (by rfl) rfl rfl ?_
  simp only [Act.put, List.setIfInBounds_toArray, List.set_cons_zero, List.set_cons_succ]
  conv => arg 4; whnf
  refine pt_alt ?_ ?_
  conv => arg 4; whnf
  conv => arg 4; arg 1; whnf
  refine pt_eff (by rfl) (fun K hK => ?_)
  go_wp2_with fail
  refine (lone_any _ 2 0 ⟨#[116]⟩).mono ?_
  rintro en wn ⟨e1, rfl, hbn, hnew⟩
  refine hK _ _ hbn ?_
  clear hK K
  have hbw := hbw.trans (hbn.mono hbw.size)
  have hX := (hbn.block _ hXl).trans hX
  have hY := (hbn.block _ hYl).trans hY
  have hZ := (hbn.block _ hZl).trans hZ
  have hV := (hbn.block _ hVl).trans hV
  clear hXl hYl hZl hVl hbn
  generalize wn = wv at *
  have hXl : P < wv.heap.size := (Array.getElem?_eq_some_iff.1 hX).1
  have hYl : P + 1 < wv.heap.size := (Array.getElem?_eq_some_iff.1 hY).1
  have hZl : P + 1 + 1 < wv.heap.size := (Array.getElem?_eq_some_iff.1 hZ).1
  have hVl : V < wv.heap.size := (Array.getElem?_eq_some_iff.1 hV).1
  have ha1 := hnew
  clear hnew
  conv => arg 4; whnf
  refine pt_alt ?_ ?_
  conv => arg 4; whnf
  conv => arg 4; arg 1; whnf
  refine pt_eff (by rfl) (fun K hK => ?_)
  go_wp2_with fail
  refine (lone_any _ ky ny sy).mono ?_
  rintro en wn ⟨e2, rfl, hbn, hnew⟩
  refine hK _ _ hbn ?_
  clear hK K
  have hbw := hbw.trans (hbn.mono hbw.size)
  have hX := (hbn.block _ hXl).trans hX
  have hY := (hbn.block _ hYl).trans hY
  have hZ := (hbn.block _ hZl).trans hZ
  have hV := (hbn.block _ hVl).trans hV
  have ha1 := ha1.below hbn
  clear hXl hYl hZl hVl hbn
  generalize wn = wv at *
  have hXl : P < wv.heap.size := (Array.getElem?_eq_some_iff.1 hX).1
  have hYl : P + 1 < wv.heap.size := (Array.getElem?_eq_some_iff.1 hY).1
  have hZl : P + 1 + 1 < wv.heap.size := (Array.getElem?_eq_some_iff.1 hZ).1
  have hVl : V < wv.heap.size := (Array.getElem?_eq_some_iff.1 hV).1
  have ha2 := hnew
  clear hnew
  conv => arg 4; whnf
  refine pt_alt ?_ ?_
  conv => arg 4; whnf
  conv => arg 4; arg 1; whnf
  refine pt_eff (by rfl) (fun K hK => ?_)
  go_wp2_with fail
  refine hK _ _ ((Below.refl _ _).alloc (Nat.le_refl _) _) ?_
  clear hK K
  have hbn : Below wv.heap.size wv (wv.alloc (.cells #[.bool false, .int .i64 0, .slice (some ⟨e1, 0, none⟩) 1 1, .bool false, .int .i64 0, .slice (some ⟨e2, 0, none⟩) 1 1] 27)) := (Below.refl _ _).alloc (Nat.le_refl _) _
  obtain ⟨G, hG⟩ : ∃ G, G = wv.heap.size := ⟨_, rfl⟩
  have hGo := heap_alloc_new wv (.cells #[.bool false, .int .i64 0, .slice (some ⟨e1, 0, none⟩) 1 1, .bool false, .int .i64 0, .slice (some ⟨e2, 0, none⟩) 1 1] 27)
  rw [← hG] at hGo ⊢
  clear hG
  have hAA : AtA (wv.alloc (.cells #[.bool false, .int .i64 0, .slice (some ⟨e1, 0, none⟩) 1 1, .bool false, .int .i64 0, .slice (some ⟨e2, 0, none⟩) 1 1] 27)) (some ⟨G, 0, none⟩) [oneArg (some ⟨e1, 0, none⟩) (2, 0, ⟨#[116]⟩), oneArg (some ⟨e2, 0, none⟩) (ky, ny, sy)] := atA_lit (by simp) hGo rfl (fun a ha => by
    simp only [List.mem_cons, List.not_mem_nil, or_false] at ha
    rcases ha with rfl | rfl
    · exact ha1.below hbn
    · exact ha2.below hbn)
  clear hGo ha1 ha2
  obtain ⟨wn, hwn⟩ : ∃ wn, wn = wv.alloc (.cells #[.bool false, .int .i64 0, .slice (some ⟨e1, 0, none⟩) 1 1, .bool false, .int .i64 0, .slice (some ⟨e2, 0, none⟩) 1 1] 27) := ⟨_, rfl⟩
  rw [← hwn] at hbn hAA ⊢
  clear hwn
  have hbw := hbw.trans (hbn.mono hbw.size)
  have hX := (hbn.block _ hXl).trans hX
  have hY := (hbn.block _ hYl).trans hY
  have hZ := (hbn.block _ hZl).trans hZ
  have hV := (hbn.block _ hVl).trans hV
  clear hXl hYl hZl hVl hbn
  generalize wn = wv at *
  have hXl : P < wv.heap.size := (Array.getElem?_eq_some_iff.1 hX).1
  have hYl : P + 1 < wv.heap.size := (Array.getElem?_eq_some_iff.1 hY).1
  have hZl : P + 1 + 1 < wv.heap.size := (Array.getElem?_eq_some_iff.1 hZ).1
  have hVl : V < wv.heap.size := (Array.getElem?_eq_some_iff.1 hV).1
  conv => arg 4; whnf
  refine pt_alt ?_ ?_
  conv => arg 4; whnf
  conv => arg 4; arg 1; whnf
  refine pt_eff (by rfl) (fun K hK => ?_)
  go_wp2_with fail
  refine (C2.out _ _ _ _ _ hAA).mono ?_
  rintro en wn ⟨rfl, hbn⟩
  refine hK _ _ hbn ?_
  clear hK K
  clear hAA
  have hbw := hbw.trans (hbn.mono hbw.size)
  have hX := (hbn.block _ hXl).trans hX
  have hY := (hbn.block _ hYl).trans hY
  have hZ := (hbn.block _ hZl).trans hZ
  have hV := (hbn.block _ hVl).trans hV
  clear hXl hYl hZl hVl hbn
  generalize wn = wv at *
  have hXl : P < wv.heap.size := (Array.getElem?_eq_some_iff.1 hX).1
  have hYl : P + 1 < wv.heap.size := (Array.getElem?_eq_some_iff.1 hY).1
  have hZl : P + 1 + 1 < wv.heap.size := (Array.getElem?_eq_some_iff.1 hZ).1
  have hVl : V < wv.heap.size := (Array.getElem?_eq_some_iff.1 hV).1
  conv => arg 4; whnf
  conv => arg 4; arg 1; whnf
  refine pt_eff (by rfl) (fun K hK => ?_)
  go_wp2_with fail
  refine hK _ _ ((Below.refl _ _).alloc (Nat.le_refl _) _) ?_
  clear hK K
  have hbn : Below wv.heap.size wv (wv.alloc (.cells #[.int .i64 0, .int .i64 0, .string ⟨#[]⟩] 31)) := (Below.refl _ _).alloc (Nat.le_refl _) _
  obtain ⟨U, hG⟩ : ∃ G, G = wv.heap.size := ⟨_, rfl⟩
  have hnew := heap_alloc_new wv (.cells #[.int .i64 0, .int .i64 0, .string ⟨#[]⟩] 31)
  have hfarU := Lib.hid (show P + 1 + 1 < U by omega)
  have hfarUV := Lib.hid (show V < U by omega)
  have hbigU := Lib.hid (show w.heap.size ≤ U by have := hbw.size; omega)
  rw [← hG] at hnew ⊢
  clear hG
  obtain ⟨wn, hwn⟩ : ∃ wn, wn = wv.alloc (.cells #[.int .i64 0, .int .i64 0, .string ⟨#[]⟩] 31) := ⟨_, rfl⟩
  rw [← hwn] at hbn hnew ⊢
  clear hwn
  have hbw := hbw.trans (hbn.mono hbw.size)
  have hX := (hbn.block _ hXl).trans hX
  have hY := (hbn.block _ hYl).trans hY
  have hZ := (hbn.block _ hZl).trans hZ
  have hV := (hbn.block _ hVl).trans hV
  clear hXl hYl hZl hVl hbn
  generalize wn = wv at *
  have hXl : P < wv.heap.size := (Array.getElem?_eq_some_iff.1 hX).1
  have hYl : P + 1 < wv.heap.size := (Array.getElem?_eq_some_iff.1 hY).1
  have hZl : P + 1 + 1 < wv.heap.size := (Array.getElem?_eq_some_iff.1 hZ).1
  have hVl : V < wv.heap.size := (Array.getElem?_eq_some_iff.1 hV).1
  have hU := hnew
  clear hnew
  have hUl : U < wv.heap.size := (Array.getElem?_eq_some_iff.1 hU).1
  obtain ⟨r0, r1, r2, z0, z1, z2⟩ := val3 hU
  conv => arg 4; whnf
  conv => arg 4; arg 1; whnf
  refine pt_last (by rfl) (fun K hK => ?_)
  go_wp2_with fail
  clear r0 r1 r2 z0 z1 z2
  have hz := val_store (x := .int .i64 4) (y := .int .i64 1) (z := .string ⟨#[]⟩) hU
  have qX := blk3JBad (x := .int .i64 4) (y := .int .i64 1) (z := .string ⟨#[]⟩) (show P ≠ U by have := hfarU.out; omega) hX
  have qY := blk3JBad (x := .int .i64 4) (y := .int .i64 1) (z := .string ⟨#[]⟩) (show P + 1 ≠ U by have := hfarU.out; omega) hY
  have qZ := blk3JBad (x := .int .i64 4) (y := .int .i64 1) (z := .string ⟨#[]⟩) (show P + 1 + 1 ≠ U by have := hfarU.out; omega) hZ
  have qV := blk3JBad (x := .int .i64 4) (y := .int .i64 1) (z := .string ⟨#[]⟩) (show V ≠ U by have := hfarUV.out; omega) hV
  have hbw := ((hbw.setCell (p := ⟨U, 0, none⟩) hbigU.out (.int .i64 4)).setCell (p := ⟨U, 1, none⟩) hbigU.out (.int .i64 1)).setCell (p := ⟨U, 2, none⟩) hbigU.out (.string ⟨#[]⟩)
  clear hX hY hZ hV hU hXl hYl hZl hVl hUl
  have hU := hz
  have hX := qX
  have hY := qY
  have hZ := qZ
  have hV := qV
  clear hz qX qY qZ qV
  generalize (((wv.setCell ⟨U, 0, none⟩ (.int .i64 4)).setCell ⟨U, 1, none⟩ (.int .i64 1)).setCell ⟨U, 2, none⟩ (.string ⟨#[]⟩)) = wv at *
  have hXl : P < wv.heap.size := (Array.getElem?_eq_some_iff.1 hX).1
  have hYl : P + 1 < wv.heap.size := (Array.getElem?_eq_some_iff.1 hY).1
  have hZl : P + 1 + 1 < wv.heap.size := (Array.getElem?_eq_some_iff.1 hZ).1
  have hVl : V < wv.heap.size := (Array.getElem?_eq_some_iff.1 hV).1
  have hUl : U < wv.heap.size := (Array.getElem?_eq_some_iff.1 hU).1
  refine pt_nil ?_
  obtain ⟨x0, x1, x2, _⟩ := val3 hX
  obtain ⟨y0, y1, y2, _⟩ := val3 hY
  obtain ⟨z0, z1, z2, _⟩ := val3 hZ
  obtain ⟨v0, v1, v2, _⟩ := val3 hV
  obtain ⟨u0, u1, u2, _⟩ := val3 hU
  clear hX hY hZ hV hU hXl hYl hZl hVl hUl
  go_wp2_with fail
  refine (awake8 _).mono ?_
  rintro en wn ⟨rfl, hbn⟩
  clear x0 x1 x2 y0 y1 y2 z0 z1 z2 v0 v1 v2 u0 u1 u2
  go_wp2
  go_ret
  exact ⟨rfl, hbw.trans (hbn.mono hbw.size)⟩
  conv => arg 4; whnf
  conv => arg 4; arg 1; whnf
  refine pt_eff (by rfl) (fun K hK => ?_)
  go_wp2_with fail
  refine hK _ _ ((Below.refl _ _).alloc (Nat.le_refl _) _) ?_
  clear hK K
  have hbn : Below wv.heap.size wv (wv.alloc (.cells #[.int .i64 0, .int .i64 0, .string ⟨#[]⟩] 31)) := (Below.refl _ _).alloc (Nat.le_refl _) _
  obtain ⟨U, hG⟩ : ∃ G, G = wv.heap.size := ⟨_, rfl⟩
  have hnew := heap_alloc_new wv (.cells #[.int .i64 0, .int .i64 0, .string ⟨#[]⟩] 31)
  have hfarU := Lib.hid (show P + 1 + 1 < U by omega)
  have hfarUV := Lib.hid (show V < U by omega)
  have hbigU := Lib.hid (show w.heap.size ≤ U by have := hbw.size; omega)
  rw [← hG] at hnew ⊢
  clear hG
  obtain ⟨wn, hwn⟩ : ∃ wn, wn = wv.alloc (.cells #[.int .i64 0, .int .i64 0, .string ⟨#[]⟩] 31) := ⟨_, rfl⟩
  rw [← hwn] at hbn hnew ⊢
  clear hwn
  have hbw := hbw.trans (hbn.mono hbw.size)
  have hX := (hbn.block _ hXl).trans hX
  have hY := (hbn.block _ hYl).trans hY
  have hZ := (hbn.block _ hZl).trans hZ
  have hV := (hbn.block _ hVl).trans hV
  have hAA := hAA.below hbn
  clear hXl hYl hZl hVl hbn
  generalize wn = wv at *
  have hXl : P < wv.heap.size := (Array.getElem?_eq_some_iff.1 hX).1
  have hYl : P + 1 < wv.heap.size := (Array.getElem?_eq_some_iff.1 hY).1
  have hZl : P + 1 + 1 < wv.heap.size := (Array.getElem?_eq_some_iff.1 hZ).1
  have hVl : V < wv.heap.size := (Array.getElem?_eq_some_iff.1 hV).1
  have hU := hnew
  clear hnew
  have hUl : U < wv.heap.size := (Array.getElem?_eq_some_iff.1 hU).1
  conv => arg 4; whnf
  conv => arg 4; arg 1; whnf
  refine pt_eff (by rfl) (fun K hK => ?_)
  go_wp2_with fail
  refine (C2.out _ _ _ _ _ hAA).mono ?_
  rintro en wn ⟨rfl, hbn⟩
  refine hK _ _ hbn ?_
  clear hK K
  clear hAA
  have hbw := hbw.trans (hbn.mono hbw.size)
  have hX := (hbn.block _ hXl).trans hX
  have hY := (hbn.block _ hYl).trans hY
  have hZ := (hbn.block _ hZl).trans hZ
  have hV := (hbn.block _ hVl).trans hV
  have hU := (hbn.block _ hUl).trans hU
  clear hXl hYl hZl hVl hUl hbn
  generalize wn = wv at *
  have hXl : P < wv.heap.size := (Array.getElem?_eq_some_iff.1 hX).1
  have hYl : P + 1 < wv.heap.size := (Array.getElem?_eq_some_iff.1 hY).1
  have hZl : P + 1 + 1 < wv.heap.size := (Array.getElem?_eq_some_iff.1 hZ).1
  have hVl : V < wv.heap.size := (Array.getElem?_eq_some_iff.1 hV).1
  have hUl : U < wv.heap.size := (Array.getElem?_eq_some_iff.1 hU).1
  obtain ⟨r0, r1, r2, z0, z1, z2⟩ := val3 hU
  conv => arg 4; whnf
  conv => arg 4; arg 1; whnf
  refine pt_last (by rfl) (fun K hK => ?_)
  go_wp2_with fail
  clear r0 r1 r2 z0 z1 z2
  have hz := val_store (x := .int .i64 4) (y := .int .i64 1) (z := .string ⟨#[]⟩) hU
  have qX := blk3JBad (x := .int .i64 4) (y := .int .i64 1) (z := .string ⟨#[]⟩) (show P ≠ U by have := hfarU.out; omega) hX
  have qY := blk3JBad (x := .int .i64 4) (y := .int .i64 1) (z := .string ⟨#[]⟩) (show P + 1 ≠ U by have := hfarU.out; omega) hY
  have qZ := blk3JBad (x := .int .i64 4) (y := .int .i64 1) (z := .string ⟨#[]⟩) (show P + 1 + 1 ≠ U by have := hfarU.out; omega) hZ
  have qV := blk3JBad (x := .int .i64 4) (y := .int .i64 1) (z := .string ⟨#[]⟩) (show V ≠ U by have := hfarUV.out; omega) hV
  have hbw := ((hbw.setCell (p := ⟨U, 0, none⟩) hbigU.out (.int .i64 4)).setCell (p := ⟨U, 1, none⟩) hbigU.out (.int .i64 1)).setCell (p := ⟨U, 2, none⟩) hbigU.out (.string ⟨#[]⟩)
  clear hX hY hZ hV hU hXl hYl hZl hVl hUl
  have hU := hz
  have hX := qX
  have hY := qY
  have hZ := qZ
  have hV := qV
  clear hz qX qY qZ qV
  generalize (((wv.setCell ⟨U, 0, none⟩ (.int .i64 4)).setCell ⟨U, 1, none⟩ (.int .i64 1)).setCell ⟨U, 2, none⟩ (.string ⟨#[]⟩)) = wv at *
  have hXl : P < wv.heap.size := (Array.getElem?_eq_some_iff.1 hX).1
  have hYl : P + 1 < wv.heap.size := (Array.getElem?_eq_some_iff.1 hY).1
  have hZl : P + 1 + 1 < wv.heap.size := (Array.getElem?_eq_some_iff.1 hZ).1
  have hVl : V < wv.heap.size := (Array.getElem?_eq_some_iff.1 hV).1
  have hUl : U < wv.heap.size := (Array.getElem?_eq_some_iff.1 hU).1
  refine pt_nil ?_
  obtain ⟨x0, x1, x2, _⟩ := val3 hX
  obtain ⟨y0, y1, y2, _⟩ := val3 hY
  obtain ⟨z0, z1, z2, _⟩ := val3 hZ
  obtain ⟨v0, v1, v2, _⟩ := val3 hV
  obtain ⟨u0, u1, u2, _⟩ := val3 hU
  clear hX hY hZ hV hU hXl hYl hZl hVl hUl
  go_wp2_with fail
  refine (awake8 _).mono ?_
  rintro en wn ⟨rfl, hbn⟩
  clear x0 x1 x2 y0 y1 y2 z0 z1 z2 v0 v1 v2 u0 u1 u2
  go_wp2
  go_ret
  exact ⟨rfl, hbw.trans (hbn.mono hbw.size)⟩
  conv => arg 4; whnf
  conv => arg 4; arg 1; whnf
  refine pt_eff (by rfl) (fun K hK => ?_)
  go_wp2_with fail
  refine hK _ _ ((Below.refl _ _).alloc (Nat.le_refl _) _) ?_
  clear hK K
  have hbn : Below wv.heap.size wv (wv.alloc (.cells #[.int .i64 0, .int .i64 0, .string ⟨#[]⟩] 31)) := (Below.refl _ _).alloc (Nat.le_refl _) _
  obtain ⟨U, hG⟩ : ∃ G, G = wv.heap.size := ⟨_, rfl⟩
  have hnew := heap_alloc_new wv (.cells #[.int .i64 0, .int .i64 0, .string ⟨#[]⟩] 31)
  have hfarU := Lib.hid (show P + 1 + 1 < U by omega)
  have hfarUV := Lib.hid (show V < U by omega)
  have hbigU := Lib.hid (show w.heap.size ≤ U by have := hbw.size; omega)
  rw [← hG] at hnew ⊢
  clear hG
  obtain ⟨wn, hwn⟩ : ∃ wn, wn = wv.alloc (.cells #[.int .i64 0, .int .i64 0, .string ⟨#[]⟩] 31) := ⟨_, rfl⟩
  rw [← hwn] at hbn hnew ⊢
  clear hwn
  have hbw := hbw.trans (hbn.mono hbw.size)
  have hX := (hbn.block _ hXl).trans hX
  have hY := (hbn.block _ hYl).trans hY
  have hZ := (hbn.block _ hZl).trans hZ
  have hV := (hbn.block _ hVl).trans hV
  have ha1 := ha1.below hbn
  have ha2 := ha2.below hbn
  clear hXl hYl hZl hVl hbn
  generalize wn = wv at *
  have hXl : P < wv.heap.size := (Array.getElem?_eq_some_iff.1 hX).1
  have hYl : P + 1 < wv.heap.size := (Array.getElem?_eq_some_iff.1 hY).1
  have hZl : P + 1 + 1 < wv.heap.size := (Array.getElem?_eq_some_iff.1 hZ).1
  have hVl : V < wv.heap.size := (Array.getElem?_eq_some_iff.1 hV).1
  have hU := hnew
  clear hnew
  have hUl : U < wv.heap.size := (Array.getElem?_eq_some_iff.1 hU).1
  conv => arg 4; whnf
  conv => arg 4; arg 1; whnf
  refine pt_eff (by rfl) (fun K hK => ?_)
  go_wp2_with fail
  refine hK _ _ ((Below.refl _ _).alloc (Nat.le_refl _) _) ?_
  clear hK K
  have hbn : Below wv.heap.size wv (wv.alloc (.cells #[.bool false, .int .i64 0, .slice (some ⟨e1, 0, none⟩) 1 1, .bool false, .int .i64 0, .slice (some ⟨e2, 0, none⟩) 1 1] 27)) := (Below.refl _ _).alloc (Nat.le_refl _) _
  obtain ⟨G, hG⟩ : ∃ G, G = wv.heap.size := ⟨_, rfl⟩
  have hGo := heap_alloc_new wv (.cells #[.bool false, .int .i64 0, .slice (some ⟨e1, 0, none⟩) 1 1, .bool false, .int .i64 0, .slice (some ⟨e2, 0, none⟩) 1 1] 27)
  rw [← hG] at hGo ⊢
  clear hG
  have hAA : AtA (wv.alloc (.cells #[.bool false, .int .i64 0, .slice (some ⟨e1, 0, none⟩) 1 1, .bool false, .int .i64 0, .slice (some ⟨e2, 0, none⟩) 1 1] 27)) (some ⟨G, 0, none⟩) [oneArg (some ⟨e1, 0, none⟩) (2, 0, ⟨#[116]⟩), oneArg (some ⟨e2, 0, none⟩) (ky, ny, sy)] := atA_lit (by simp) hGo rfl (fun a ha => by
    simp only [List.mem_cons, List.not_mem_nil, or_false] at ha
    rcases ha with rfl | rfl
    · exact ha1.below hbn
    · exact ha2.below hbn)
  clear hGo ha1 ha2
  obtain ⟨wn, hwn⟩ : ∃ wn, wn = wv.alloc (.cells #[.bool false, .int .i64 0, .slice (some ⟨e1, 0, none⟩) 1 1, .bool false, .int .i64 0, .slice (some ⟨e2, 0, none⟩) 1 1] 27) := ⟨_, rfl⟩
  rw [← hwn] at hbn hAA ⊢
  clear hwn
  have hbw := hbw.trans (hbn.mono hbw.size)
  have hX := (hbn.block _ hXl).trans hX
  have hY := (hbn.block _ hYl).trans hY
  have hZ := (hbn.block _ hZl).trans hZ
  have hV := (hbn.block _ hVl).trans hV
  have hU := (hbn.block _ hUl).trans hU
  clear hXl hYl hZl hVl hUl hbn
  generalize wn = wv at *
  have hXl : P < wv.heap.size := (Array.getElem?_eq_some_iff.1 hX).1
  have hYl : P + 1 < wv.heap.size := (Array.getElem?_eq_some_iff.1 hY).1
  have hZl : P + 1 + 1 < wv.heap.size := (Array.getElem?_eq_some_iff.1 hZ).1
  have hVl : V < wv.heap.size := (Array.getElem?_eq_some_iff.1 hV).1
  have hUl : U < wv.heap.size := (Array.getElem?_eq_some_iff.1 hU).1
  conv => arg 4; whnf
  conv => arg 4; arg 1; whnf
  refine pt_eff (by rfl) (fun K hK => ?_)
  go_wp2_with fail
  refine (C2.out _ _ _ _ _ hAA).mono ?_
  rintro en wn ⟨rfl, hbn⟩
  refine hK _ _ hbn ?_
  clear hK K
  clear hAA
  have hbw := hbw.trans (hbn.mono hbw.size)
  have hX := (hbn.block _ hXl).trans hX
  have hY := (hbn.block _ hYl).trans hY
  have hZ := (hbn.block _ hZl).trans hZ
  have hV := (hbn.block _ hVl).trans hV
  have hU := (hbn.block _ hUl).trans hU
  clear hXl hYl hZl hVl hUl hbn
  generalize wn = wv at *
  have hXl : P < wv.heap.size := (Array.getElem?_eq_some_iff.1 hX).1
  have hYl : P + 1 < wv.heap.size := (Array.getElem?_eq_some_iff.1 hY).1
  have hZl : P + 1 + 1 < wv.heap.size := (Array.getElem?_eq_some_iff.1 hZ).1
  have hVl : V < wv.heap.size := (Array.getElem?_eq_some_iff.1 hV).1
  have hUl : U < wv.heap.size := (Array.getElem?_eq_some_iff.1 hU).1
  obtain ⟨r0, r1, r2, z0, z1, z2⟩ := val3 hU
  conv => arg 4; whnf
  conv => arg 4; arg 1; whnf
  refine pt_last (by rfl) (fun K hK => ?_)
  go_wp2_with fail
  clear r0 r1 r2 z0 z1 z2
  have hz := val_store (x := .int .i64 4) (y := .int .i64 1) (z := .string ⟨#[]⟩) hU
  have qX := blk3JBad (x := .int .i64 4) (y := .int .i64 1) (z := .string ⟨#[]⟩) (show P ≠ U by have := hfarU.out; omega) hX
  have qY := blk3JBad (x := .int .i64 4) (y := .int .i64 1) (z := .string ⟨#[]⟩) (show P + 1 ≠ U by have := hfarU.out; omega) hY
  have qZ := blk3JBad (x := .int .i64 4) (y := .int .i64 1) (z := .string ⟨#[]⟩) (show P + 1 + 1 ≠ U by have := hfarU.out; omega) hZ
  have qV := blk3JBad (x := .int .i64 4) (y := .int .i64 1) (z := .string ⟨#[]⟩) (show V ≠ U by have := hfarUV.out; omega) hV
  have hbw := ((hbw.setCell (p := ⟨U, 0, none⟩) hbigU.out (.int .i64 4)).setCell (p := ⟨U, 1, none⟩) hbigU.out (.int .i64 1)).setCell (p := ⟨U, 2, none⟩) hbigU.out (.string ⟨#[]⟩)
  clear hX hY hZ hV hU hXl hYl hZl hVl hUl
  have hU := hz
  have hX := qX
  have hY := qY
  have hZ := qZ
  have hV := qV
  clear hz qX qY qZ qV
  generalize (((wv.setCell ⟨U, 0, none⟩ (.int .i64 4)).setCell ⟨U, 1, none⟩ (.int .i64 1)).setCell ⟨U, 2, none⟩ (.string ⟨#[]⟩)) = wv at *
  have hXl : P < wv.heap.size := (Array.getElem?_eq_some_iff.1 hX).1
  have hYl : P + 1 < wv.heap.size := (Array.getElem?_eq_some_iff.1 hY).1
  have hZl : P + 1 + 1 < wv.heap.size := (Array.getElem?_eq_some_iff.1 hZ).1
  have hVl : V < wv.heap.size := (Array.getElem?_eq_some_iff.1 hV).1
  have hUl : U < wv.heap.size := (Array.getElem?_eq_some_iff.1 hU).1
  refine pt_nil ?_
  obtain ⟨x0, x1, x2, _⟩ := val3 hX
  obtain ⟨y0, y1, y2, _⟩ := val3 hY
  obtain ⟨z0, z1, z2, _⟩ := val3 hZ
  obtain ⟨v0, v1, v2, _⟩ := val3 hV
  obtain ⟨u0, u1, u2, _⟩ := val3 hU
  clear hX hY hZ hV hU hXl hYl hZl hVl hUl
  go_wp2_with fail
  refine (awake8 _).mono ?_
  rintro en wn ⟨rfl, hbn⟩
  clear x0 x1 x2 y0 y1 y2 z0 z1 z2 v0 v1 v2 u0 u1 u2
  go_wp2
  go_ret
  exact ⟨rfl, hbw.trans (hbn.mono hbw.size)⟩
  conv => arg 4; whnf
  conv => arg 4; arg 1; whnf
  refine pt_eff (by rfl) (fun K hK => ?_)
  go_wp2_with fail
  refine hK _ _ ((Below.refl _ _).alloc (Nat.le_refl _) _) ?_
  clear hK K
  have hbn : Below wv.heap.size wv (wv.alloc (.cells #[.int .i64 0, .int .i64 0, .string ⟨#[]⟩] 31)) := (Below.refl _ _).alloc (Nat.le_refl _) _
  obtain ⟨U, hG⟩ : ∃ G, G = wv.heap.size := ⟨_, rfl⟩
  have hnew := heap_alloc_new wv (.cells #[.int .i64 0, .int .i64 0, .string ⟨#[]⟩] 31)
  have hfarU := Lib.hid (show P + 1 + 1 < U by omega)
  have hfarUV := Lib.hid (show V < U by omega)
  have hbigU := Lib.hid (show w.heap.size ≤ U by have := hbw.size; omega)
  rw [← hG] at hnew ⊢
  clear hG
  obtain ⟨wn, hwn⟩ : ∃ wn, wn = wv.alloc (.cells #[.int .i64 0, .int .i64 0, .string ⟨#[]⟩] 31) := ⟨_, rfl⟩
  rw [← hwn] at hbn hnew ⊢
  clear hwn
  have hbw := hbw.trans (hbn.mono hbw.size)
  have hX := (hbn.block _ hXl).trans hX
  have hY := (hbn.block _ hYl).trans hY
  have hZ := (hbn.block _ hZl).trans hZ
  have hV := (hbn.block _ hVl).trans hV
  have ha1 := ha1.below hbn
  clear hXl hYl hZl hVl hbn
  generalize wn = wv at *
  have hXl : P < wv.heap.size := (Array.getElem?_eq_some_iff.1 hX).1
  have hYl : P + 1 < wv.heap.size := (Array.getElem?_eq_some_iff.1 hY).1
  have hZl : P + 1 + 1 < wv.heap.size := (Array.getElem?_eq_some_iff.1 hZ).1
  have hVl : V < wv.heap.size := (Array.getElem?_eq_some_iff.1 hV).1
  have hU := hnew
  clear hnew
  have hUl : U < wv.heap.size := (Array.getElem?_eq_some_iff.1 hU).1
  conv => arg 4; whnf
  conv => arg 4; arg 1; whnf
  refine pt_eff (by rfl) (fun K hK => ?_)
  go_wp2_with fail
  refine (lone_any _ ky ny sy).mono ?_
  rintro en wn ⟨e2, rfl, hbn, hnew⟩
  refine hK _ _ hbn ?_
  clear hK K
  have hbw := hbw.trans (hbn.mono hbw.size)
  have hX := (hbn.block _ hXl).trans hX
  have hY := (hbn.block _ hYl).trans hY
  have hZ := (hbn.block _ hZl).trans hZ
  have hV := (hbn.block _ hVl).trans hV
  have hU := (hbn.block _ hUl).trans hU
  have ha1 := ha1.below hbn
  clear hXl hYl hZl hVl hUl hbn
  generalize wn = wv at *
  have hXl : P < wv.heap.size := (Array.getElem?_eq_some_iff.1 hX).1
  have hYl : P + 1 < wv.heap.size := (Array.getElem?_eq_some_iff.1 hY).1
  have hZl : P + 1 + 1 < wv.heap.size := (Array.getElem?_eq_some_iff.1 hZ).1
  have hVl : V < wv.heap.size := (Array.getElem?_eq_some_iff.1 hV).1
  have hUl : U < wv.heap.size := (Array.getElem?_eq_some_iff.1 hU).1
  have ha2 := hnew
  clear hnew
  conv => arg 4; whnf
  conv => arg 4; arg 1; whnf
  refine pt_eff (by rfl) (fun K hK => ?_)
  go_wp2_with fail
  refine hK _ _ ((Below.refl _ _).alloc (Nat.le_refl _) _) ?_
  clear hK K
  have hbn : Below wv.heap.size wv (wv.alloc (.cells #[.bool false, .int .i64 0, .slice (some ⟨e1, 0, none⟩) 1 1, .bool false, .int .i64 0, .slice (some ⟨e2, 0, none⟩) 1 1] 27)) := (Below.refl _ _).alloc (Nat.le_refl _) _
  obtain ⟨G, hG⟩ : ∃ G, G = wv.heap.size := ⟨_, rfl⟩
  have hGo := heap_alloc_new wv (.cells #[.bool false, .int .i64 0, .slice (some ⟨e1, 0, none⟩) 1 1, .bool false, .int .i64 0, .slice (some ⟨e2, 0, none⟩) 1 1] 27)
  rw [← hG] at hGo ⊢
  clear hG
  have hAA : AtA (wv.alloc (.cells #[.bool false, .int .i64 0, .slice (some ⟨e1, 0, none⟩) 1 1, .bool false, .int .i64 0, .slice (some ⟨e2, 0, none⟩) 1 1] 27)) (some ⟨G, 0, none⟩) [oneArg (some ⟨e1, 0, none⟩) (2, 0, ⟨#[116]⟩), oneArg (some ⟨e2, 0, none⟩) (ky, ny, sy)] := atA_lit (by simp) hGo rfl (fun a ha => by
    simp only [List.mem_cons, List.not_mem_nil, or_false] at ha
    rcases ha with rfl | rfl
    · exact ha1.below hbn
    · exact ha2.below hbn)
  clear hGo ha1 ha2
  obtain ⟨wn, hwn⟩ : ∃ wn, wn = wv.alloc (.cells #[.bool false, .int .i64 0, .slice (some ⟨e1, 0, none⟩) 1 1, .bool false, .int .i64 0, .slice (some ⟨e2, 0, none⟩) 1 1] 27) := ⟨_, rfl⟩
  rw [← hwn] at hbn hAA ⊢
  clear hwn
  have hbw := hbw.trans (hbn.mono hbw.size)
  have hX := (hbn.block _ hXl).trans hX
  have hY := (hbn.block _ hYl).trans hY
  have hZ := (hbn.block _ hZl).trans hZ
  have hV := (hbn.block _ hVl).trans hV
  have hU := (hbn.block _ hUl).trans hU
  clear hXl hYl hZl hVl hUl hbn
  generalize wn = wv at *
  have hXl : P < wv.heap.size := (Array.getElem?_eq_some_iff.1 hX).1
  have hYl : P + 1 < wv.heap.size := (Array.getElem?_eq_some_iff.1 hY).1
  have hZl : P + 1 + 1 < wv.heap.size := (Array.getElem?_eq_some_iff.1 hZ).1
  have hVl : V < wv.heap.size := (Array.getElem?_eq_some_iff.1 hV).1
  have hUl : U < wv.heap.size := (Array.getElem?_eq_some_iff.1 hU).1
  conv => arg 4; whnf
  conv => arg 4; arg 1; whnf
  refine pt_eff (by rfl) (fun K hK => ?_)
  go_wp2_with fail
  refine (C2.out _ _ _ _ _ hAA).mono ?_
  rintro en wn ⟨rfl, hbn⟩
  refine hK _ _ hbn ?_
  clear hK K
  clear hAA
  have hbw := hbw.trans (hbn.mono hbw.size)
  have hX := (hbn.block _ hXl).trans hX
  have hY := (hbn.block _ hYl).trans hY
  have hZ := (hbn.block _ hZl).trans hZ
  have hV := (hbn.block _ hVl).trans hV
  have hU := (hbn.block _ hUl).trans hU
  clear hXl hYl hZl hVl hUl hbn
  generalize wn = wv at *
  have hXl : P < wv.heap.size := (Array.getElem?_eq_some_iff.1 hX).1
  have hYl : P + 1 < wv.heap.size := (Array.getElem?_eq_some_iff.1 hY).1
  have hZl : P + 1 + 1 < wv.heap.size := (Array.getElem?_eq_some_iff.1 hZ).1
  have hVl : V < wv.heap.size := (Array.getElem?_eq_some_iff.1 hV).1
  have hUl : U < wv.heap.size := (Array.getElem?_eq_some_iff.1 hU).1
  obtain ⟨r0, r1, r2, z0, z1, z2⟩ := val3 hU
  conv => arg 4; whnf
  conv => arg 4; arg 1; whnf
  refine pt_last (by rfl) (fun K hK => ?_)
  go_wp2_with fail
  clear r0 r1 r2 z0 z1 z2
  have hz := val_store (x := .int .i64 4) (y := .int .i64 1) (z := .string ⟨#[]⟩) hU
  have qX := blk3JBad (x := .int .i64 4) (y := .int .i64 1) (z := .string ⟨#[]⟩) (show P ≠ U by have := hfarU.out; omega) hX
  have qY := blk3JBad (x := .int .i64 4) (y := .int .i64 1) (z := .string ⟨#[]⟩) (show P + 1 ≠ U by have := hfarU.out; omega) hY
  have qZ := blk3JBad (x := .int .i64 4) (y := .int .i64 1) (z := .string ⟨#[]⟩) (show P + 1 + 1 ≠ U by have := hfarU.out; omega) hZ
  have qV := blk3JBad (x := .int .i64 4) (y := .int .i64 1) (z := .string ⟨#[]⟩) (show V ≠ U by have := hfarUV.out; omega) hV
  have hbw := ((hbw.setCell (p := ⟨U, 0, none⟩) hbigU.out (.int .i64 4)).setCell (p := ⟨U, 1, none⟩) hbigU.out (.int .i64 1)).setCell (p := ⟨U, 2, none⟩) hbigU.out (.string ⟨#[]⟩)
  clear hX hY hZ hV hU hXl hYl hZl hVl hUl
  have hU := hz
  have hX := qX
  have hY := qY
  have hZ := qZ
  have hV := qV
  clear hz qX qY qZ qV
  generalize (((wv.setCell ⟨U, 0, none⟩ (.int .i64 4)).setCell ⟨U, 1, none⟩ (.int .i64 1)).setCell ⟨U, 2, none⟩ (.string ⟨#[]⟩)) = wv at *
  have hXl : P < wv.heap.size := (Array.getElem?_eq_some_iff.1 hX).1
  have hYl : P + 1 < wv.heap.size := (Array.getElem?_eq_some_iff.1 hY).1
  have hZl : P + 1 + 1 < wv.heap.size := (Array.getElem?_eq_some_iff.1 hZ).1
  have hVl : V < wv.heap.size := (Array.getElem?_eq_some_iff.1 hV).1
  have hUl : U < wv.heap.size := (Array.getElem?_eq_some_iff.1 hU).1
  refine pt_nil ?_
  obtain ⟨x0, x1, x2, _⟩ := val3 hX
  obtain ⟨y0, y1, y2, _⟩ := val3 hY
  obtain ⟨z0, z1, z2, _⟩ := val3 hZ
  obtain ⟨v0, v1, v2, _⟩ := val3 hV
  obtain ⟨u0, u1, u2, _⟩ := val3 hU
  clear hX hY hZ hV hU hXl hYl hZl hVl hUl
  go_wp2_with fail
  refine (awake8 _).mono ?_
  rintro en wn ⟨rfl, hbn⟩
  clear x0 x1 x2 y0 y1 y2 z0 z1 z2 v0 v1 v2 u0 u1 u2
  go_wp2
  go_ret
  exact ⟨rfl, hbw.trans (hbn.mono hbw.size)⟩
  conv => arg 4; whnf
  conv => arg 4; arg 1; whnf
  refine pt_eff (by rfl) (fun K hK => ?_)
  go_wp2_with fail
  refine hK _ _ ((Below.refl _ _).alloc (Nat.le_refl _) _) ?_
  clear hK K
  have hbn : Below wv.heap.size wv (wv.alloc (.cells #[.int .i64 0, .int .i64 0, .string ⟨#[]⟩] 31)) := (Below.refl _ _).alloc (Nat.le_refl _) _
  obtain ⟨U, hG⟩ : ∃ G, G = wv.heap.size := ⟨_, rfl⟩
  have hnew := heap_alloc_new wv (.cells #[.int .i64 0, .int .i64 0, .string ⟨#[]⟩] 31)
  have hfarU := Lib.hid (show P + 1 + 1 < U by omega)
  have hfarUV := Lib.hid (show V < U by omega)
  have hbigU := Lib.hid (show w.heap.size ≤ U by have := hbw.size; omega)
  rw [← hG] at hnew ⊢
  clear hG
  obtain ⟨wn, hwn⟩ : ∃ wn, wn = wv.alloc (.cells #[.int .i64 0, .int .i64 0, .string ⟨#[]⟩] 31) := ⟨_, rfl⟩
  rw [← hwn] at hbn hnew ⊢
  clear hwn
  have hbw := hbw.trans (hbn.mono hbw.size)
  have hX := (hbn.block _ hXl).trans hX
  have hY := (hbn.block _ hYl).trans hY
  have hZ := (hbn.block _ hZl).trans hZ
  have hV := (hbn.block _ hVl).trans hV
  clear hXl hYl hZl hVl hbn
  generalize wn = wv at *
  have hXl : P < wv.heap.size := (Array.getElem?_eq_some_iff.1 hX).1
  have hYl : P + 1 < wv.heap.size := (Array.getElem?_eq_some_iff.1 hY).1
  have hZl : P + 1 + 1 < wv.heap.size := (Array.getElem?_eq_some_iff.1 hZ).1
  have hVl : V < wv.heap.size := (Array.getElem?_eq_some_iff.1 hV).1
  have hU := hnew
  clear hnew
  have hUl : U < wv.heap.size := (Array.getElem?_eq_some_iff.1 hU).1
  conv => arg 4; whnf
  conv => arg 4; arg 1; whnf
  refine pt_eff (by rfl) (fun K hK => ?_)
  go_wp2_with fail
  refine (lone_any _ 2 0 ⟨#[116]⟩).mono ?_
  rintro en wn ⟨e1, rfl, hbn, hnew⟩
  refine hK _ _ hbn ?_
  clear hK K
  have hbw := hbw.trans (hbn.mono hbw.size)
  have hX := (hbn.block _ hXl).trans hX
  have hY := (hbn.block _ hYl).trans hY
  have hZ := (hbn.block _ hZl).trans hZ
  have hV := (hbn.block _ hVl).trans hV
  have hU := (hbn.block _ hUl).trans hU
  clear hXl hYl hZl hVl hUl hbn
  generalize wn = wv at *
  have hXl : P < wv.heap.size := (Array.getElem?_eq_some_iff.1 hX).1
  have hYl : P + 1 < wv.heap.size := (Array.getElem?_eq_some_iff.1 hY).1
  have hZl : P + 1 + 1 < wv.heap.size := (Array.getElem?_eq_some_iff.1 hZ).1
  have hVl : V < wv.heap.size := (Array.getElem?_eq_some_iff.1 hV).1
  have hUl : U < wv.heap.size := (Array.getElem?_eq_some_iff.1 hU).1
  have ha1 := hnew
  clear hnew
  conv => arg 4; whnf
  conv => arg 4; arg 1; whnf
  refine pt_eff (by rfl) (fun K hK => ?_)
  go_wp2_with fail
  refine (lone_any _ ky ny sy).mono ?_
  rintro en wn ⟨e2, rfl, hbn, hnew⟩
  refine hK _ _ hbn ?_
  clear hK K
  have hbw := hbw.trans (hbn.mono hbw.size)
  have hX := (hbn.block _ hXl).trans hX
  have hY := (hbn.block _ hYl).trans hY
  have hZ := (hbn.block _ hZl).trans hZ
  have hV := (hbn.block _ hVl).trans hV
  have hU := (hbn.block _ hUl).trans hU
  have ha1 := ha1.below hbn
  clear hXl hYl hZl hVl hUl hbn
  generalize wn = wv at *
  have hXl : P < wv.heap.size := (Array.getElem?_eq_some_iff.1 hX).1
  have hYl : P + 1 < wv.heap.size := (Array.getElem?_eq_some_iff.1 hY).1
  have hZl : P + 1 + 1 < wv.heap.size := (Array.getElem?_eq_some_iff.1 hZ).1
  have hVl : V < wv.heap.size := (Array.getElem?_eq_some_iff.1 hV).1
  have hUl : U < wv.heap.size := (Array.getElem?_eq_some_iff.1 hU).1
  have ha2 := hnew
  clear hnew
  conv => arg 4; whnf
  conv => arg 4; arg 1; whnf
  refine pt_eff (by rfl) (fun K hK => ?_)
  go_wp2_with fail
  refine hK _ _ ((Below.refl _ _).alloc (Nat.le_refl _) _) ?_
  clear hK K
  have hbn : Below wv.heap.size wv (wv.alloc (.cells #[.bool false, .int .i64 0, .slice (some ⟨e1, 0, none⟩) 1 1, .bool false, .int .i64 0, .slice (some ⟨e2, 0, none⟩) 1 1] 27)) := (Below.refl _ _).alloc (Nat.le_refl _) _
  obtain ⟨G, hG⟩ : ∃ G, G = wv.heap.size := ⟨_, rfl⟩
  have hGo := heap_alloc_new wv (.cells #[.bool false, .int .i64 0, .slice (some ⟨e1, 0, none⟩) 1 1, .bool false, .int .i64 0, .slice (some ⟨e2, 0, none⟩) 1 1] 27)
  rw [← hG] at hGo ⊢
  clear hG
  have hAA : AtA (wv.alloc (.cells #[.bool false, .int .i64 0, .slice (some ⟨e1, 0, none⟩) 1 1, .bool false, .int .i64 0, .slice (some ⟨e2, 0, none⟩) 1 1] 27)) (some ⟨G, 0, none⟩) [oneArg (some ⟨e1, 0, none⟩) (2, 0, ⟨#[116]⟩), oneArg (some ⟨e2, 0, none⟩) (ky, ny, sy)] := atA_lit (by simp) hGo rfl (fun a ha => by
    simp only [List.mem_cons, List.not_mem_nil, or_false] at ha
    rcases ha with rfl | rfl
    · exact ha1.below hbn
    · exact ha2.below hbn)
  clear hGo ha1 ha2
  obtain ⟨wn, hwn⟩ : ∃ wn, wn = wv.alloc (.cells #[.bool false, .int .i64 0, .slice (some ⟨e1, 0, none⟩) 1 1, .bool false, .int .i64 0, .slice (some ⟨e2, 0, none⟩) 1 1] 27) := ⟨_, rfl⟩
  rw [← hwn] at hbn hAA ⊢
  clear hwn
  have hbw := hbw.trans (hbn.mono hbw.size)
  have hX := (hbn.block _ hXl).trans hX
  have hY := (hbn.block _ hYl).trans hY
  have hZ := (hbn.block _ hZl).trans hZ
  have hV := (hbn.block _ hVl).trans hV
  have hU := (hbn.block _ hUl).trans hU
  clear hXl hYl hZl hVl hUl hbn
  generalize wn = wv at *
  have hXl : P < wv.heap.size := (Array.getElem?_eq_some_iff.1 hX).1
  have hYl : P + 1 < wv.heap.size := (Array.getElem?_eq_some_iff.1 hY).1
  have hZl : P + 1 + 1 < wv.heap.size := (Array.getElem?_eq_some_iff.1 hZ).1
  have hVl : V < wv.heap.size := (Array.getElem?_eq_some_iff.1 hV).1
  have hUl : U < wv.heap.size := (Array.getElem?_eq_some_iff.1 hU).1
  conv => arg 4; whnf
  conv => arg 4; arg 1; whnf
  refine pt_eff (by rfl) (fun K hK => ?_)
  go_wp2_with fail
  refine (C2.out _ _ _ _ _ hAA).mono ?_
  rintro en wn ⟨rfl, hbn⟩
  refine hK _ _ hbn ?_
  clear hK K
  clear hAA
  have hbw := hbw.trans (hbn.mono hbw.size)
  have hX := (hbn.block _ hXl).trans hX
  have hY := (hbn.block _ hYl).trans hY
  have hZ := (hbn.block _ hZl).trans hZ
  have hV := (hbn.block _ hVl).trans hV
  have hU := (hbn.block _ hUl).trans hU
  clear hXl hYl hZl hVl hUl hbn
  generalize wn = wv at *
  have hXl : P < wv.heap.size := (Array.getElem?_eq_some_iff.1 hX).1
  have hYl : P + 1 < wv.heap.size := (Array.getElem?_eq_some_iff.1 hY).1
  have hZl : P + 1 + 1 < wv.heap.size := (Array.getElem?_eq_some_iff.1 hZ).1
  have hVl : V < wv.heap.size := (Array.getElem?_eq_some_iff.1 hV).1
  have hUl : U < wv.heap.size := (Array.getElem?_eq_some_iff.1 hU).1
  obtain ⟨r0, r1, r2, z0, z1, z2⟩ := val3 hU
  conv => arg 4; whnf
  conv => arg 4; arg 1; whnf
  refine pt_last (by rfl) (fun K hK => ?_)
  go_wp2_with fail
  clear r0 r1 r2 z0 z1 z2
  have hz := val_store (x := .int .i64 4) (y := .int .i64 1) (z := .string ⟨#[]⟩) hU
  have qX := blk3JBad (x := .int .i64 4) (y := .int .i64 1) (z := .string ⟨#[]⟩) (show P ≠ U by have := hfarU.out; omega) hX
  have qY := blk3JBad (x := .int .i64 4) (y := .int .i64 1) (z := .string ⟨#[]⟩) (show P + 1 ≠ U by have := hfarU.out; omega) hY
  have qZ := blk3JBad (x := .int .i64 4) (y := .int .i64 1) (z := .string ⟨#[]⟩) (show P + 1 + 1 ≠ U by have := hfarU.out; omega) hZ
  have qV := blk3JBad (x := .int .i64 4) (y := .int .i64 1) (z := .string ⟨#[]⟩) (show V ≠ U by have := hfarUV.out; omega) hV
  have hbw := ((hbw.setCell (p := ⟨U, 0, none⟩) hbigU.out (.int .i64 4)).setCell (p := ⟨U, 1, none⟩) hbigU.out (.int .i64 1)).setCell (p := ⟨U, 2, none⟩) hbigU.out (.string ⟨#[]⟩)
  clear hX hY hZ hV hU hXl hYl hZl hVl hUl
  have hU := hz
  have hX := qX
  have hY := qY
  have hZ := qZ
  have hV := qV
  clear hz qX qY qZ qV
  generalize (((wv.setCell ⟨U, 0, none⟩ (.int .i64 4)).setCell ⟨U, 1, none⟩ (.int .i64 1)).setCell ⟨U, 2, none⟩ (.string ⟨#[]⟩)) = wv at *
  have hXl : P < wv.heap.size := (Array.getElem?_eq_some_iff.1 hX).1
  have hYl : P + 1 < wv.heap.size := (Array.getElem?_eq_some_iff.1 hY).1
  have hZl : P + 1 + 1 < wv.heap.size := (Array.getElem?_eq_some_iff.1 hZ).1
  have hVl : V < wv.heap.size := (Array.getElem?_eq_some_iff.1 hV).1
  have hUl : U < wv.heap.size := (Array.getElem?_eq_some_iff.1 hU).1
  refine pt_nil ?_
  obtain ⟨x0, x1, x2, _⟩ := val3 hX
  obtain ⟨y0, y1, y2, _⟩ := val3 hY
  obtain ⟨z0, z1, z2, _⟩ := val3 hZ
  obtain ⟨v0, v1, v2, _⟩ := val3 hV
  obtain ⟨u0, u1, u2, _⟩ := val3 hU
  clear hX hY hZ hV hU hXl hYl hZl hVl hUl
  go_wp2_with fail
  refine (awake8 _).mono ?_
  rintro en wn ⟨rfl, hbn⟩
  clear x0 x1 x2 y0 y1 y2 z0 z1 z2 v0 v1 v2 u0 u1 u2
  go_wp2
  go_ret
  exact ⟨rfl, hbw.trans (hbn.mono hbw.size)⟩
  conv => arg 4; whnf
  conv => arg 4; arg 1; whnf
  refine pt_eff (by rfl) (fun K hK => ?_)
  go_wp2_with fail
  refine hK _ _ ((Below.refl _ _).alloc (Nat.le_refl _) _) ?_
  clear hK K
  have hbn : Below wv.heap.size wv (wv.alloc (.cells #[.int .i64 0, .int .i64 0, .string ⟨#[]⟩] 31)) := (Below.refl _ _).alloc (Nat.le_refl _) _
  obtain ⟨V, hG⟩ : ∃ G, G = wv.heap.size := ⟨_, rfl⟩
  have hnew := heap_alloc_new wv (.cells #[.int .i64 0, .int .i64 0, .string ⟨#[]⟩] 31)
  have hfarV := Lib.hid (show P + 1 + 1 < V by omega)
  have hbigV := Lib.hid (show w.heap.size ≤ V by have := hbw.size; omega)
  rw [← hG] at hnew ⊢
  clear hG
  obtain ⟨wn, hwn⟩ : ∃ wn, wn = wv.alloc (.cells #[.int .i64 0, .int .i64 0, .string ⟨#[]⟩] 31) := ⟨_, rfl⟩
  rw [← hwn] at hbn hnew ⊢
  clear hwn
  have hbw := hbw.trans (hbn.mono hbw.size)
  have hX := (hbn.block _ hXl).trans hX
  have hY := (hbn.block _ hYl).trans hY
  have hZ := (hbn.block _ hZl).trans hZ
  have hv1 := hv1.below hbn
  have hv2 := hv2.below hbn
  clear hXl hYl hZl hbn
  generalize wn = wv at *
  have hXl : P < wv.heap.size := (Array.getElem?_eq_some_iff.1 hX).1
  have hYl : P + 1 < wv.heap.size := (Array.getElem?_eq_some_iff.1 hY).1
  have hZl : P + 1 + 1 < wv.heap.size := (Array.getElem?_eq_some_iff.1 hZ).1
  have hV := hnew
  clear hnew
  have hVl : V < wv.heap.size := (Array.getElem?_eq_some_iff.1 hV).1
  conv => arg 4; whnf
  conv => arg 4; arg 1; whnf
  refine pt_eff (by rfl) (fun K hK => ?_)
  go_wp2_with fail
  refine (lone_any _ kz nz sz).mono ?_
  rintro en wn ⟨g3, rfl, hbn, hnew⟩
  refine hK _ _ hbn ?_
  clear hK K
  have hbw := hbw.trans (hbn.mono hbw.size)
  have hX := (hbn.block _ hXl).trans hX
  have hY := (hbn.block _ hYl).trans hY
  have hZ := (hbn.block _ hZl).trans hZ
  have hV := (hbn.block _ hVl).trans hV
  have hv1 := hv1.below hbn
  have hv2 := hv2.below hbn
  clear hXl hYl hZl hVl hbn
  generalize wn = wv at *
  have hXl : P < wv.heap.size := (Array.getElem?_eq_some_iff.1 hX).1
  have hYl : P + 1 < wv.heap.size := (Array.getElem?_eq_some_iff.1 hY).1
  have hZl : P + 1 + 1 < wv.heap.size := (Array.getElem?_eq_some_iff.1 hZ).1
  have hVl : V < wv.heap.size := (Array.getElem?_eq_some_iff.1 hV).1
  have hv3 := hnew
  clear hnew
  conv => arg 4; whnf
  conv => arg 4; arg 1; whnf
  refine pt_eff (by rfl) (fun K hK => ?_)
  go_wp2_with fail
  refine hK _ _ ((Below.refl _ _).alloc (Nat.le_refl _) _) ?_
  clear hK K
  have hbn : Below wv.heap.size wv (wv.alloc (.cells #[.bool false, .int .i64 0, .slice (some ⟨g1, 0, none⟩) 1 1, .bool false, .int .i64 0, .slice (some ⟨g2, 0, none⟩) 1 1, .bool false, .int .i64 0, .slice (some ⟨g3, 0, none⟩) 1 1] 27)) := (Below.refl _ _).alloc (Nat.le_refl _) _
  obtain ⟨G, hG⟩ : ∃ G, G = wv.heap.size := ⟨_, rfl⟩
  have hGo := heap_alloc_new wv (.cells #[.bool false, .int .i64 0, .slice (some ⟨g1, 0, none⟩) 1 1, .bool false, .int .i64 0, .slice (some ⟨g2, 0, none⟩) 1 1, .bool false, .int .i64 0, .slice (some ⟨g3, 0, none⟩) 1 1] 27)
  rw [← hG] at hGo ⊢
  clear hG
  have hAA : AtA (wv.alloc (.cells #[.bool false, .int .i64 0, .slice (some ⟨g1, 0, none⟩) 1 1, .bool false, .int .i64 0, .slice (some ⟨g2, 0, none⟩) 1 1, .bool false, .int .i64 0, .slice (some ⟨g3, 0, none⟩) 1 1] 27)) (some ⟨G, 0, none⟩) [oneArg (some ⟨g1, 0, none⟩) (2, 0, ⟨#[116]⟩), oneArg (some ⟨g2, 0, none⟩) (ky, ny, sy), oneArg (some ⟨g3, 0, none⟩) (kz, nz, sz)] := atA_lit (by simp) hGo rfl (fun a ha => by
    simp only [List.mem_cons, List.not_mem_nil, or_false] at ha
    rcases ha with rfl | rfl | rfl
    · exact hv1.below hbn
    · exact hv2.below hbn
    · exact hv3.below hbn)
  clear hGo hv1 hv2 hv3
  obtain ⟨wn, hwn⟩ : ∃ wn, wn = wv.alloc (.cells #[.bool false, .int .i64 0, .slice (some ⟨g1, 0, none⟩) 1 1, .bool false, .int .i64 0, .slice (some ⟨g2, 0, none⟩) 1 1, .bool false, .int .i64 0, .slice (some ⟨g3, 0, none⟩) 1 1] 27) := ⟨_, rfl⟩
  rw [← hwn] at hbn hAA ⊢
  clear hwn
  have hbw := hbw.trans (hbn.mono hbw.size)
  have hX := (hbn.block _ hXl).trans hX
  have hY := (hbn.block _ hYl).trans hY
  have hZ := (hbn.block _ hZl).trans hZ
  have hV := (hbn.block _ hVl).trans hV
  clear hXl hYl hZl hVl hbn
  generalize wn = wv at *
  have hXl : P < wv.heap.size := (Array.getElem?_eq_some_iff.1 hX).1
  have hYl : P + 1 < wv.heap.size := (Array.getElem?_eq_some_iff.1 hY).1
  have hZl : P + 1 + 1 < wv.heap.size := (Array.getElem?_eq_some_iff.1 hZ).1
  have hVl : V < wv.heap.size := (Array.getElem?_eq_some_iff.1 hV).1
  conv => arg 4; whnf
  conv => arg 4; arg 1; whnf
  refine pt_eff (by rfl) (fun K hK => ?_)
  go_wp2_with fail
  refine (C3.out _ _ _ _ _ _ _ hAA).mono ?_
  rintro en wn ⟨rfl, hbn⟩
  refine hK _ _ hbn ?_
  clear hK K
  clear hAA
  have hbw := hbw.trans (hbn.mono hbw.size)
  have hX := (hbn.block _ hXl).trans hX
  have hY := (hbn.block _ hYl).trans hY
  have hZ := (hbn.block _ hZl).trans hZ
  have hV := (hbn.block _ hVl).trans hV
  clear hXl hYl hZl hVl hbn
  generalize wn = wv at *
  have hXl : P < wv.heap.size := (Array.getElem?_eq_some_iff.1 hX).1
  have hYl : P + 1 < wv.heap.size := (Array.getElem?_eq_some_iff.1 hY).1
  have hZl : P + 1 + 1 < wv.heap.size := (Array.getElem?_eq_some_iff.1 hZ).1
  have hVl : V < wv.heap.size := (Array.getElem?_eq_some_iff.1 hV).1
  obtain ⟨r0, r1, r2, z0, z1, z2⟩ := val3 hV
  conv => arg 4; whnf
  conv => arg 4; arg 1; whnf
  refine pt_last (by rfl) (fun K hK => ?_)
  go_wp2_with fail
  clear r0 r1 r2 z0 z1 z2
  have hz := val_store (x := .int .i64 4) (y := .int .i64 1) (z := .string ⟨#[]⟩) hV
  have qX := blk3JBad (x := .int .i64 4) (y := .int .i64 1) (z := .string ⟨#[]⟩) (show P ≠ V by have := hfarV.out; omega) hX
  have qY := blk3JBad (x := .int .i64 4) (y := .int .i64 1) (z := .string ⟨#[]⟩) (show P + 1 ≠ V by have := hfarV.out; omega) hY
  have qZ := blk3JBad (x := .int .i64 4) (y := .int .i64 1) (z := .string ⟨#[]⟩) (show P + 1 + 1 ≠ V by have := hfarV.out; omega) hZ
  have hbw := ((hbw.setCell (p := ⟨V, 0, none⟩) hbigV.out (.int .i64 4)).setCell (p := ⟨V, 1, none⟩) hbigV.out (.int .i64 1)).setCell (p := ⟨V, 2, none⟩) hbigV.out (.string ⟨#[]⟩)
  clear hX hY hZ hV hXl hYl hZl hVl
  have hV := hz
  have hX := qX
  have hY := qY
  have hZ := qZ
  clear hz qX qY qZ
  generalize (((wv.setCell ⟨V, 0, none⟩ (.int .i64 4)).setCell ⟨V, 1, none⟩ (.int .i64 1)).setCell ⟨V, 2, none⟩ (.string ⟨#[]⟩)) = wv at *
  have hXl : P < wv.heap.size := (Array.getElem?_eq_some_iff.1 hX).1
  have hYl : P + 1 < wv.heap.size := (Array.getElem?_eq_some_iff.1 hY).1
  have hZl : P + 1 + 1 < wv.heap.size := (Array.getElem?_eq_some_iff.1 hZ).1
  have hVl : V < wv.heap.size := (Array.getElem?_eq_some_iff.1 hV).1
  refine pt_nil ?_
  go_wp2_with fail
  refine wp_region_tree [7] (.free 0 (.free 2 (.alt 1 (.alt 3 (.alt 4 (.alt 5 (.eff 6 (.last 7 (.nil))) 6 (.eff 5 (.last 7 (.nil)))) 6 (.eff 4 (.eff 5 (.last 7 (.nil))))) 6 (.eff 3 (.eff 4 (.eff 5 (.last 7 (.nil)))))) 6 (.eff 1 (.eff 3 (.eff 4 (.eff 5 (.last 7 (.nil))))))))) (by kernel_rfl) (by kernel_rfl) (fun _ _ d _ _ h => by cases d <;> exact h) ?_
  have hbw := hbw.drew
  have hX : wv.drew.heap[P]? = _ := hX
  have hY : wv.drew.heap[P + 1]? = _ := hY
  have hZ : wv.drew.heap[P + 1 + 1]? = _ := hZ
  have hV : wv.drew.heap[V]? = _ := hV
  clear hXl hYl hZl hVl
  generalize wv.drew = wv at *
  have hXl : P < wv.heap.size := (Array.getElem?_eq_some_iff.1 hX).1
  have hYl : P + 1 < wv.heap.size := (Array.getElem?_eq_some_iff.1 hY).1
  have hZl : P + 1 + 1 < wv.heap.size := (Array.getElem?_eq_some_iff.1 hZ).1
  have hVl : V < wv.heap.size := (Array.getElem?_eq_some_iff.1 hV).1
  conv => arg 4; whnf
  conv => arg 4; arg 1; whnf
  refine pt_loadB (k := P) (fun W h => load_val _ W _ _ _ (h.trans hX)) hXl (by rfl) rfl rfl ?_
  simp only [Act.put, List.setIfInBounds_toArray, List.set_cons_zero, List.set_cons_succ]
  conv => arg 4; whnf
  conv => arg 4; arg 1; whnf
  refine pt_loadB (k := P + 1) (fun W h => load_val _ W _ _ _ (h.trans hY)) hYl (by rfl) rfl rfl ?_
  simp only [Act.put, List.setIfInBounds_toArray, List.set_cons_zero, List.set_cons_succ]
  conv => arg 4; whnf
  refine pt_alt ?_ ?_
  conv => arg 4; whnf
  conv => arg 4; arg 1; whnf
  refine pt_eff (by rfl) (fun K hK => ?_)
  go_wp2_with fail
  refine (lone_any _ 2 0 ⟨#[116]⟩).mono ?_
  rintro en wn ⟨e1, rfl, hbn, hnew⟩
  refine hK _ _ hbn ?_
  clear hK K
  have hbw := hbw.trans (hbn.mono hbw.size)
  have hX := (hbn.block _ hXl).trans hX
  have hY := (hbn.block _ hYl).trans hY
  have hZ := (hbn.block _ hZl).trans hZ
  have hV := (hbn.block _ hVl).trans hV
  clear hXl hYl hZl hVl hbn
  generalize wn = wv at *
  have hXl : P < wv.heap.size := (Array.getElem?_eq_some_iff.1 hX).1
  have hYl : P + 1 < wv.heap.size := (Array.getElem?_eq_some_iff.1 hY).1
  have hZl : P + 1 + 1 < wv.heap.size := (Array.getElem?_eq_some_iff.1 hZ).1
  have hVl : V < wv.heap.size := (Array.getElem?_eq_some_iff.1 hV).1
  have ha1 := hnew
  clear hnew
  conv => arg 4; whnf
  refine pt_alt ?_ ?_
  conv => arg 4; whnf
  conv => arg 4; arg 1; whnf
  refine pt_eff (by rfl) (fun K hK => ?_)
  go_wp2_with fail
  refine (lone_any _ ky ny sy).mono ?_
  rintro en wn ⟨e2, rfl, hbn, hnew⟩
  refine hK _ _ hbn ?_
  clear hK K
  have hbw := hbw.trans (hbn.mono hbw.size)
  have hX := (hbn.block _ hXl).trans hX
  have hY := (hbn.block _ hYl).trans hY
  have hZ := (hbn.block _ hZl).trans hZ
  have hV := (hbn.block _ hVl).trans hV
  have ha1 := ha1.below hbn
  clear hXl hYl hZl hVl hbn
  generalize wn = wv at *
  have hXl : P < wv.heap.size := (Array.getElem?_eq_some_iff.1 hX).1
  have hYl : P + 1 < wv.heap.size := (Array.getElem?_eq_some_iff.1 hY).1
  have hZl : P + 1 + 1 < wv.heap.size := (Array.getElem?_eq_some_iff.1 hZ).1
  have hVl : V < wv.heap.size := (Array.getElem?_eq_some_iff.1 hV).1
  have ha2 := hnew
  clear hnew
  conv => arg 4; whnf
  refine pt_alt ?_ ?_
  conv => arg 4; whnf
  conv => arg 4; arg 1; whnf
  refine pt_eff (by rfl) (fun K hK => ?_)
  go_wp2_with fail
  refine hK _ _ ((Below.refl _ _).alloc (Nat.le_refl _) _) ?_
  clear hK K
  have hbn : Below wv.heap.size wv (wv.alloc (.cells #[.bool false, .int .i64 0, .slice (some ⟨e1, 0, none⟩) 1 1, .bool false, .int .i64 0, .slice (some ⟨e2, 0, none⟩) 1 1] 27)) := (Below.refl _ _).alloc (Nat.le_refl _) _
  obtain ⟨G, hG⟩ : ∃ G, G = wv.heap.size := ⟨_, rfl⟩
  have hGo := heap_alloc_new wv (.cells #[.bool false, .int .i64 0, .slice (some ⟨e1, 0, none⟩) 1 1, .bool false, .int .i64 0, .slice (some ⟨e2, 0, none⟩) 1 1] 27)
  rw [← hG] at hGo ⊢
  clear hG
  have hAA : AtA (wv.alloc (.cells #[.bool false, .int .i64 0, .slice (some ⟨e1, 0, none⟩) 1 1, .bool false, .int .i64 0, .slice (some ⟨e2, 0, none⟩) 1 1] 27)) (some ⟨G, 0, none⟩) [oneArg (some ⟨e1, 0, none⟩) (2, 0, ⟨#[116]⟩), oneArg (some ⟨e2, 0, none⟩) (ky, ny, sy)] := atA_lit (by simp) hGo rfl (fun a ha => by
    simp only [List.mem_cons, List.not_mem_nil, or_false] at ha
    rcases ha with rfl | rfl
    · exact ha1.below hbn
    · exact ha2.below hbn)
  clear hGo ha1 ha2
  obtain ⟨wn, hwn⟩ : ∃ wn, wn = wv.alloc (.cells #[.bool false, .int .i64 0, .slice (some ⟨e1, 0, none⟩) 1 1, .bool false, .int .i64 0, .slice (some ⟨e2, 0, none⟩) 1 1] 27) := ⟨_, rfl⟩
  rw [← hwn] at hbn hAA ⊢
  clear hwn
  have hbw := hbw.trans (hbn.mono hbw.size)
  have hX := (hbn.block _ hXl).trans hX
  have hY := (hbn.block _ hYl).trans hY
  have hZ := (hbn.block _ hZl).trans hZ
  have hV := (hbn.block _ hVl).trans hV
  clear hXl hYl hZl hVl hbn
  generalize wn = wv at *
  have hXl : P < wv.heap.size := (Array.getElem?_eq_some_iff.1 hX).1
  have hYl : P + 1 < wv.heap.size := (Array.getElem?_eq_some_iff.1 hY).1
  have hZl : P + 1 + 1 < wv.heap.size := (Array.getElem?_eq_some_iff.1 hZ).1
  have hVl : V < wv.heap.size := (Array.getElem?_eq_some_iff.1 hV).1
  conv => arg 4; whnf
  refine pt_alt ?_ ?_
  conv => arg 4; whnf
  conv => arg 4; arg 1; whnf
  refine pt_eff (by rfl) (fun K hK => ?_)
  go_wp2_with fail
  refine (C2.out _ _ _ _ _ hAA).mono ?_
  rintro en wn ⟨rfl, hbn⟩
  refine hK _ _ hbn ?_
  clear hK K
  clear hAA
  have hbw := hbw.trans (hbn.mono hbw.size)
  have hX := (hbn.block _ hXl).trans hX
  have hY := (hbn.block _ hYl).trans hY
  have hZ := (hbn.block _ hZl).trans hZ
  have hV := (hbn.block _ hVl).trans hV
  clear hXl hYl hZl hVl hbn
  generalize wn = wv at *
  have hXl : P < wv.heap.size := (Array.getElem?_eq_some_iff.1 hX).1
  have hYl : P + 1 < wv.heap.size := (Array.getElem?_eq_some_iff.1 hY).1
  have hZl : P + 1 + 1 < wv.heap.size := (Array.getElem?_eq_some_iff.1 hZ).1
  have hVl : V < wv.heap.size := (Array.getElem?_eq_some_iff.1 hV).1
  conv => arg 4; whnf
  conv => arg 4; arg 1; whnf
  refine pt_eff (by rfl) (fun K hK => ?_)
  go_wp2_with fail
  refine hK _ _ ((Below.refl _ _).alloc (Nat.le_refl _) _) ?_
  clear hK K
  have hbn : Below wv.heap.size wv (wv.alloc (.cells #[.int .i64 0, .int .i64 0, .string ⟨#[]⟩] 31)) := (Below.refl _ _).alloc (Nat.le_refl _) _
  obtain ⟨U, hG⟩ : ∃ G, G = wv.heap.size := ⟨_, rfl⟩
  have hnew := heap_alloc_new wv (.cells #[.int .i64 0, .int .i64 0, .string ⟨#[]⟩] 31)
  have hfarU := Lib.hid (show P + 1 + 1 < U by omega)
  have hfarUV := Lib.hid (show V < U by omega)
  have hbigU := Lib.hid (show w.heap.size ≤ U by have := hbw.size; omega)
  rw [← hG] at hnew ⊢
  clear hG
  obtain ⟨wn, hwn⟩ : ∃ wn, wn = wv.alloc (.cells #[.int .i64 0, .int .i64 0, .string ⟨#[]⟩] 31) := ⟨_, rfl⟩
  rw [← hwn] at hbn hnew ⊢
  clear hwn
  have hbw := hbw.trans (hbn.mono hbw.size)
  have hX := (hbn.block _ hXl).trans hX
  have hY := (hbn.block _ hYl).trans hY
  have hZ := (hbn.block _ hZl).trans hZ
  have hV := (hbn.block _ hVl).trans hV
  clear hXl hYl hZl hVl hbn
  generalize wn = wv at *
  have hXl : P < wv.heap.size := (Array.getElem?_eq_some_iff.1 hX).1
  have hYl : P + 1 < wv.heap.size := (Array.getElem?_eq_some_iff.1 hY).1
  have hZl : P + 1 + 1 < wv.heap.size := (Array.getElem?_eq_some_iff.1 hZ).1
  have hVl : V < wv.heap.size := (Array.getElem?_eq_some_iff.1 hV).1
  have hU := hnew
  clear hnew
  have hUl : U < wv.heap.size := (Array.getElem?_eq_some_iff.1 hU).1
  obtain ⟨r0, r1, r2, z0, z1, z2⟩ := val3 hU
  conv => arg 4; whnf
  conv => arg 4; arg 1; whnf
  refine pt_last (by rfl) (fun K hK => ?_)
  go_wp2_with fail
  clear r0 r1 r2 z0 z1 z2
  have hz := val_store (x := .int .i64 4) (y := .int .i64 1) (z := .string ⟨#[]⟩) hU
  have qX := blk3JBad (x := .int .i64 4) (y := .int .i64 1) (z := .string ⟨#[]⟩) (show P ≠ U by have := hfarU.out; omega) hX
  have qY := blk3JBad (x := .int .i64 4) (y := .int .i64 1) (z := .string ⟨#[]⟩) (show P + 1 ≠ U by have := hfarU.out; omega) hY
  have qZ := blk3JBad (x := .int .i64 4) (y := .int .i64 1) (z := .string ⟨#[]⟩) (show P + 1 + 1 ≠ U by have := hfarU.out; omega) hZ
  have qV := blk3JBad (x := .int .i64 4) (y := .int .i64 1) (z := .string ⟨#[]⟩) (show V ≠ U by have := hfarUV.out; omega) hV
  have hbw := ((hbw.setCell (p := ⟨U, 0, none⟩) hbigU.out (.int .i64 4)).setCell (p := ⟨U, 1, none⟩) hbigU.out (.int .i64 1)).setCell (p := ⟨U, 2, none⟩) hbigU.out (.string ⟨#[]⟩)
  clear hX hY hZ hV hU hXl hYl hZl hVl hUl
  have hU := hz
  have hX := qX
  have hY := qY
  have hZ := qZ
  have hV := qV
  clear hz qX qY qZ qV
  generalize (((wv.setCell ⟨U, 0, none⟩ (.int .i64 4)).setCell ⟨U, 1, none⟩ (.int .i64 1)).setCell ⟨U, 2, none⟩ (.string ⟨#[]⟩)) = wv at *
  have hXl : P < wv.heap.size := (Array.getElem?_eq_some_iff.1 hX).1
  have hYl : P + 1 < wv.heap.size := (Array.getElem?_eq_some_iff.1 hY).1
  have hZl : P + 1 + 1 < wv.heap.size := (Array.getElem?_eq_some_iff.1 hZ).1
  have hVl : V < wv.heap.size := (Array.getElem?_eq_some_iff.1 hV).1
  have hUl : U < wv.heap.size := (Array.getElem?_eq_some_iff.1 hU).1
  refine pt_nil ?_
  obtain ⟨x0, x1, x2, _⟩ := val3 hX
  obtain ⟨y0, y1, y2, _⟩ := val3 hY
  obtain ⟨z0, z1, z2, _⟩ := val3 hZ
  obtain ⟨v0, v1, v2, _⟩ := val3 hV
  obtain ⟨u0, u1, u2, _⟩ := val3 hU
  clear hX hY hZ hV hU hXl hYl hZl hVl hUl
  go_wp2_with fail
  refine (awake8 _).mono ?_
  rintro en wn ⟨rfl, hbn⟩
  clear x0 x1 x2 y0 y1 y2 z0 z1 z2 v0 v1 v2 u0 u1 u2
  go_wp2
  go_ret
  exact ⟨rfl, hbw.trans (hbn.mono hbw.size)⟩
  conv => arg 4; whnf
  conv => arg 4; arg 1; whnf
  refine pt_eff (by rfl) (fun K hK => ?_)
  go_wp2_with fail
  refine hK _ _ ((Below.refl _ _).alloc (Nat.le_refl _) _) ?_
  clear hK K
  have hbn : Below wv.heap.size wv (wv.alloc (.cells #[.int .i64 0, .int .i64 0, .string ⟨#[]⟩] 31)) := (Below.refl _ _).alloc (Nat.le_refl _) _
  obtain ⟨U, hG⟩ : ∃ G, G = wv.heap.size := ⟨_, rfl⟩
  have hnew := heap_alloc_new wv (.cells #[.int .i64 0, .int .i64 0, .string ⟨#[]⟩] 31)
  have hfarU := Lib.hid (show P + 1 + 1 < U by omega)
  have hfarUV := Lib.hid (show V < U by omega)
  have hbigU := Lib.hid (show w.heap.size ≤ U by have := hbw.size; omega)
  rw [← hG] at hnew ⊢
  clear hG
  obtain ⟨wn, hwn⟩ : ∃ wn, wn = wv.alloc (.cells #[.int .i64 0, .int .i64 0, .string ⟨#[]⟩] 31) := ⟨_, rfl⟩
  rw [← hwn] at hbn hnew ⊢
  clear hwn
  have hbw := hbw.trans (hbn.mono hbw.size)
  have hX := (hbn.block _ hXl).trans hX
  have hY := (hbn.block _ hYl).trans hY
  have hZ := (hbn.block _ hZl).trans hZ
  have hV := (hbn.block _ hVl).trans hV
  have hAA := hAA.below hbn
  clear hXl hYl hZl hVl hbn
  generalize wn = wv at *
  have hXl : P < wv.heap.size := (Array.getElem?_eq_some_iff.1 hX).1
  have hYl : P + 1 < wv.heap.size := (Array.getElem?_eq_some_iff.1 hY).1
  have hZl : P + 1 + 1 < wv.heap.size := (Array.getElem?_eq_some_iff.1 hZ).1
  have hVl : V < wv.heap.size := (Array.getElem?_eq_some_iff.1 hV).1
  have hU := hnew
  clear hnew
  have hUl : U < wv.heap.size := (Array.getElem?_eq_some_iff.1 hU).1
  conv => arg 4; whnf
  conv => arg 4; arg 1; whnf
  refine pt_eff (by rfl) (fun K hK => ?_)
  go_wp2_with fail
  refine (C2.out _ _ _ _ _ hAA).mono ?_
  rintro en wn ⟨rfl, hbn⟩
  refine hK _ _ hbn ?_
  clear hK K
  clear hAA
  have hbw := hbw.trans (hbn.mono hbw.size)
  have hX := (hbn.block _ hXl).trans hX
  have hY := (hbn.block _ hYl).trans hY
  have hZ := (hbn.block _ hZl).trans hZ
  have hV := (hbn.block _ hVl).trans hV
  have hU := (hbn.block _ hUl).trans hU
  clear hXl hYl hZl hVl hUl hbn
  generalize wn = wv at *
  have hXl : P < wv.heap.size := (Array.getElem?_eq_some_iff.1 hX).1
  have hYl : P + 1 < wv.heap.size := (Array.getElem?_eq_some_iff.1 hY).1
  have hZl : P + 1 + 1 < wv.heap.size := (Array.getElem?_eq_some_iff.1 hZ).1
  have hVl : V < wv.heap.size := (Array.getElem?_eq_some_iff.1 hV).1
  have hUl : U < wv.heap.size := (Array.getElem?_eq_some_iff.1 hU).1
  obtain ⟨r0, r1, r2, z0, z1, z2⟩ := val3 hU
  conv => arg 4; whnf
  conv => arg 4; arg 1; whnf
  refine pt_last (by rfl) (fun K hK => ?_)
  go_wp2_with fail
  clear r0 r1 r2 z0 z1 z2
  have hz := val_store (x := .int .i64 4) (y := .int .i64 1) (z := .string ⟨#[]⟩) hU
  have qX := blk3JBad (x := .int .i64 4) (y := .int .i64 1) (z := .string ⟨#[]⟩) (show P ≠ U by have := hfarU.out; omega) hX
  have qY := blk3JBad (x := .int .i64 4) (y := .int .i64 1) (z := .string ⟨#[]⟩) (show P + 1 ≠ U by have := hfarU.out; omega) hY
  have qZ := blk3JBad (x := .int .i64 4) (y := .int .i64 1) (z := .string ⟨#[]⟩) (show P + 1 + 1 ≠ U by have := hfarU.out; omega) hZ
  have qV := blk3JBad (x := .int .i64 4) (y := .int .i64 1) (z := .string ⟨#[]⟩) (show V ≠ U by have := hfarUV.out; omega) hV
  have hbw := ((hbw.setCell (p := ⟨U, 0, none⟩) hbigU.out (.int .i64 4)).setCell (p := ⟨U, 1, none⟩) hbigU.out (.int .i64 1)).setCell (p := ⟨U, 2, none⟩) hbigU.out (.string ⟨#[]⟩)
  clear hX hY hZ hV hU hXl hYl hZl hVl hUl
  have hU := hz
  have hX := qX
  have hY := qY
  have hZ := qZ
  have hV := qV
  clear hz qX qY qZ qV
  generalize (((wv.setCell ⟨U, 0, none⟩ (.int .i64 4)).setCell ⟨U, 1, none⟩ (.int .i64 1)).setCell ⟨U, 2, none⟩ (.string ⟨#[]⟩)) = wv at *
  have hXl : P < wv.heap.size := (Array.getElem?_eq_some_iff.1 hX).1
  have hYl : P + 1 < wv.heap.size := (Array.getElem?_eq_some_iff.1 hY).1
  have hZl : P + 1 + 1 < wv.heap.size := (Array.getElem?_eq_some_iff.1 hZ).1
  have hVl : V < wv.heap.size := (Array.getElem?_eq_some_iff.1 hV).1
  have hUl : U < wv.heap.size := (Array.getElem?_eq_some_iff.1 hU).1
  refine pt_nil ?_
  obtain ⟨x0, x1, x2, _⟩ := val3 hX
  obtain ⟨y0, y1, y2, _⟩ := val3 hY
  obtain ⟨z0, z1, z2, _⟩ := val3 hZ
  obtain ⟨v0, v1, v2, _⟩ := val3 hV
  obtain ⟨u0, u1, u2, _⟩ := val3 hU
  clear hX hY hZ hV hU hXl hYl hZl hVl hUl
  go_wp2_with fail
  refine (awake8 _).mono ?_
  rintro en wn ⟨rfl, hbn⟩
  clear x0 x1 x2 y0 y1 y2 z0 z1 z2 v0 v1 v2 u0 u1 u2
  go_wp2
  go_ret
  exact ⟨rfl, hbw.trans (hbn.mono hbw.size)⟩
  conv => arg 4; whnf
  conv => arg 4; arg 1; whnf
  refine pt_eff (by rfl) (fun K hK => ?_)
  go_wp2_with fail
  refine hK _ _ ((Below.refl _ _).alloc (Nat.le_refl _) _) ?_
  clear hK K
  have hbn : Below wv.heap.size wv (wv.alloc (.cells #[.int .i64 0, .int .i64 0, .string ⟨#[]⟩] 31)) := (Below.refl _ _).alloc (Nat.le_refl _) _
  obtain ⟨U, hG⟩ : ∃ G, G = wv.heap.size := ⟨_, rfl⟩
  have hnew := heap_alloc_new wv (.cells #[.int .i64 0, .int .i64 0, .string ⟨#[]⟩] 31)
  have hfarU := Lib.hid (show P + 1 + 1 < U by omega)
  have hfarUV := Lib.hid (show V < U by omega)
  have hbigU := Lib.hid (show w.heap.size ≤ U by have := hbw.size; omega)
  rw [← hG] at hnew ⊢
  clear hG
  obtain ⟨wn, hwn⟩ : ∃ wn, wn = wv.alloc (.cells #[.int .i64 0, .int .i64 0, .string ⟨#[]⟩] 31) := ⟨_, rfl⟩
  rw [← hwn] at hbn hnew ⊢
  clear hwn
  have hbw := hbw.trans (hbn.mono hbw.size)
  have hX := (hbn.block _ hXl).trans hX
  have hY := (hbn.block _ hYl).trans hY
  have hZ := (hbn.block _ hZl).trans hZ
  have hV := (hbn.block _ hVl).trans hV
  have ha1 := ha1.below hbn
  have ha2 := ha2.below hbn
  clear hXl hYl hZl hVl hbn
  generalize wn = wv at *
  have hXl : P < wv.heap.size := (Array.getElem?_eq_some_iff.1 hX).1
  have hYl : P + 1 < wv.heap.size := (Array.getElem?_eq_some_iff.1 hY).1
  have hZl : P + 1 + 1 < wv.heap.size := (Array.getElem?_eq_some_iff.1 hZ).1
  have hVl : V < wv.heap.size := (Array.getElem?_eq_some_iff.1 hV).1
  have hU := hnew
  clear hnew
  have hUl : U < wv.heap.size := (Array.getElem?_eq_some_iff.1 hU).1
  conv => arg 4; whnf
  conv => arg 4; arg 1; whnf
  refine pt_eff (by rfl) (fun K hK => ?_)
  go_wp2_with fail
  refine hK _ _ ((Below.refl _ _).alloc (Nat.le_refl _) _) ?_
  clear hK K
  have hbn : Below wv.heap.size wv (wv.alloc (.cells #[.bool false, .int .i64 0, .slice (some ⟨e1, 0, none⟩) 1 1, .bool false, .int .i64 0, .slice (some ⟨e2, 0, none⟩) 1 1] 27)) := (Below.refl _ _).alloc (Nat.le_refl _) _
  obtain ⟨G, hG⟩ : ∃ G, G = wv.heap.size := ⟨_, rfl⟩
  have hGo := heap_alloc_new wv (.cells #[.bool false, .int .i64 0, .slice (some ⟨e1, 0, none⟩) 1 1, .bool false, .int .i64 0, .slice (some ⟨e2, 0, none⟩) 1 1] 27)
  rw [← hG] at hGo ⊢
  clear hG
  have hAA : AtA (wv.alloc (.cells #[.bool false, .int .i64 0, .slice (some ⟨e1, 0, none⟩) 1 1, .bool false, .int .i64 0, .slice (some ⟨e2, 0, none⟩) 1 1] 27)) (some ⟨G, 0, none⟩) [oneArg (some ⟨e1, 0, none⟩) (2, 0, ⟨#[116]⟩), oneArg (some ⟨e2, 0, none⟩) (ky, ny, sy)] := atA_lit (by simp) hGo rfl (fun a ha => by
    simp only [List.mem_cons, List.not_mem_nil, or_false] at ha
    rcases ha with rfl | rfl
    · exact ha1.below hbn
    · exact ha2.below hbn)
  clear hGo ha1 ha2
  obtain ⟨wn, hwn⟩ : ∃ wn, wn = wv.alloc (.cells #[.bool false, .int .i64 0, .slice (some ⟨e1, 0, none⟩) 1 1, .bool false, .int .i64 0, .slice (some ⟨e2, 0, none⟩) 1 1] 27) := ⟨_, rfl⟩
  rw [← hwn] at hbn hAA ⊢
  clear hwn
  have hbw := hbw.trans (hbn.mono hbw.size)
  have hX := (hbn.block _ hXl).trans hX
  have hY := (hbn.block _ hYl).trans hY
  have hZ := (hbn.block _ hZl).trans hZ
  have hV := (hbn.block _ hVl).trans hV
  have hU := (hbn.block _ hUl).trans hU
  clear hXl hYl hZl hVl hUl hbn
  generalize wn = wv at *
  have hXl : P < wv.heap.size := (Array.getElem?_eq_some_iff.1 hX).1
  have hYl : P + 1 < wv.heap.size := (Array.getElem?_eq_some_iff.1 hY).1
  have hZl : P + 1 + 1 < wv.heap.size := (Array.getElem?_eq_some_iff.1 hZ).1
  have hVl : V < wv.heap.size := (Array.getElem?_eq_some_iff.1 hV).1
  have hUl : U < wv.heap.size := (Array.getElem?_eq_some_iff.1 hU).1
  conv => arg 4; whnf
  conv => arg 4; arg 1; whnf
  refine pt_eff (by rfl) (fun K hK => ?_)
  go_wp2_with fail
  refine (C2.out _ _ _ _ _ hAA).mono ?_
  rintro en wn ⟨rfl, hbn⟩
  refine hK _ _ hbn ?_
  clear hK K
  clear hAA
  have hbw := hbw.trans (hbn.mono hbw.size)
  have hX := (hbn.block _ hXl).trans hX
  have hY := (hbn.block _ hYl).trans hY
  have hZ := (hbn.block _ hZl).trans hZ
  have hV := (hbn.block _ hVl).trans hV
  have hU := (hbn.block _ hUl).trans hU
  clear hXl hYl hZl hVl hUl hbn
  generalize wn = wv at *
  have hXl : P < wv.heap.size := (Array.getElem?_eq_some_iff.1 hX).1
  have hYl : P + 1 < wv.heap.size := (Array.getElem?_eq_some_iff.1 hY).1
  have hZl : P + 1 + 1 < wv.heap.size := (Array.getElem?_eq_some_iff.1 hZ).1
  have hVl : V < wv.heap.size := (Array.getElem?_eq_some_iff.1 hV).1
  have hUl : U < wv.heap.size := (Array.getElem?_eq_some_iff.1 hU).1
  obtain ⟨r0, r1, r2, z0, z1, z2⟩ := val3 hU
  conv => arg 4; whnf
  conv => arg 4; arg 1; whnf
  refine pt_last (by rfl) (fun K hK => ?_)
  go_wp2_with fail
  clear r0 r1 r2 z0 z1 z2
  have hz := val_store (x := .int .i64 4) (y := .int .i64 1) (z := .string ⟨#[]⟩) hU
  have qX := blk3JBad (x := .int .i64 4) (y := .int .i64 1) (z := .string ⟨#[]⟩) (show P ≠ U by have := hfarU.out; omega) hX
  have qY := blk3JBad (x := .int .i64 4) (y := .int .i64 1) (z := .string ⟨#[]⟩) (show P + 1 ≠ U by have := hfarU.out; omega) hY
  have qZ := blk3JBad (x := .int .i64 4) (y := .int .i64 1) (z := .string ⟨#[]⟩) (show P + 1 + 1 ≠ U by have := hfarU.out; omega) hZ
  have qV := blk3JBad (x := .int .i64 4) (y := .int .i64 1) (z := .string ⟨#[]⟩) (show V ≠ U by have := hfarUV.out; omega) hV
  have hbw := ((hbw.setCell (p := ⟨U, 0, none⟩) hbigU.out (.int .i64 4)).setCell (p := ⟨U, 1, none⟩) hbigU.out (.int .i64 1)).setCell (p := ⟨U, 2, none⟩) hbigU.out (.string ⟨#[]⟩)
  clear hX hY hZ hV hU hXl hYl hZl hVl hUl
  have hU := hz
  have hX := qX
  have hY := qY
  have hZ := qZ
  have hV := qV
  clear hz qX qY qZ qV
  generalize (((wv.setCell ⟨U, 0, none⟩ (.int .i64 4)).setCell ⟨U, 1, none⟩ (.int .i64 1)).setCell ⟨U, 2, none⟩ (.string ⟨#[]⟩)) = wv at *
  have hXl : P < wv.heap.size := (Array.getElem?_eq_some_iff.1 hX).1
  have hYl : P + 1 < wv.heap.size := (Array.getElem?_eq_some_iff.1 hY).1
  have hZl : P + 1 + 1 < wv.heap.size := (Array.getElem?_eq_some_iff.1 hZ).1
  have hVl : V < wv.heap.size := (Array.getElem?_eq_some_iff.1 hV).1
  have hUl : U < wv.heap.size := (Array.getElem?_eq_some_iff.1 hU).1
  refine pt_nil ?_
  obtain ⟨x0, x1, x2, _⟩ := val3 hX
  obtain ⟨y0, y1, y2, _⟩ := val3 hY
  obtain ⟨z0, z1, z2, _⟩ := val3 hZ
  obtain ⟨v0, v1, v2, _⟩ := val3 hV
  obtain ⟨u0, u1, u2, _⟩ := val3 hU
  clear hX hY hZ hV hU hXl hYl hZl hVl hUl
  go_wp2_with fail
  refine (awake8 _).mono ?_
  rintro en wn ⟨rfl, hbn⟩
  clear x0 x1 x2 y0 y1 y2 z0 z1 z2 v0 v1 v2 u0 u1 u2
  go_wp2
  go_ret
  exact ⟨rfl, hbw.trans (hbn.mono hbw.size)⟩
  conv => arg 4; whnf
  conv => arg 4; arg 1; whnf
  refine pt_eff (by rfl) (fun K hK => ?_)
  go_wp2_with fail
  refine hK _ _ ((Below.refl _ _).alloc (Nat.le_refl _) _) ?_
  clear hK K
  have hbn : Below wv.heap.size wv (wv.alloc (.cells #[.int .i64 0, .int .i64 0, .string ⟨#[]⟩] 31)) := (Below.refl _ _).alloc (Nat.le_refl _) _
  obtain ⟨U, hG⟩ : ∃ G, G = wv.heap.size := ⟨_, rfl⟩
  have hnew := heap_alloc_new wv (.cells #[.int .i64 0, .int .i64 0, .string ⟨#[]⟩] 31)
  have hfarU := Lib.hid (show P + 1 + 1 < U by omega)
  have hfarUV := Lib.hid (show V < U by omega)
  have hbigU := Lib.hid (show w.heap.size ≤ U by have := hbw.size; omega)
  rw [← hG] at hnew ⊢
  clear hG
  obtain ⟨wn, hwn⟩ : ∃ wn, wn = wv.alloc (.cells #[.int .i64 0, .int .i64 0, .string ⟨#[]⟩] 31) := ⟨_, rfl⟩
  rw [← hwn] at hbn hnew ⊢
  clear hwn
  have hbw := hbw.trans (hbn.mono hbw.size)
  have hX := (hbn.block _ hXl).trans hX
  have hY := (hbn.block _ hYl).trans hY
  have hZ := (hbn.block _ hZl).trans hZ
  have hV := (hbn.block _ hVl).trans hV
  have ha1 := ha1.below hbn
  clear hXl hYl hZl hVl hbn
  generalize wn = wv at *
  have hXl : P < wv.heap.size := (Array.getElem?_eq_some_iff.1 hX).1
  have hYl : P + 1 < wv.heap.size := (Array.getElem?_eq_some_iff.1 hY).1
  have hZl : P + 1 + 1 < wv.heap.size := (Array.getElem?_eq_some_iff.1 hZ).1
  have hVl : V < wv.heap.size := (Array.getElem?_eq_some_iff.1 hV).1
  have hU := hnew
  clear hnew
  have hUl : U < wv.heap.size := (Array.getElem?_eq_some_iff.1 hU).1
  conv => arg 4; whnf
  conv => arg 4; arg 1; whnf
  refine pt_eff (by rfl) (fun K hK => ?_)
  go_wp2_with fail
  refine (lone_any _ ky ny sy).mono ?_
  rintro en wn ⟨e2, rfl, hbn, hnew⟩
  refine hK _ _ hbn ?_
  clear hK K
  have hbw := hbw.trans (hbn.mono hbw.size)
  have hX := (hbn.block _ hXl).trans hX
  have hY := (hbn.block _ hYl).trans hY
  have hZ := (hbn.block _ hZl).trans hZ
  have hV := (hbn.block _ hVl).trans hV
  have hU := (hbn.block _ hUl).trans hU
  have ha1 := ha1.below hbn
  clear hXl hYl hZl hVl hUl hbn
  generalize wn = wv at *
  have hXl : P < wv.heap.size := (Array.getElem?_eq_some_iff.1 hX).1
  have hYl : P + 1 < wv.heap.size := (Array.getElem?_eq_some_iff.1 hY).1
  have hZl : P + 1 + 1 < wv.heap.size := (Array.getElem?_eq_some_iff.1 hZ).1
  have hVl : V < wv.heap.size := (Array.getElem?_eq_some_iff.1 hV).1
  have hUl : U < wv.heap.size := (Array.getElem?_eq_some_iff.1 hU).1
  have ha2 := hnew
  clear hnew
  conv => arg 4; whnf
  conv => arg 4; arg 1; whnf
  refine pt_eff (by rfl) (fun K hK => ?_)
  go_wp2_with fail
  refine hK _ _ ((Below.refl _ _).alloc (Nat.le_refl _) _) ?_
  clear hK K
  have hbn : Below wv.heap.size wv (wv.alloc (.cells #[.bool false, .int .i64 0, .slice (some ⟨e1, 0, none⟩) 1 1, .bool false, .int .i64 0, .slice (some ⟨e2, 0, none⟩) 1 1] 27)) := (Below.refl _ _).alloc (Nat.le_refl _) _
  obtain ⟨G, hG⟩ : ∃ G, G = wv.heap.size := ⟨_, rfl⟩
  have hGo := heap_alloc_new wv (.cells #[.bool false, .int .i64 0, .slice (some ⟨e1, 0, none⟩) 1 1, .bool false, .int .i64 0, .slice (some ⟨e2, 0, none⟩) 1 1] 27)
  rw [← hG] at hGo ⊢
  clear hG
  have hAA : AtA (wv.alloc (.cells #[.bool false, .int .i64 0, .slice (some ⟨e1, 0, none⟩) 1 1, .bool false, .int .i64 0, .slice (some ⟨e2, 0, none⟩) 1 1] 27)) (some ⟨G, 0, none⟩) [oneArg (some ⟨e1, 0, none⟩) (2, 0, ⟨#[116]⟩), oneArg (some ⟨e2, 0, none⟩) (ky, ny, sy)] := atA_lit (by simp) hGo rfl (fun a ha => by
    simp only [List.mem_cons, List.not_mem_nil, or_false] at ha
    rcases ha with rfl | rfl
    · exact ha1.below hbn
    · exact ha2.below hbn)
  clear hGo ha1 ha2
  obtain ⟨wn, hwn⟩ : ∃ wn, wn = wv.alloc (.cells #[.bool false, .int .i64 0, .slice (some ⟨e1, 0, none⟩) 1 1, .bool false, .int .i64 0, .slice (some ⟨e2, 0, none⟩) 1 1] 27) := ⟨_, rfl⟩
  rw [← hwn] at hbn hAA ⊢
  clear hwn
  have hbw := hbw.trans (hbn.mono hbw.size)
  have hX := (hbn.block _ hXl).trans hX
  have hY := (hbn.block _ hYl).trans hY
  have hZ := (hbn.block _ hZl).trans hZ
  have hV := (hbn.block _ hVl).trans hV
  have hU := (hbn.block _ hUl).trans hU
  clear hXl hYl hZl hVl hUl hbn
  generalize wn = wv at *
  have hXl : P < wv.heap.size := (Array.getElem?_eq_some_iff.1 hX).1
  have hYl : P + 1 < wv.heap.size := (Array.getElem?_eq_some_iff.1 hY).1
  have hZl : P + 1 + 1 < wv.heap.size := (Array.getElem?_eq_some_iff.1 hZ).1
  have hVl : V < wv.heap.size := (Array.getElem?_eq_some_iff.1 hV).1
  have hUl : U < wv.heap.size := (Array.getElem?_eq_some_iff.1 hU).1
  conv => arg 4; whnf
  conv => arg 4; arg 1; whnf
  refine pt_eff (by rfl) (fun K hK => ?_)
  go_wp2_with fail
  refine (C2.out _ _ _ _ _ hAA).mono ?_
  rintro en wn ⟨rfl, hbn⟩
  refine hK _ _ hbn ?_
  clear hK K
  clear hAA
  have hbw := hbw.trans (hbn.mono hbw.size)
  have hX := (hbn.block _ hXl).trans hX
  have hY := (hbn.block _ hYl).trans hY
  have hZ := (hbn.block _ hZl).trans hZ
  have hV := (hbn.block _ hVl).trans hV
  have hU := (hbn.block _ hUl).trans hU
  clear hXl hYl hZl hVl hUl hbn
  generalize wn = wv at *
  have hXl : P < wv.heap.size := (Array.getElem?_eq_some_iff.1 hX).1
  have hYl : P + 1 < wv.heap.size := (Array.getElem?_eq_some_iff.1 hY).1
  have hZl : P + 1 + 1 < wv.heap.size := (Array.getElem?_eq_some_iff.1 hZ).1
  have hVl : V < wv.heap.size := (Array.getElem?_eq_some_iff.1 hV).1
  have hUl : U < wv.heap.size := (Array.getElem?_eq_some_iff.1 hU).1
  obtain ⟨r0, r1, r2, z0, z1, z2⟩ := val3 hU
  conv => arg 4; whnf
  conv => arg 4; arg 1; whnf
  refine pt_last (by rfl) (fun K hK => ?_)
  go_wp2_with fail
  clear r0 r1 r2 z0 z1 z2
  have hz := val_store (x := .int .i64 4) (y := .int .i64 1) (z := .string ⟨#[]⟩) hU
  have qX := blk3JBad (x := .int .i64 4) (y := .int .i64 1) (z := .string ⟨#[]⟩) (show P ≠ U by have := hfarU.out; omega) hX
  have qY := blk3JBad (x := .int .i64 4) (y := .int .i64 1) (z := .string ⟨#[]⟩) (show P + 1 ≠ U by have := hfarU.out; omega) hY
  have qZ := blk3JBad (x := .int .i64 4) (y := .int .i64 1) (z := .string ⟨#[]⟩) (show P + 1 + 1 ≠ U by have := hfarU.out; omega) hZ
  have qV := blk3JBad (x := .int .i64 4) (y := .int .i64 1) (z := .string ⟨#[]⟩) (show V ≠ U by have := hfarUV.out; omega) hV
  have hbw := ((hbw.setCell (p := ⟨U, 0, none⟩) hbigU.out (.int .i64 4)).setCell (p := ⟨U, 1, none⟩) hbigU.out (.int .i64 1)).setCell (p := ⟨U, 2, none⟩) hbigU.out (.string ⟨#[]⟩)
  clear hX hY hZ hV hU hXl hYl hZl hVl hUl
  have hU := hz
  have hX := qX
  have hY := qY
  have hZ := qZ
  have hV := qV
  clear hz qX qY qZ qV
  generalize (((wv.setCell ⟨U, 0, none⟩ (.int .i64 4)).setCell ⟨U, 1, none⟩ (.int .i64 1)).setCell ⟨U, 2, none⟩ (.string ⟨#[]⟩)) = wv at *
  have hXl : P < wv.heap.size := (Array.getElem?_eq_some_iff.1 hX).1
  have hYl : P + 1 < wv.heap.size := (Array.getElem?_eq_some_iff.1 hY).1
  have hZl : P + 1 + 1 < wv.heap.size := (Array.getElem?_eq_some_iff.1 hZ).1
  have hVl : V < wv.heap.size := (Array.getElem?_eq_some_iff.1 hV).1
  have hUl : U < wv.heap.size := (Array.getElem?_eq_some_iff.1 hU).1
  refine pt_nil ?_
  obtain ⟨x0, x1, x2, _⟩ := val3 hX
  obtain ⟨y0, y1, y2, _⟩ := val3 hY
  obtain ⟨z0, z1, z2, _⟩ := val3 hZ
  obtain ⟨v0, v1, v2, _⟩ := val3 hV
  obtain ⟨u0, u1, u2, _⟩ := val3 hU
  clear hX hY hZ hV hU hXl hYl hZl hVl hUl
  go_wp2_with fail
  refine (awake8 _).mono ?_
  rintro en wn ⟨rfl, hbn⟩
  clear x0 x1 x2 y0 y1 y2 z0 z1 z2 v0 v1 v2 u0 u1 u2
  go_wp2
  go_ret
  exact ⟨rfl, hbw.trans (hbn.mono hbw.size)⟩
  conv => arg 4; whnf
  conv => arg 4; arg 1; whnf
  refine pt_eff (by rfl) (fun K hK => ?_)
  go_wp2_with fail
  refine hK _ _ ((Below.refl _ _).alloc (Nat.le_refl _) _) ?_
  clear hK K
  have hbn : Below wv.heap.size wv (wv.alloc (.cells #[.int .i64 0, .int .i64 0, .string ⟨#[]⟩] 31)) := (Below.refl _ _).alloc (Nat.le_refl _) _
  obtain ⟨U, hG⟩ : ∃ G, G = wv.heap.size := ⟨_, rfl⟩
  have hnew := heap_alloc_new wv (.cells #[.int .i64 0, .int .i64 0, .string ⟨#[]⟩] 31)
  have hfarU := Lib.hid (show P + 1 + 1 < U by omega)
  have hfarUV := Lib.hid (show V < U by omega)
  have hbigU := Lib.hid (show w.heap.size ≤ U by have := hbw.size; omega)
  rw [← hG] at hnew ⊢
  clear hG
  obtain ⟨wn, hwn⟩ : ∃ wn, wn = wv.alloc (.cells #[.int .i64 0, .int .i64 0, .string ⟨#[]⟩] 31) := ⟨_, rfl⟩
  rw [← hwn] at hbn hnew ⊢
  clear hwn
  have hbw := hbw.trans (hbn.mono hbw.size)
  have hX := (hbn.block _ hXl).trans hX
  have hY := (hbn.block _ hYl).trans hY
  have hZ := (hbn.block _ hZl).trans hZ
  have hV := (hbn.block _ hVl).trans hV
  clear hXl hYl hZl hVl hbn
  generalize wn = wv at *
  have hXl : P < wv.heap.size := (Array.getElem?_eq_some_iff.1 hX).1
  have hYl : P + 1 < wv.heap.size := (Array.getElem?_eq_some_iff.1 hY).1
  have hZl : P + 1 + 1 < wv.heap.size := (Array.getElem?_eq_some_iff.1 hZ).1
  have hVl : V < wv.heap.size := (Array.getElem?_eq_some_iff.1 hV).1
  have hU := hnew
  clear hnew
  have hUl : U < wv.heap.size := (Array.getElem?_eq_some_iff.1 hU).1
  conv => arg 4; whnf
  conv => arg 4; arg 1; whnf
  refine pt_eff (by rfl) (fun K hK => ?_)
  go_wp2_with fail
  refine (lone_any _ 2 0 ⟨#[116]⟩).mono ?_
  rintro en wn ⟨e1, rfl, hbn, hnew⟩
  refine hK _ _ hbn ?_
  clear hK K
  have hbw := hbw.trans (hbn.mono hbw.size)
  have hX := (hbn.block _ hXl).trans hX
  have hY := (hbn.block _ hYl).trans hY
  have hZ := (hbn.block _ hZl).trans hZ
  have hV := (hbn.block _ hVl).trans hV
  have hU := (hbn.block _ hUl).trans hU
  clear hXl hYl hZl hVl hUl hbn
  generalize wn = wv at *
  have hXl : P < wv.heap.size := (Array.getElem?_eq_some_iff.1 hX).1
  have hYl : P + 1 < wv.heap.size := (Array.getElem?_eq_some_iff.1 hY).1
  have hZl : P + 1 + 1 < wv.heap.size := (Array.getElem?_eq_some_iff.1 hZ).1
  have hVl : V < wv.heap.size := (Array.getElem?_eq_some_iff.1 hV).1
  have hUl : U < wv.heap.size := (Array.getElem?_eq_some_iff.1 hU).1
  have ha1 := hnew
  clear hnew
  conv => arg 4; whnf
  conv => arg 4; arg 1; whnf
  refine pt_eff (by rfl) (fun K hK => ?_)
  go_wp2_with fail
  refine (lone_any _ ky ny sy).mono ?_
  rintro en wn ⟨e2, rfl, hbn, hnew⟩
  refine hK _ _ hbn ?_
  clear hK K
  have hbw := hbw.trans (hbn.mono hbw.size)
  have hX := (hbn.block _ hXl).trans hX
  have hY := (hbn.block _ hYl).trans hY
  have hZ := (hbn.block _ hZl).trans hZ
  have hV := (hbn.block _ hVl).trans hV
  have hU := (hbn.block _ hUl).trans hU
  have ha1 := ha1.below hbn
  clear hXl hYl hZl hVl hUl hbn
  generalize wn = wv at *
  have hXl : P < wv.heap.size := (Array.getElem?_eq_some_iff.1 hX).1
  have hYl : P + 1 < wv.heap.size := (Array.getElem?_eq_some_iff.1 hY).1
  have hZl : P + 1 + 1 < wv.heap.size := (Array.getElem?_eq_some_iff.1 hZ).1
  have hVl : V < wv.heap.size := (Array.getElem?_eq_some_iff.1 hV).1
  have hUl : U < wv.heap.size := (Array.getElem?_eq_some_iff.1 hU).1
  have ha2 := hnew
  clear hnew
  conv => arg 4; whnf
  conv => arg 4; arg 1; whnf
  refine pt_eff (by rfl) (fun K hK => ?_)
  go_wp2_with fail
  refine hK _ _ ((Below.refl _ _).alloc (Nat.le_refl _) _) ?_
  clear hK K
  have hbn : Below wv.heap.size wv (wv.alloc (.cells #[.bool false, .int .i64 0, .slice (some ⟨e1, 0, none⟩) 1 1, .bool false, .int .i64 0, .slice (some ⟨e2, 0, none⟩) 1 1] 27)) := (Below.refl _ _).alloc (Nat.le_refl _) _
  obtain ⟨G, hG⟩ : ∃ G, G = wv.heap.size := ⟨_, rfl⟩
  have hGo := heap_alloc_new wv (.cells #[.bool false, .int .i64 0, .slice (some ⟨e1, 0, none⟩) 1 1, .bool false, .int .i64 0, .slice (some ⟨e2, 0, none⟩) 1 1] 27)
  rw [← hG] at hGo ⊢
  clear hG
  have hAA : AtA (wv.alloc (.cells #[.bool false, .int .i64 0, .slice (some ⟨e1, 0, none⟩) 1 1, .bool false, .int .i64 0, .slice (some ⟨e2, 0, none⟩) 1 1] 27)) (some ⟨G, 0, none⟩) [oneArg (some ⟨e1, 0, none⟩) (2, 0, ⟨#[116]⟩), oneArg (some ⟨e2, 0, none⟩) (ky, ny, sy)] := atA_lit (by simp) hGo rfl (fun a ha => by
    simp only [List.mem_cons, List.not_mem_nil, or_false] at ha
    rcases ha with rfl | rfl
    · exact ha1.below hbn
    · exact ha2.below hbn)
  clear hGo ha1 ha2
  obtain ⟨wn, hwn⟩ : ∃ wn, wn = wv.alloc (.cells #[.bool false, .int .i64 0, .slice (some ⟨e1, 0, none⟩) 1 1, .bool false, .int .i64 0, .slice (some ⟨e2, 0, none⟩) 1 1] 27) := ⟨_, rfl⟩
  rw [← hwn] at hbn hAA ⊢
  clear hwn
  have hbw := hbw.trans (hbn.mono hbw.size)
  have hX := (hbn.block _ hXl).trans hX
  have hY := (hbn.block _ hYl).trans hY
  have hZ := (hbn.block _ hZl).trans hZ
  have hV := (hbn.block _ hVl).trans hV
  have hU := (hbn.block _ hUl).trans hU
  clear hXl hYl hZl hVl hUl hbn
  generalize wn = wv at *
  have hXl : P < wv.heap.size := (Array.getElem?_eq_some_iff.1 hX).1
  have hYl : P + 1 < wv.heap.size := (Array.getElem?_eq_some_iff.1 hY).1
  have hZl : P + 1 + 1 < wv.heap.size := (Array.getElem?_eq_some_iff.1 hZ).1
  have hVl : V < wv.heap.size := (Array.getElem?_eq_some_iff.1 hV).1
  have hUl : U < wv.heap.size := (Array.getElem?_eq_some_iff.1 hU).1
  conv => arg 4; whnf
  conv => arg 4; arg 1; whnf
  refine pt_eff (by rfl) (fun K hK => ?_)
  go_wp2_with fail
  refine (C2.out _ _ _ _ _ hAA).mono ?_
  rintro en wn ⟨rfl, hbn⟩
  refine hK _ _ hbn ?_
  clear hK K
  clear hAA
  have hbw := hbw.trans (hbn.mono hbw.size)
  have hX := (hbn.block _ hXl).trans hX
  have hY := (hbn.block _ hYl).trans hY
  have hZ := (hbn.block _ hZl).trans hZ
  have hV := (hbn.block _ hVl).trans hV
  have hU := (hbn.block _ hUl).trans hU
  clear hXl hYl hZl hVl hUl hbn
  generalize wn = wv at *
  have hXl : P < wv.heap.size := (Array.getElem?_eq_some_iff.1 hX).1
  have hYl : P + 1 < wv.heap.size := (Array.getElem?_eq_some_iff.1 hY).1
  have hZl : P + 1 + 1 < wv.heap.size := (Array.getElem?_eq_some_iff.1 hZ).1
  have hVl : V < wv.heap.size := (Array.getElem?_eq_some_iff.1 hV).1
  have hUl : U < wv.heap.size := (Array.getElem?_eq_some_iff.1 hU).1
  obtain ⟨r0, r1, r2, z0, z1, z2⟩ := val3 hU
  conv => arg 4; whnf
  conv => arg 4; arg 1; whnf
  refine pt_last (by rfl) (fun K hK => ?_)
  go_wp2_with fail
  clear r0 r1 r2 z0 z1 z2
  have hz := val_store (x := .int .i64 4) (y := .int .i64 1) (z := .string ⟨#[]⟩) hU
  have qX := blk3JBad (x := .int .i64 4) (y := .int .i64 1) (z := .string ⟨#[]⟩) (show P ≠ U by have := hfarU.out; omega) hX
  have qY := blk3JBad (x := .int .i64 4) (y := .int .i64 1) (z := .string ⟨#[]⟩) (show P + 1 ≠ U by have := hfarU.out; omega) hY
  have qZ := blk3JBad (x := .int .i64 4) (y := .int .i64 1) (z := .string ⟨#[]⟩) (show P + 1 + 1 ≠ U by have := hfarU.out; omega) hZ
  have qV := blk3JBad (x := .int .i64 4) (y := .int .i64 1) (z := .string ⟨#[]⟩) (show V ≠ U by have := hfarUV.out; omega) hV
  have hbw := ((hbw.setCell (p := ⟨U, 0, none⟩) hbigU.out (.int .i64 4)).setCell (p := ⟨U, 1, none⟩) hbigU.out (.int .i64 1)).setCell (p := ⟨U, 2, none⟩) hbigU.out (.string ⟨#[]⟩)
  clear hX hY hZ hV hU hXl hYl hZl hVl hUl
  have hU := hz
  have hX := qX
  have hY := qY
  have hZ := qZ
  have hV := qV
  clear hz qX qY qZ qV
  generalize (((wv.setCell ⟨U, 0, none⟩ (.int .i64 4)).setCell ⟨U, 1, none⟩ (.int .i64 1)).setCell ⟨U, 2, none⟩ (.string ⟨#[]⟩)) = wv at *
  have hXl : P < wv.heap.size := (Array.getElem?_eq_some_iff.1 hX).1
  have hYl : P + 1 < wv.heap.size := (Array.getElem?_eq_some_iff.1 hY).1
  have hZl : P + 1 + 1 < wv.heap.size := (Array.getElem?_eq_some_iff.1 hZ).1
  have hVl : V < wv.heap.size := (Array.getElem?_eq_some_iff.1 hV).1
  have hUl : U < wv.heap.size := (Array.getElem?_eq_some_iff.1 hU).1
  refine pt_nil ?_
  obtain ⟨x0, x1, x2, _⟩ := val3 hX
  obtain ⟨y0, y1, y2, _⟩ := val3 hY
  obtain ⟨z0, z1, z2, _⟩ := val3 hZ
  obtain ⟨v0, v1, v2, _⟩ := val3 hV
  obtain ⟨u0, u1, u2, _⟩ := val3 hU
  clear hX hY hZ hV hU hXl hYl hZl hVl hUl
  go_wp2_with fail
  refine (awake8 _).mono ?_
  rintro en wn ⟨rfl, hbn⟩
  clear x0 x1 x2 y0 y1 y2 z0 z1 z2 v0 v1 v2 u0 u1 u2
  go_wp2
  go_ret
  exact ⟨rfl, hbw.trans (hbn.mono hbw.size)⟩
  conv => arg 4; whnf
  conv => arg 4; arg 1; whnf
  refine pt_eff (by rfl) (fun K hK => ?_)
  go_wp2_with fail
  refine hK _ _ ((Below.refl _ _).alloc (Nat.le_refl _) _) ?_
  clear hK K
  have hbn : Below wv.heap.size wv (wv.alloc (.cells #[.int .i64 0, .int .i64 0, .string ⟨#[]⟩] 31)) := (Below.refl _ _).alloc (Nat.le_refl _) _
  obtain ⟨V, hG⟩ : ∃ G, G = wv.heap.size := ⟨_, rfl⟩
  have hnew := heap_alloc_new wv (.cells #[.int .i64 0, .int .i64 0, .string ⟨#[]⟩] 31)
  have hfarV := Lib.hid (show P + 1 + 1 < V by omega)
  have hbigV := Lib.hid (show w.heap.size ≤ V by have := hbw.size; omega)
  rw [← hG] at hnew ⊢
  clear hG
  obtain ⟨wn, hwn⟩ : ∃ wn, wn = wv.alloc (.cells #[.int .i64 0, .int .i64 0, .string ⟨#[]⟩] 31) := ⟨_, rfl⟩
  rw [← hwn] at hbn hnew ⊢
  clear hwn
  have hbw := hbw.trans (hbn.mono hbw.size)
  have hX := (hbn.block _ hXl).trans hX
  have hY := (hbn.block _ hYl).trans hY
  have hZ := (hbn.block _ hZl).trans hZ
  have hv1 := hv1.below hbn
  clear hXl hYl hZl hbn
  generalize wn = wv at *
  have hXl : P < wv.heap.size := (Array.getElem?_eq_some_iff.1 hX).1
  have hYl : P + 1 < wv.heap.size := (Array.getElem?_eq_some_iff.1 hY).1
  have hZl : P + 1 + 1 < wv.heap.size := (Array.getElem?_eq_some_iff.1 hZ).1
  have hV := hnew
  clear hnew
  have hVl : V < wv.heap.size := (Array.getElem?_eq_some_iff.1 hV).1
  conv => arg 4; whnf
  conv => arg 4; arg 1; whnf
  refine pt_eff (by rfl) (fun K hK => ?_)
  go_wp2_with fail
  refine (lone_any _ ky ny sy).mono ?_
  rintro en wn ⟨g2, rfl, hbn, hnew⟩
  refine hK _ _ hbn ?_
  clear hK K
  have hbw := hbw.trans (hbn.mono hbw.size)
  have hX := (hbn.block _ hXl).trans hX
  have hY := (hbn.block _ hYl).trans hY
  have hZ := (hbn.block _ hZl).trans hZ
  have hV := (hbn.block _ hVl).trans hV
  have hv1 := hv1.below hbn
  clear hXl hYl hZl hVl hbn
  generalize wn = wv at *
  have hXl : P < wv.heap.size := (Array.getElem?_eq_some_iff.1 hX).1
  have hYl : P + 1 < wv.heap.size := (Array.getElem?_eq_some_iff.1 hY).1
  have hZl : P + 1 + 1 < wv.heap.size := (Array.getElem?_eq_some_iff.1 hZ).1
  have hVl : V < wv.heap.size := (Array.getElem?_eq_some_iff.1 hV).1
  have hv2 := hnew
  clear hnew
  conv => arg 4; whnf
  conv => arg 4; arg 1; whnf
  refine pt_eff (by rfl) (fun K hK => ?_)
  go_wp2_with fail
  refine (lone_any _ kz nz sz).mono ?_
  rintro en wn ⟨g3, rfl, hbn, hnew⟩
  refine hK _ _ hbn ?_
  clear hK K
  have hbw := hbw.trans (hbn.mono hbw.size)
  have hX := (hbn.block _ hXl).trans hX
  have hY := (hbn.block _ hYl).trans hY
  have hZ := (hbn.block _ hZl).trans hZ
  have hV := (hbn.block _ hVl).trans hV
  have hv1 := hv1.below hbn
  have hv2 := hv2.below hbn
  clear hXl hYl hZl hVl hbn
  generalize wn = wv at *
  have hXl : P < wv.heap.size := (Array.getElem?_eq_some_iff.1 hX).1
  have hYl : P + 1 < wv.heap.size := (Array.getElem?_eq_some_iff.1 hY).1
  have hZl : P + 1 + 1 < wv.heap.size := (Array.getElem?_eq_some_iff.1 hZ).1
  have hVl : V < wv.heap.size := (Array.getElem?_eq_some_iff.1 hV).1
  have hv3 := hnew
  clear hnew
  conv => arg 4; whnf
  conv => arg 4; arg 1; whnf
  refine pt_eff (by rfl) (fun K hK => ?_)
  go_wp2_with fail
  refine hK _ _ ((Below.refl _ _).alloc (Nat.le_refl _) _) ?_
  clear hK K
  have hbn : Below wv.heap.size wv (wv.alloc (.cells #[.bool false, .int .i64 0, .slice (some ⟨g1, 0, none⟩) 1 1, .bool false, .int .i64 0, .slice (some ⟨g2, 0, none⟩) 1 1, .bool false, .int .i64 0, .slice (some ⟨g3, 0, none⟩) 1 1] 27)) := (Below.refl _ _).alloc (Nat.le_refl _) _
  obtain ⟨G, hG⟩ : ∃ G, G = wv.heap.size := ⟨_, rfl⟩
  have hGo := heap_alloc_new wv (.cells #[.bool false, .int .i64 0, .slice (some ⟨g1, 0, none⟩) 1 1, .bool false, .int .i64 0, .slice (some ⟨g2, 0, none⟩) 1 1, .bool false, .int .i64 0, .slice (some ⟨g3, 0, none⟩) 1 1] 27)
  rw [← hG] at hGo ⊢
  clear hG
  have hAA : AtA (wv.alloc (.cells #[.bool false, .int .i64 0, .slice (some ⟨g1, 0, none⟩) 1 1, .bool false, .int .i64 0, .slice (some ⟨g2, 0, none⟩) 1 1, .bool false, .int .i64 0, .slice (some ⟨g3, 0, none⟩) 1 1] 27)) (some ⟨G, 0, none⟩) [oneArg (some ⟨g1, 0, none⟩) (2, 0, ⟨#[116]⟩), oneArg (some ⟨g2, 0, none⟩) (ky, ny, sy), oneArg (some ⟨g3, 0, none⟩) (kz, nz, sz)] := atA_lit (by simp) hGo rfl (fun a ha => by
    simp only [List.mem_cons, List.not_mem_nil, or_false] at ha
    rcases ha with rfl | rfl | rfl
    · exact hv1.below hbn
    · exact hv2.below hbn
    · exact hv3.below hbn)
  clear hGo hv1 hv2 hv3
  obtain ⟨wn, hwn⟩ : ∃ wn, wn = wv.alloc (.cells #[.bool false, .int .i64 0, .slice (some ⟨g1, 0, none⟩) 1 1, .bool false, .int .i64 0, .slice (some ⟨g2, 0, none⟩) 1 1, .bool false, .int .i64 0, .slice (some ⟨g3, 0, none⟩) 1 1] 27) := ⟨_, rfl⟩
  rw [← hwn] at hbn hAA ⊢
  clear hwn
  have hbw := hbw.trans (hbn.mono hbw.size)
  have hX := (hbn.block _ hXl).trans hX
  have hY := (hbn.block _ hYl).trans hY
  have hZ := (hbn.block _ hZl).trans hZ
  have hV := (hbn.block _ hVl).trans hV
  clear hXl hYl hZl hVl hbn
  generalize wn = wv at *
  have hXl : P < wv.heap.size := (Array.getElem?_eq_some_iff.1 hX).1
  have hYl : P + 1 < wv.heap.size := (Array.getElem?_eq_some_iff.1 hY).1
  have hZl : P + 1 + 1 < wv.heap.size := (Array.getElem?_eq_some_iff.1 hZ).1
  have hVl : V < wv.heap.size := (Array.getElem?_eq_some_iff.1 hV).1
  conv => arg 4; whnf
  conv => arg 4; arg 1; whnf
  refine pt_eff (by rfl) (fun K hK => ?_)
  go_wp2_with fail
  refine (C3.out _ _ _ _ _ _ _ hAA).mono ?_
  rintro en wn ⟨rfl, hbn⟩
  refine hK _ _ hbn ?_
  clear hK K
  clear hAA
  have hbw := hbw.trans (hbn.mono hbw.size)
  have hX := (hbn.block _ hXl).trans hX
  have hY := (hbn.block _ hYl).trans hY
  have hZ := (hbn.block _ hZl).trans hZ
  have hV := (hbn.block _ hVl).trans hV
  clear hXl hYl hZl hVl hbn
  generalize wn = wv at *
  have hXl : P < wv.heap.size := (Array.getElem?_eq_some_iff.1 hX).1
  have hYl : P + 1 < wv.heap.size := (Array.getElem?_eq_some_iff.1 hY).1
  have hZl : P + 1 + 1 < wv.heap.size := (Array.getElem?_eq_some_iff.1 hZ).1
  have hVl : V < wv.heap.size := (Array.getElem?_eq_some_iff.1 hV).1
  obtain ⟨r0, r1, r2, z0, z1, z2⟩ := val3 hV
  conv => arg 4; whnf
  conv => arg 4; arg 1; whnf
  refine pt_last (by rfl) (fun K hK => ?_)
  go_wp2_with fail
  clear r0 r1 r2 z0 z1 z2
  have hz := val_store (x := .int .i64 4) (y := .int .i64 1) (z := .string ⟨#[]⟩) hV
  have qX := blk3JBad (x := .int .i64 4) (y := .int .i64 1) (z := .string ⟨#[]⟩) (show P ≠ V by have := hfarV.out; omega) hX
  have qY := blk3JBad (x := .int .i64 4) (y := .int .i64 1) (z := .string ⟨#[]⟩) (show P + 1 ≠ V by have := hfarV.out; omega) hY
  have qZ := blk3JBad (x := .int .i64 4) (y := .int .i64 1) (z := .string ⟨#[]⟩) (show P + 1 + 1 ≠ V by have := hfarV.out; omega) hZ
  have hbw := ((hbw.setCell (p := ⟨V, 0, none⟩) hbigV.out (.int .i64 4)).setCell (p := ⟨V, 1, none⟩) hbigV.out (.int .i64 1)).setCell (p := ⟨V, 2, none⟩) hbigV.out (.string ⟨#[]⟩)
  clear hX hY hZ hV hXl hYl hZl hVl
  have hV := hz
  have hX := qX
  have hY := qY
  have hZ := qZ
  clear hz qX qY qZ
  generalize (((wv.setCell ⟨V, 0, none⟩ (.int .i64 4)).setCell ⟨V, 1, none⟩ (.int .i64 1)).setCell ⟨V, 2, none⟩ (.string ⟨#[]⟩)) = wv at *
  have hXl : P < wv.heap.size := (Array.getElem?_eq_some_iff.1 hX).1
  have hYl : P + 1 < wv.heap.size := (Array.getElem?_eq_some_iff.1 hY).1
  have hZl : P + 1 + 1 < wv.heap.size := (Array.getElem?_eq_some_iff.1 hZ).1
  have hVl : V < wv.heap.size := (Array.getElem?_eq_some_iff.1 hV).1
  refine pt_nil ?_
  go_wp2_with fail
  refine wp_region_tree [7] (.free 0 (.free 2 (.alt 1 (.alt 3 (.alt 4 (.alt 5 (.eff 6 (.last 7 (.nil))) 6 (.eff 5 (.last 7 (.nil)))) 6 (.eff 4 (.eff 5 (.last 7 (.nil))))) 6 (.eff 3 (.eff 4 (.eff 5 (.last 7 (.nil)))))) 6 (.eff 1 (.eff 3 (.eff 4 (.eff 5 (.last 7 (.nil))))))))) (by kernel_rfl) (by kernel_rfl) (fun _ _ d _ _ h => by cases d <;> exact h) ?_
  have hbw := hbw.drew
  have hX : wv.drew.heap[P]? = _ := hX
  have hY : wv.drew.heap[P + 1]? = _ := hY
  have hZ : wv.drew.heap[P + 1 + 1]? = _ := hZ
  have hV : wv.drew.heap[V]? = _ := hV
  clear hXl hYl hZl hVl
  generalize wv.drew = wv at *
  have hXl : P < wv.heap.size := (Array.getElem?_eq_some_iff.1 hX).1
  have hYl : P + 1 < wv.heap.size := (Array.getElem?_eq_some_iff.1 hY).1
  have hZl : P + 1 + 1 < wv.heap.size := (Array.getElem?_eq_some_iff.1 hZ).1
  have hVl : V < wv.heap.size := (Array.getElem?_eq_some_iff.1 hV).1
  conv => arg 4; whnf
  conv => arg 4; arg 1; whnf
  refine pt_loadB (k := P) (fun W h => load_val _ W _ _ _ (h.trans hX)) hXl (by rfl) rfl rfl ?_
  simp only [Act.put, List.setIfInBounds_toArray, List.set_cons_zero, List.set_cons_succ]
  conv => arg 4; whnf
  conv => arg 4; arg 1; whnf
  refine pt_loadB (k := P + 1) (fun W h => load_val _ W _ _ _ (h.trans hY)) hYl (by rfl) rfl rfl ?_
  simp only [Act.put, List.setIfInBounds_toArray, List.set_cons_zero, List.set_cons_succ]
  conv => arg 4; whnf
  refine pt_alt ?_ ?_
  conv => arg 4; whnf
  conv => arg 4; arg 1; whnf
  refine pt_eff (by rfl) (fun K hK => ?_)
  go_wp2_with fail
  refine (lone_any _ 2 0 ⟨#[116]⟩).mono ?_
  rintro en wn ⟨e1, rfl, hbn, hnew⟩
  refine hK _ _ hbn ?_
  clear hK K
  have hbw := hbw.trans (hbn.mono hbw.size)
  have hX := (hbn.block _ hXl).trans hX
  have hY := (hbn.block _ hYl).trans hY
  have hZ := (hbn.block _ hZl).trans hZ
  have hV := (hbn.block _ hVl).trans hV
  clear hXl hYl hZl hVl hbn
  generalize wn = wv at *
  have hXl : P < wv.heap.size := (Array.getElem?_eq_some_iff.1 hX).1
  have hYl : P + 1 < wv.heap.size := (Array.getElem?_eq_some_iff.1 hY).1
  have hZl : P + 1 + 1 < wv.heap.size := (Array.getElem?_eq_some_iff.1 hZ).1
  have hVl : V < wv.heap.size := (Array.getElem?_eq_some_iff.1 hV).1
  have ha1 := hnew
  clear hnew
  conv => arg 4; whnf
  refine pt_alt ?_ ?_
  conv => arg 4; whnf
  conv => arg 4; arg 1; whnf
  refine pt_eff (by rfl) (fun K hK => ?_)
  go_wp2_with fail
  refine (lone_any _ ky ny sy).mono ?_
  rintro en wn ⟨e2, rfl, hbn, hnew⟩
  refine hK _ _ hbn ?_
  clear hK K
  have hbw := hbw.trans (hbn.mono hbw.size)
  have hX := (hbn.block _ hXl).trans hX
  have hY := (hbn.block _ hYl).trans hY
  have hZ := (hbn.block _ hZl).trans hZ
  have hV := (hbn.block _ hVl).trans hV
  have ha1 := ha1.below hbn
  clear hXl hYl hZl hVl hbn
  generalize wn = wv at *
  have hXl : P < wv.heap.size := (Array.getElem?_eq_some_iff.1 hX).1
  have hYl : P + 1 < wv.heap.size := (Array.getElem?_eq_some_iff.1 hY).1
  have hZl : P + 1 + 1 < wv.heap.size := (Array.getElem?_eq_some_iff.1 hZ).1
  have hVl : V < wv.heap.size := (Array.getElem?_eq_some_iff.1 hV).1
  have ha2 := hnew
  clear hnew
  conv => arg 4; whnf
  refine pt_alt ?_ ?_
  conv => arg 4; whnf
  conv => arg 4; arg 1; whnf
  refine pt_eff (by rfl) (fun K hK => ?_)
  go_wp2_with fail
  refine hK _ _ ((Below.refl _ _).alloc (Nat.le_refl _) _) ?_
  clear hK K
  have hbn : Below wv.heap.size wv (wv.alloc (.cells #[.bool false, .int .i64 0, .slice (some ⟨e1, 0, none⟩) 1 1, .bool false, .int .i64 0, .slice (some ⟨e2, 0, none⟩) 1 1] 27)) := (Below.refl _ _).alloc (Nat.le_refl _) _
  obtain ⟨G, hG⟩ : ∃ G, G = wv.heap.size := ⟨_, rfl⟩
  have hGo := heap_alloc_new wv (.cells #[.bool false, .int .i64 0, .slice (some ⟨e1, 0, none⟩) 1 1, .bool false, .int .i64 0, .slice (some ⟨e2, 0, none⟩) 1 1] 27)
  rw [← hG] at hGo ⊢
  clear hG
  have hAA : AtA (wv.alloc (.cells #[.bool false, .int .i64 0, .slice (some ⟨e1, 0, none⟩) 1 1, .bool false, .int .i64 0, .slice (some ⟨e2, 0, none⟩) 1 1] 27)) (some ⟨G, 0, none⟩) [oneArg (some ⟨e1, 0, none⟩) (2, 0, ⟨#[116]⟩), oneArg (some ⟨e2, 0, none⟩) (ky, ny, sy)] := atA_lit (by simp) hGo rfl (fun a ha => by
    simp only [List.mem_cons, List.not_mem_nil, or_false] at ha
    rcases ha with rfl | rfl
    · exact ha1.below hbn
    · exact ha2.below hbn)
  clear hGo ha1 ha2
  obtain ⟨wn, hwn⟩ : ∃ wn, wn = wv.alloc (.cells #[.bool false, .int .i64 0, .slice (some ⟨e1, 0, none⟩) 1 1, .bool false, .int .i64 0, .slice (some ⟨e2, 0, none⟩) 1 1] 27) := ⟨_, rfl⟩
  rw [← hwn] at hbn hAA ⊢
  clear hwn
  have hbw := hbw.trans (hbn.mono hbw.size)
  have hX := (hbn.block _ hXl).trans hX
  have hY := (hbn.block _ hYl).trans hY
  have hZ := (hbn.block _ hZl).trans hZ
  have hV := (hbn.block _ hVl).trans hV
  clear hXl hYl hZl hVl hbn
  generalize wn = wv at *
  have hXl : P < wv.heap.size := (Array.getElem?_eq_some_iff.1 hX).1
  have hYl : P + 1 < wv.heap.size := (Array.getElem?_eq_some_iff.1 hY).1
  have hZl : P + 1 + 1 < wv.heap.size := (Array.getElem?_eq_some_iff.1 hZ).1
  have hVl : V < wv.heap.size := (Array.getElem?_eq_some_iff.1 hV).1
  conv => arg 4; whnf
  refine pt_alt ?_ ?_
  conv => arg 4; whnf
  conv => arg 4; arg 1; whnf
  refine pt_eff (by rfl) (fun K hK => ?_)
  go_wp2_with fail
  refine (C2.out _ _ _ _ _ hAA).mono ?_
  rintro en wn ⟨rfl, hbn⟩
  refine hK _ _ hbn ?_
  clear hK K
  clear hAA
  have hbw := hbw.trans (hbn.mono hbw.size)
  have hX := (hbn.block _ hXl).trans hX
  have hY := (hbn.block _ hYl).trans hY
  have hZ := (hbn.block _ hZl).trans hZ
  have hV := (hbn.block _ hVl).trans hV
  clear hXl hYl hZl hVl hbn
  generalize wn = wv at *
  have hXl : P < wv.heap.size := (Array.getElem?_eq_some_iff.1 hX).1
  have hYl : P + 1 < wv.heap.size := (Array.getElem?_eq_some_iff.1 hY).1
  have hZl : P + 1 + 1 < wv.heap.size := (Array.getElem?_eq_some_iff.1 hZ).1
  have hVl : V < wv.heap.size := (Array.getElem?_eq_some_iff.1 hV).1
  conv => arg 4; whnf
  conv => arg 4; arg 1; whnf
  refine pt_eff (by rfl) (fun K hK => ?_)
  go_wp2_with fail
  refine hK _ _ ((Below.refl _ _).alloc (Nat.le_refl _) _) ?_
  clear hK K
  have hbn : Below wv.heap.size wv (wv.alloc (.cells #[.int .i64 0, .int .i64 0, .string ⟨#[]⟩] 31)) := (Below.refl _ _).alloc (Nat.le_refl _) _
  obtain ⟨U, hG⟩ : ∃ G, G = wv.heap.size := ⟨_, rfl⟩
  have hnew := heap_alloc_new wv (.cells #[.int .i64 0, .int .i64 0, .string ⟨#[]⟩] 31)
  have hfarU := Lib.hid (show P + 1 + 1 < U by omega)
  have hfarUV := Lib.hid (show V < U by omega)
  have hbigU := Lib.hid (show w.heap.size ≤ U by have := hbw.size; omega)
  rw [← hG] at hnew ⊢
  clear hG
  obtain ⟨wn, hwn⟩ : ∃ wn, wn = wv.alloc (.cells #[.int .i64 0, .int .i64 0, .string ⟨#[]⟩] 31) := ⟨_, rfl⟩
  rw [← hwn] at hbn hnew ⊢
  clear hwn
  have hbw := hbw.trans (hbn.mono hbw.size)
  have hX := (hbn.block _ hXl).trans hX
  have hY := (hbn.block _ hYl).trans hY
  have hZ := (hbn.block _ hZl).trans hZ
  have hV := (hbn.block _ hVl).trans hV
  clear hXl hYl hZl hVl hbn
  generalize wn = wv at *
  have hXl : P < wv.heap.size := (Array.getElem?_eq_some_iff.1 hX).1
  have hYl : P + 1 < wv.heap.size := (Array.getElem?_eq_some_iff.1 hY).1
  have hZl : P + 1 + 1 < wv.heap.size := (Array.getElem?_eq_some_iff.1 hZ).1
  have hVl : V < wv.heap.size := (Array.getElem?_eq_some_iff.1 hV).1
  have hU := hnew
  clear hnew
  have hUl : U < wv.heap.size := (Array.getElem?_eq_some_iff.1 hU).1
  obtain ⟨r0, r1, r2, z0, z1, z2⟩ := val3 hU
  conv => arg 4; whnf
  conv => arg 4; arg 1; whnf
  refine pt_last (by rfl) (fun K hK => ?_)
  go_wp2_with fail
  clear r0 r1 r2 z0 z1 z2
  have hz := val_store (x := .int .i64 4) (y := .int .i64 1) (z := .string ⟨#[]⟩) hU
  have qX := blk3JBad (x := .int .i64 4) (y := .int .i64 1) (z := .string ⟨#[]⟩) (show P ≠ U by have := hfarU.out; omega) hX
  have qY := blk3JBad (x := .int .i64 4) (y := .int .i64 1) (z := .string ⟨#[]⟩) (show P + 1 ≠ U by have := hfarU.out; omega) hY
  have qZ := blk3JBad (x := .int .i64 4) (y := .int .i64 1) (z := .string ⟨#[]⟩) (show P + 1 + 1 ≠ U by have := hfarU.out; omega) hZ
  have qV := blk3JBad (x := .int .i64 4) (y := .int .i64 1) (z := .string ⟨#[]⟩) (show V ≠ U by have := hfarUV.out; omega) hV
  have hbw := ((hbw.setCell (p := ⟨U, 0, none⟩) hbigU.out (.int .i64 4)).setCell (p := ⟨U, 1, none⟩) hbigU.out (.int .i64 1)).setCell (p := ⟨U, 2, none⟩) hbigU.out (.string ⟨#[]⟩)
  clear hX hY hZ hV hU hXl hYl hZl hVl hUl
  have hU := hz
  have hX := qX
  have hY := qY
  have hZ := qZ
  have hV := qV
  clear hz qX qY qZ qV
  generalize (((wv.setCell ⟨U, 0, none⟩ (.int .i64 4)).setCell ⟨U, 1, none⟩ (.int .i64 1)).setCell ⟨U, 2, none⟩ (.string ⟨#[]⟩)) = wv at *
  have hXl : P < wv.heap.size := (Array.getElem?_eq_some_iff.1 hX).1
  have hYl : P + 1 < wv.heap.size := (Array.getElem?_eq_some_iff.1 hY).1
  have hZl : P + 1 + 1 < wv.heap.size := (Array.getElem?_eq_some_iff.1 hZ).1
  have hVl : V < wv.heap.size := (Array.getElem?_eq_some_iff.1 hV).1
  have hUl : U < wv.heap.size := (Array.getElem?_eq_some_iff.1 hU).1
  refine pt_nil ?_
  obtain ⟨x0, x1, x2, _⟩ := val3 hX
  obtain ⟨y0, y1, y2, _⟩ := val3 hY
  obtain ⟨z0, z1, z2, _⟩ := val3 hZ
  obtain ⟨v0, v1, v2, _⟩ := val3 hV
  obtain ⟨u0, u1, u2, _⟩ := val3 hU
  clear hX hY hZ hV hU hXl hYl hZl hVl hUl
  go_wp2_with fail
  refine (awake8 _).mono ?_
  rintro en wn ⟨rfl, hbn⟩
  clear x0 x1 x2 y0 y1 y2 z0 z1 z2 v0 v1 v2 u0 u1 u2
  go_wp2
  go_ret
  exact ⟨rfl, hbw.trans (hbn.mono hbw.size)⟩
  conv => arg 4; whnf
  conv => arg 4; arg 1; whnf
  refine pt_eff (by rfl) (fun K hK => ?_)
  go_wp2_with fail
  refine hK _ _ ((Below.refl _ _).alloc (Nat.le_refl _) _) ?_
  clear hK K
  have hbn : Below wv.heap.size wv (wv.alloc (.cells #[.int .i64 0, .int .i64 0, .string ⟨#[]⟩] 31)) := (Below.refl _ _).alloc (Nat.le_refl _) _
  obtain ⟨U, hG⟩ : ∃ G, G = wv.heap.size := ⟨_, rfl⟩
  have hnew := heap_alloc_new wv (.cells #[.int .i64 0, .int .i64 0, .string ⟨#[]⟩] 31)
  have hfarU := Lib.hid (show P + 1 + 1 < U by omega)
  have hfarUV := Lib.hid (show V < U by omega)
  have hbigU := Lib.hid (show w.heap.size ≤ U by have := hbw.size; omega)
  rw [← hG] at hnew ⊢
  clear hG
  obtain ⟨wn, hwn⟩ : ∃ wn, wn = wv.alloc (.cells #[.int .i64 0, .int .i64 0, .string ⟨#[]⟩] 31) := ⟨_, rfl⟩
  rw [← hwn] at hbn hnew ⊢
  clear hwn
  have hbw := hbw.trans (hbn.mono hbw.size)
  have hX := (hbn.block _ hXl).trans hX
  have hY := (hbn.block _ hYl).trans hY
  have hZ := (hbn.block _ hZl).trans hZ
  have hV := (hbn.block _ hVl).trans hV
  have hAA := hAA.below hbn
  clear hXl hYl hZl hVl hbn
  generalize wn = wv at *
  have hXl : P < wv.heap.size := (Array.getElem?_eq_some_iff.1 hX).1
  have hYl : P + 1 < wv.heap.size := (Array.getElem?_eq_some_iff.1 hY).1
  have hZl : P + 1 + 1 < wv.heap.size := (Array.getElem?_eq_some_iff.1 hZ).1
  have hVl : V < wv.heap.size := (Array.getElem?_eq_some_iff.1 hV).1
  have hU := hnew
  clear hnew
  have hUl : U < wv.heap.size := (Array.getElem?_eq_some_iff.1 hU).1
  conv => arg 4; whnf
  conv => arg 4; arg 1; whnf
  refine pt_eff (by rfl) (fun K hK => ?_)
  go_wp2_with fail
  refine (C2.out _ _ _ _ _ hAA).mono ?_
  rintro en wn ⟨rfl, hbn⟩
  refine hK _ _ hbn ?_
  clear hK K
  clear hAA
  have hbw := hbw.trans (hbn.mono hbw.size)
  have hX := (hbn.block _ hXl).trans hX
  have hY := (hbn.block _ hYl).trans hY
  have hZ := (hbn.block _ hZl).trans hZ
  have hV := (hbn.block _ hVl).trans hV
  have hU := (hbn.block _ hUl).trans hU
  clear hXl hYl hZl hVl hUl hbn
  generalize wn = wv at *
  have hXl : P < wv.heap.size := (Array.getElem?_eq_some_iff.1 hX).1
  have hYl : P + 1 < wv.heap.size := (Array.getElem?_eq_some_iff.1 hY).1
  have hZl : P + 1 + 1 < wv.heap.size := (Array.getElem?_eq_some_iff.1 hZ).1
  have hVl : V < wv.heap.size := (Array.getElem?_eq_some_iff.1 hV).1
  have hUl : U < wv.heap.size := (Array.getElem?_eq_some_iff.1 hU).1
  obtain ⟨r0, r1, r2, z0, z1, z2⟩ := val3 hU
  conv => arg 4; whnf
  conv => arg 4; arg 1; whnf
  refine pt_last (by rfl) (fun K hK => ?_)
  go_wp2_with fail
  clear r0 r1 r2 z0 z1 z2
  have hz := val_store (x := .int .i64 4) (y := .int .i64 1) (z := .string ⟨#[]⟩) hU
  have qX := blk3JBad (x := .int .i64 4) (y := .int .i64 1) (z := .string ⟨#[]⟩) (show P ≠ U by have := hfarU.out; omega) hX
  have qY := blk3JBad (x := .int .i64 4) (y := .int .i64 1) (z := .string ⟨#[]⟩) (show P + 1 ≠ U by have := hfarU.out; omega) hY
  have qZ := blk3JBad (x := .int .i64 4) (y := .int .i64 1) (z := .string ⟨#[]⟩) (show P + 1 + 1 ≠ U by have := hfarU.out; omega) hZ
  have qV := blk3JBad (x := .int .i64 4) (y := .int .i64 1) (z := .string ⟨#[]⟩) (show V ≠ U by have := hfarUV.out; omega) hV
  have hbw := ((hbw.setCell (p := ⟨U, 0, none⟩) hbigU.out (.int .i64 4)).setCell (p := ⟨U, 1, none⟩) hbigU.out (.int .i64 1)).setCell (p := ⟨U, 2, none⟩) hbigU.out (.string ⟨#[]⟩)
  clear hX hY hZ hV hU hXl hYl hZl hVl hUl
  have hU := hz
  have hX := qX
  have hY := qY
  have hZ := qZ
  have hV := qV
  clear hz qX qY qZ qV
  generalize (((wv.setCell ⟨U, 0, none⟩ (.int .i64 4)).setCell ⟨U, 1, none⟩ (.int .i64 1)).setCell ⟨U, 2, none⟩ (.string ⟨#[]⟩)) = wv at *
  have hXl : P < wv.heap.size := (Array.getElem?_eq_some_iff.1 hX).1
  have hYl : P + 1 < wv.heap.size := (Array.getElem?_eq_some_iff.1 hY).1
  have hZl : P + 1 + 1 < wv.heap.size := (Array.getElem?_eq_some_iff.1 hZ).1
  have hVl : V < wv.heap.size := (Array.getElem?_eq_some_iff.1 hV).1
  have hUl : U < wv.heap.size := (Array.getElem?_eq_some_iff.1 hU).1
  refine pt_nil ?_
  obtain ⟨x0, x1, x2, _⟩ := val3 hX
  obtain ⟨y0, y1, y2, _⟩ := val3 hY
  obtain ⟨z0, z1, z2, _⟩ := val3 hZ
  obtain ⟨v0, v1, v2, _⟩ := val3 hV
  obtain ⟨u0, u1, u2, _⟩ := val3 hU
  clear hX hY hZ hV hU hXl hYl hZl hVl hUl
  go_wp2_with fail
  refine (awake8 _).mono ?_
  rintro en wn ⟨rfl, hbn⟩
  clear x0 x1 x2 y0 y1 y2 z0 z1 z2 v0 v1 v2 u0 u1 u2
  go_wp2
  go_ret
  exact ⟨rfl, hbw.trans (hbn.mono hbw.size)⟩
  conv => arg 4; whnf
  conv => arg 4; arg 1; whnf
  refine pt_eff (by rfl) (fun K hK => ?_)
  go_wp2_with fail
  refine hK _ _ ((Below.refl _ _).alloc (Nat.le_refl _) _) ?_
  clear hK K
  have hbn : Below wv.heap.size wv (wv.alloc (.cells #[.int .i64 0, .int .i64 0, .string ⟨#[]⟩] 31)) := (Below.refl _ _).alloc (Nat.le_refl _) _
  obtain ⟨U, hG⟩ : ∃ G, G = wv.heap.size := ⟨_, rfl⟩
  have hnew := heap_alloc_new wv (.cells #[.int .i64 0, .int .i64 0, .string ⟨#[]⟩] 31)
  have hfarU := Lib.hid (show P + 1 + 1 < U by omega)
  have hfarUV := Lib.hid (show V < U by omega)
  have hbigU := Lib.hid (show w.heap.size ≤ U by have := hbw.size; omega)
  rw [← hG] at hnew ⊢
  clear hG
  obtain ⟨wn, hwn⟩ : ∃ wn, wn = wv.alloc (.cells #[.int .i64 0, .int .i64 0, .string ⟨#[]⟩] 31) := ⟨_, rfl⟩
  rw [← hwn] at hbn hnew ⊢
  clear hwn
  have hbw := hbw.trans (hbn.mono hbw.size)
  have hX := (hbn.block _ hXl).trans hX
  have hY := (hbn.block _ hYl).trans hY
  have hZ := (hbn.block _ hZl).trans hZ
  have hV := (hbn.block _ hVl).trans hV
  have ha1 := ha1.below hbn
  have ha2 := ha2.below hbn
  clear hXl hYl hZl hVl hbn
  generalize wn = wv at *
  have hXl : P < wv.heap.size := (Array.getElem?_eq_some_iff.1 hX).1
  have hYl : P + 1 < wv.heap.size := (Array.getElem?_eq_some_iff.1 hY).1
  have hZl : P + 1 + 1 < wv.heap.size := (Array.getElem?_eq_some_iff.1 hZ).1
  have hVl : V < wv.heap.size := (Array.getElem?_eq_some_iff.1 hV).1
  have hU := hnew
  clear hnew
  have hUl : U < wv.heap.size := (Array.getElem?_eq_some_iff.1 hU).1
  conv => arg 4; whnf
  conv => arg 4; arg 1; whnf
  refine pt_eff (by rfl) (fun K hK => ?_)
  go_wp2_with fail
  refine hK _ _ ((Below.refl _ _).alloc (Nat.le_refl _) _) ?_
  clear hK K
  have hbn : Below wv.heap.size wv (wv.alloc (.cells #[.bool false, .int .i64 0, .slice (some ⟨e1, 0, none⟩) 1 1, .bool false, .int .i64 0, .slice (some ⟨e2, 0, none⟩) 1 1] 27)) := (Below.refl _ _).alloc (Nat.le_refl _) _
  obtain ⟨G, hG⟩ : ∃ G, G = wv.heap.size := ⟨_, rfl⟩
  have hGo := heap_alloc_new wv (.cells #[.bool false, .int .i64 0, .slice (some ⟨e1, 0, none⟩) 1 1, .bool false, .int .i64 0, .slice (some ⟨e2, 0, none⟩) 1 1] 27)
  rw [← hG] at hGo ⊢
  clear hG
  have hAA : AtA (wv.alloc (.cells #[.bool false, .int .i64 0, .slice (some ⟨e1, 0, none⟩) 1 1, .bool false, .int .i64 0, .slice (some ⟨e2, 0, none⟩) 1 1] 27)) (some ⟨G, 0, none⟩) [oneArg (some ⟨e1, 0, none⟩) (2, 0, ⟨#[116]⟩), oneArg (some ⟨e2, 0, none⟩) (ky, ny, sy)] := atA_lit (by simp) hGo rfl (fun a ha => by
    simp only [List.mem_cons, List.not_mem_nil, or_false] at ha
    rcases ha with rfl | rfl
    · exact ha1.below hbn
    · exact ha2.below hbn)
  clear hGo ha1 ha2
  obtain ⟨wn, hwn⟩ : ∃ wn, wn = wv.alloc (.cells #[.bool false, .int .i64 0, .slice (some ⟨e1, 0, none⟩) 1 1, .bool false, .int .i64 0, .slice (some ⟨e2, 0, none⟩) 1 1] 27) := ⟨_, rfl⟩
  rw [← hwn] at hbn hAA ⊢
  clear hwn
  have hbw := hbw.trans (hbn.mono hbw.size)
  have hX := (hbn.block _ hXl).trans hX
  have hY := (hbn.block _ hYl).trans hY
  have hZ := (hbn.block _ hZl).trans hZ
  have hV := (hbn.block _ hVl).trans hV
  have hU := (hbn.block _ hUl).trans hU
  clear hXl hYl hZl hVl hUl hbn
  generalize wn = wv at *
  have hXl : P < wv.heap.size := (Array.getElem?_eq_some_iff.1 hX).1
  have hYl : P + 1 < wv.heap.size := (Array.getElem?_eq_some_iff.1 hY).1
  have hZl : P + 1 + 1 < wv.heap.size := (Array.getElem?_eq_some_iff.1 hZ).1
  have hVl : V < wv.heap.size := (Array.getElem?_eq_some_iff.1 hV).1
  have hUl : U < wv.heap.size := (Array.getElem?_eq_some_iff.1 hU).1
  conv => arg 4; whnf
  conv => arg 4; arg 1; whnf
  refine pt_eff (by rfl) (fun K hK => ?_)
  go_wp2_with fail
  refine (C2.out _ _ _ _ _ hAA).mono ?_
  rintro en wn ⟨rfl, hbn⟩
  refine hK _ _ hbn ?_
  clear hK K
  clear hAA
  have hbw := hbw.trans (hbn.mono hbw.size)
  have hX := (hbn.block _ hXl).trans hX
  have hY := (hbn.block _ hYl).trans hY
  have hZ := (hbn.block _ hZl).trans hZ
  have hV := (hbn.block _ hVl).trans hV
  have hU := (hbn.block _ hUl).trans hU
  clear hXl hYl hZl hVl hUl hbn
  generalize wn = wv at *
  have hXl : P < wv.heap.size := (Array.getElem?_eq_some_iff.1 hX).1
  have hYl : P + 1 < wv.heap.size := (Array.getElem?_eq_some_iff.1 hY).1
  have hZl : P + 1 + 1 < wv.heap.size := (Array.getElem?_eq_some_iff.1 hZ).1
  have hVl : V < wv.heap.size := (Array.getElem?_eq_some_iff.1 hV).1
  have hUl : U < wv.heap.size := (Array.getElem?_eq_some_iff.1 hU).1
  obtain ⟨r0, r1, r2, z0, z1, z2⟩ := val3 hU
  conv => arg 4; whnf
  conv => arg 4; arg 1; whnf
  refine pt_last (by rfl) (fun K hK => ?_)
  go_wp2_with fail
  clear r0 r1 r2 z0 z1 z2
  have hz := val_store (x := .int .i64 4) (y := .int .i64 1) (z := .string ⟨#[]⟩) hU
  have qX := blk3JBad (x := .int .i64 4) (y := .int .i64 1) (z := .string ⟨#[]⟩) (show P ≠ U by have := hfarU.out; omega) hX
  have qY := blk3JBad (x := .int .i64 4) (y := .int .i64 1) (z := .string ⟨#[]⟩) (show P + 1 ≠ U by have := hfarU.out; omega) hY
  have qZ := blk3JBad (x := .int .i64 4) (y := .int .i64 1) (z := .string ⟨#[]⟩) (show P + 1 + 1 ≠ U by have := hfarU.out; omega) hZ
  have qV := blk3JBad (x := .int .i64 4) (y := .int .i64 1) (z := .string ⟨#[]⟩) (show V ≠ U by have := hfarUV.out; omega) hV
  have hbw := ((hbw.setCell (p := ⟨U, 0, none⟩) hbigU.out (.int .i64 4)).setCell (p := ⟨U, 1, none⟩) hbigU.out (.int .i64 1)).setCell (p := ⟨U, 2, none⟩) hbigU.out (.string ⟨#[]⟩)
  clear hX hY hZ hV hU hXl hYl hZl hVl hUl
  have hU := hz
  have hX := qX
  have hY := qY
  have hZ := qZ
  have hV := qV
  clear hz qX qY qZ qV
  generalize (((wv.setCell ⟨U, 0, none⟩ (.int .i64 4)).setCell ⟨U, 1, none⟩ (.int .i64 1)).setCell ⟨U, 2, none⟩ (.string ⟨#[]⟩)) = wv at *
  have hXl : P < wv.heap.size := (Array.getElem?_eq_some_iff.1 hX).1
  have hYl : P + 1 < wv.heap.size := (Array.getElem?_eq_some_iff.1 hY).1
  have hZl : P + 1 + 1 < wv.heap.size := (Array.getElem?_eq_some_iff.1 hZ).1
  have hVl : V < wv.heap.size := (Array.getElem?_eq_some_iff.1 hV).1
  have hUl : U < wv.heap.size := (Array.getElem?_eq_some_iff.1 hU).1
  refine pt_nil ?_
  obtain ⟨x0, x1, x2, _⟩ := val3 hX
  obtain ⟨y0, y1, y2, _⟩ := val3 hY
  obtain ⟨z0, z1, z2, _⟩ := val3 hZ
  obtain ⟨v0, v1, v2, _⟩ := val3 hV
  obtain ⟨u0, u1, u2, _⟩ := val3 hU
  clear hX hY hZ hV hU hXl hYl hZl hVl hUl
  go_wp2_with fail
  refine (awake8 _).mono ?_
  rintro en wn ⟨rfl, hbn⟩
  clear x0 x1 x2 y0 y1 y2 z0 z1 z2 v0 v1 v2 u0 u1 u2
  go_wp2
  go_ret
  exact ⟨rfl, hbw.trans (hbn.mono hbw.size)⟩
  conv => arg 4; whnf
  conv => arg 4; arg 1; whnf
  refine pt_eff (by rfl) (fun K hK => ?_)
  go_wp2_with fail
  refine hK _ _ ((Below.refl _ _).alloc (Nat.le_refl _) _) ?_
  clear hK K
  have hbn : Below wv.heap.size wv (wv.alloc (.cells #[.int .i64 0, .int .i64 0, .string ⟨#[]⟩] 31)) := (Below.refl _ _).alloc (Nat.le_refl _) _
  obtain ⟨U, hG⟩ : ∃ G, G = wv.heap.size := ⟨_, rfl⟩
  have hnew := heap_alloc_new wv (.cells #[.int .i64 0, .int .i64 0, .string ⟨#[]⟩] 31)
  have hfarU := Lib.hid (show P + 1 + 1 < U by omega)
  have hfarUV := Lib.hid (show V < U by omega)
  have hbigU := Lib.hid (show w.heap.size ≤ U by have := hbw.size; omega)
  rw [← hG] at hnew ⊢
  clear hG
  obtain ⟨wn, hwn⟩ : ∃ wn, wn = wv.alloc (.cells #[.int .i64 0, .int .i64 0, .string ⟨#[]⟩] 31) := ⟨_, rfl⟩
  rw [← hwn] at hbn hnew ⊢
  clear hwn
  have hbw := hbw.trans (hbn.mono hbw.size)
  have hX := (hbn.block _ hXl).trans hX
  have hY := (hbn.block _ hYl).trans hY
  have hZ := (hbn.block _ hZl).trans hZ
  have hV := (hbn.block _ hVl).trans hV
  have ha1 := ha1.below hbn
  clear hXl hYl hZl hVl hbn
  generalize wn = wv at *
  have hXl : P < wv.heap.size := (Array.getElem?_eq_some_iff.1 hX).1
  have hYl : P + 1 < wv.heap.size := (Array.getElem?_eq_some_iff.1 hY).1
  have hZl : P + 1 + 1 < wv.heap.size := (Array.getElem?_eq_some_iff.1 hZ).1
  have hVl : V < wv.heap.size := (Array.getElem?_eq_some_iff.1 hV).1
  have hU := hnew
  clear hnew
  have hUl : U < wv.heap.size := (Array.getElem?_eq_some_iff.1 hU).1
  conv => arg 4; whnf
  conv => arg 4; arg 1; whnf
  refine pt_eff (by rfl) (fun K hK => ?_)
  go_wp2_with fail
  refine (lone_any _ ky ny sy).mono ?_
  rintro en wn ⟨e2, rfl, hbn, hnew⟩
  refine hK _ _ hbn ?_
  clear hK K
  have hbw := hbw.trans (hbn.mono hbw.size)
  have hX := (hbn.block _ hXl).trans hX
  have hY := (hbn.block _ hYl).trans hY
  have hZ := (hbn.block _ hZl).trans hZ
  have hV := (hbn.block _ hVl).trans hV
  have hU := (hbn.block _ hUl).trans hU
  have ha1 := ha1.below hbn
  clear hXl hYl hZl hVl hUl hbn
  generalize wn = wv at *
  have hXl : P < wv.heap.size := (Array.getElem?_eq_some_iff.1 hX).1
  have hYl : P + 1 < wv.heap.size := (Array.getElem?_eq_some_iff.1 hY).1
  have hZl : P + 1 + 1 < wv.heap.size := (Array.getElem?_eq_some_iff.1 hZ).1
  have hVl : V < wv.heap.size := (Array.getElem?_eq_some_iff.1 hV).1
  have hUl : U < wv.heap.size := (Array.getElem?_eq_some_iff.1 hU).1
  have ha2 := hnew
  clear hnew
  conv => arg 4; whnf
  conv => arg 4; arg 1; whnf
  refine pt_eff (by rfl) (fun K hK => ?_)
  go_wp2_with fail
  refine hK _ _ ((Below.refl _ _).alloc (Nat.le_refl _) _) ?_
  clear hK K
  have hbn : Below wv.heap.size wv (wv.alloc (.cells #[.bool false, .int .i64 0, .slice (some ⟨e1, 0, none⟩) 1 1, .bool false, .int .i64 0, .slice (some ⟨e2, 0, none⟩) 1 1] 27)) := (Below.refl _ _).alloc (Nat.le_refl _) _
  obtain ⟨G, hG⟩ : ∃ G, G = wv.heap.size := ⟨_, rfl⟩
  have hGo := heap_alloc_new wv (.cells #[.bool false, .int .i64 0, .slice (some ⟨e1, 0, none⟩) 1 1, .bool false, .int .i64 0, .slice (some ⟨e2, 0, none⟩) 1 1] 27)
  rw [← hG] at hGo ⊢
  clear hG
  have hAA : AtA (wv.alloc (.cells #[.bool false, .int .i64 0, .slice (some ⟨e1, 0, none⟩) 1 1, .bool false, .int .i64 0, .slice (some ⟨e2, 0, none⟩) 1 1] 27)) (some ⟨G, 0, none⟩) [oneArg (some ⟨e1, 0, none⟩) (2, 0, ⟨#[116]⟩), oneArg (some ⟨e2, 0, none⟩) (ky, ny, sy)] := atA_lit (by simp) hGo rfl (fun a ha => by
    simp only [List.mem_cons, List.not_mem_nil, or_false] at ha
    rcases ha with rfl | rfl
    · exact ha1.below hbn
    · exact ha2.below hbn)
  clear hGo ha1 ha2
  obtain ⟨wn, hwn⟩ : ∃ wn, wn = wv.alloc (.cells #[.bool false, .int .i64 0, .slice (some ⟨e1, 0, none⟩) 1 1, .bool false, .int .i64 0, .slice (some ⟨e2, 0, none⟩) 1 1] 27) := ⟨_, rfl⟩
  rw [← hwn] at hbn hAA ⊢
  clear hwn
  have hbw := hbw.trans (hbn.mono hbw.size)
  have hX := (hbn.block _ hXl).trans hX
  have hY := (hbn.block _ hYl).trans hY
  have hZ := (hbn.block _ hZl).trans hZ
  have hV := (hbn.block _ hVl).trans hV
  have hU := (hbn.block _ hUl).trans hU
  clear hXl hYl hZl hVl hUl hbn
  generalize wn = wv at *
  have hXl : P < wv.heap.size := (Array.getElem?_eq_some_iff.1 hX).1
  have hYl : P + 1 < wv.heap.size := (Array.getElem?_eq_some_iff.1 hY).1
  have hZl : P + 1 + 1 < wv.heap.size := (Array.getElem?_eq_some_iff.1 hZ).1
  have hVl : V < wv.heap.size := (Array.getElem?_eq_some_iff.1 hV).1
  have hUl : U < wv.heap.size := (Array.getElem?_eq_some_iff.1 hU).1
  conv => arg 4; whnf
  conv => arg 4; arg 1; whnf
  refine pt_eff (by rfl) (fun K hK => ?_)
  go_wp2_with fail
  refine (C2.out _ _ _ _ _ hAA).mono ?_
  rintro en wn ⟨rfl, hbn⟩
  refine hK _ _ hbn ?_
  clear hK K
  clear hAA
  have hbw := hbw.trans (hbn.mono hbw.size)
  have hX := (hbn.block _ hXl).trans hX
  have hY := (hbn.block _ hYl).trans hY
  have hZ := (hbn.block _ hZl).trans hZ
  have hV := (hbn.block _ hVl).trans hV
  have hU := (hbn.block _ hUl).trans hU
  clear hXl hYl hZl hVl hUl hbn
  generalize wn = wv at *
  have hXl : P < wv.heap.size := (Array.getElem?_eq_some_iff.1 hX).1
  have hYl : P + 1 < wv.heap.size := (Array.getElem?_eq_some_iff.1 hY).1
  have hZl : P + 1 + 1 < wv.heap.size := (Array.getElem?_eq_some_iff.1 hZ).1
  have hVl : V < wv.heap.size := (Array.getElem?_eq_some_iff.1 hV).1
  have hUl : U < wv.heap.size := (Array.getElem?_eq_some_iff.1 hU).1
  obtain ⟨r0, r1, r2, z0, z1, z2⟩ := val3 hU
  conv => arg 4; whnf
  conv => arg 4; arg 1; whnf
  refine pt_last (by rfl) (fun K hK => ?_)
  go_wp2_with fail
  clear r0 r1 r2 z0 z1 z2
  have hz := val_store (x := .int .i64 4) (y := .int .i64 1) (z := .string ⟨#[]⟩) hU
  have qX := blk3JBad (x := .int .i64 4) (y := .int .i64 1) (z := .string ⟨#[]⟩) (show P ≠ U by have := hfarU.out; omega) hX
  have qY := blk3JBad (x := .int .i64 4) (y := .int .i64 1) (z := .string ⟨#[]⟩) (show P + 1 ≠ U by have := hfarU.out; omega) hY
  have qZ := blk3JBad (x := .int .i64 4) (y := .int .i64 1) (z := .string ⟨#[]⟩) (show P + 1 + 1 ≠ U by have := hfarU.out; omega) hZ
  have qV := blk3JBad (x := .int .i64 4) (y := .int .i64 1) (z := .string ⟨#[]⟩) (show V ≠ U by have := hfarUV.out; omega) hV
  have hbw := ((hbw.setCell (p := ⟨U, 0, none⟩) hbigU.out (.int .i64 4)).setCell (p := ⟨U, 1, none⟩) hbigU.out (.int .i64 1)).setCell (p := ⟨U, 2, none⟩) hbigU.out (.string ⟨#[]⟩)
  clear hX hY hZ hV hU hXl hYl hZl hVl hUl
  have hU := hz
  have hX := qX
  have hY := qY
  have hZ := qZ
  have hV := qV
  clear hz qX qY qZ qV
  generalize (((wv.setCell ⟨U, 0, none⟩ (.int .i64 4)).setCell ⟨U, 1, none⟩ (.int .i64 1)).setCell ⟨U, 2, none⟩ (.string ⟨#[]⟩)) = wv at *
  have hXl : P < wv.heap.size := (Array.getElem?_eq_some_iff.1 hX).1
  have hYl : P + 1 < wv.heap.size := (Array.getElem?_eq_some_iff.1 hY).1
  have hZl : P + 1 + 1 < wv.heap.size := (Array.getElem?_eq_some_iff.1 hZ).1
  have hVl : V < wv.heap.size := (Array.getElem?_eq_some_iff.1 hV).1
  have hUl : U < wv.heap.size := (Array.getElem?_eq_some_iff.1 hU).1
  refine pt_nil ?_
  obtain ⟨x0, x1, x2, _⟩ := val3 hX
  obtain ⟨y0, y1, y2, _⟩ := val3 hY
  obtain ⟨z0, z1, z2, _⟩ := val3 hZ
  obtain ⟨v0, v1, v2, _⟩ := val3 hV
  obtain ⟨u0, u1, u2, _⟩ := val3 hU
  clear hX hY hZ hV hU hXl hYl hZl hVl hUl
  go_wp2_with fail
  refine (awake8 _).mono ?_
  rintro en wn ⟨rfl, hbn⟩
  clear x0 x1 x2 y0 y1 y2 z0 z1 z2 v0 v1 v2 u0 u1 u2
  go_wp2
  go_ret
  exact ⟨rfl, hbw.trans (hbn.mono hbw.size)⟩
  conv => arg 4; whnf
  conv => arg 4; arg 1; whnf
  refine pt_eff (by rfl) (fun K hK => ?_)
  go_wp2_with fail
  refine hK _ _ ((Below.refl _ _).alloc (Nat.le_refl _) _) ?_
  clear hK K
  have hbn : Below wv.heap.size wv (wv.alloc (.cells #[.int .i64 0, .int .i64 0, .string ⟨#[]⟩] 31)) := (Below.refl _ _).alloc (Nat.le_refl _) _
  obtain ⟨U, hG⟩ : ∃ G, G = wv.heap.size := ⟨_, rfl⟩
  have hnew := heap_alloc_new wv (.cells #[.int .i64 0, .int .i64 0, .string ⟨#[]⟩] 31)
  have hfarU := Lib.hid (show P + 1 + 1 < U by omega)
  have hfarUV := Lib.hid (show V < U by omega)
  have hbigU := Lib.hid (show w.heap.size ≤ U by have := hbw.size; omega)
  rw [← hG] at hnew ⊢
  clear hG
  obtain ⟨wn, hwn⟩ : ∃ wn, wn = wv.alloc (.cells #[.int .i64 0, .int .i64 0, .string ⟨#[]⟩] 31) := ⟨_, rfl⟩
  rw [← hwn] at hbn hnew ⊢
  clear hwn
  have hbw := hbw.trans (hbn.mono hbw.size)
  have hX := (hbn.block _ hXl).trans hX
  have hY := (hbn.block _ hYl).trans hY
  have hZ := (hbn.block _ hZl).trans hZ
  have hV := (hbn.block _ hVl).trans hV
  clear hXl hYl hZl hVl hbn
  generalize wn = wv at *
  have hXl : P < wv.heap.size := (Array.getElem?_eq_some_iff.1 hX).1
  have hYl : P + 1 < wv.heap.size := (Array.getElem?_eq_some_iff.1 hY).1
  have hZl : P + 1 + 1 < wv.heap.size := (Array.getElem?_eq_some_iff.1 hZ).1
  have hVl : V < wv.heap.size := (Array.getElem?_eq_some_iff.1 hV).1
  have hU := hnew
  clear hnew
  have hUl : U < wv.heap.size := (Array.getElem?_eq_some_iff.1 hU).1
  conv => arg 4; whnf
  conv => arg 4; arg 1; whnf
  refine pt_eff (by rfl) (fun K hK => ?_)
  go_wp2_with fail
  refine (lone_any _ 2 0 ⟨#[116]⟩).mono ?_
  rintro en wn ⟨e1, rfl, hbn, hnew⟩
  refine hK _ _ hbn ?_
  clear hK K
  have hbw := hbw.trans (hbn.mono hbw.size)
  have hX := (hbn.block _ hXl).trans hX
  have hY := (hbn.block _ hYl).trans hY
  have hZ := (hbn.block _ hZl).trans hZ
  have hV := (hbn.block _ hVl).trans hV
  have hU := (hbn.block _ hUl).trans hU
  clear hXl hYl hZl hVl hUl hbn
  generalize wn = wv at *
  have hXl : P < wv.heap.size := (Array.getElem?_eq_some_iff.1 hX).1
  have hYl : P + 1 < wv.heap.size := (Array.getElem?_eq_some_iff.1 hY).1
  have hZl : P + 1 + 1 < wv.heap.size := (Array.getElem?_eq_some_iff.1 hZ).1
  have hVl : V < wv.heap.size := (Array.getElem?_eq_some_iff.1 hV).1
  have hUl : U < wv.heap.size := (Array.getElem?_eq_some_iff.1 hU).1
  have ha1 := hnew
  clear hnew
  conv => arg 4; whnf
  conv => arg 4; arg 1; whnf
  refine pt_eff (by rfl) (fun K hK => ?_)
  go_wp2_with fail
  refine (lone_any _ ky ny sy).mono ?_
  rintro en wn ⟨e2, rfl, hbn, hnew⟩
  refine hK _ _ hbn ?_
  clear hK K
  have hbw := hbw.trans (hbn.mono hbw.size)
  have hX := (hbn.block _ hXl).trans hX
  have hY := (hbn.block _ hYl).trans hY
  have hZ := (hbn.block _ hZl).trans hZ
  have hV := (hbn.block _ hVl).trans hV
  have hU := (hbn.block _ hUl).trans hU
  have ha1 := ha1.below hbn
  clear hXl hYl hZl hVl hUl hbn
  generalize wn = wv at *
  have hXl : P < wv.heap.size := (Array.getElem?_eq_some_iff.1 hX).1
  have hYl : P + 1 < wv.heap.size := (Array.getElem?_eq_some_iff.1 hY).1
  have hZl : P + 1 + 1 < wv.heap.size := (Array.getElem?_eq_some_iff.1 hZ).1
  have hVl : V < wv.heap.size := (Array.getElem?_eq_some_iff.1 hV).1
  have hUl : U < wv.heap.size := (Array.getElem?_eq_some_iff.1 hU).1
  have ha2 := hnew
  clear hnew
  conv => arg 4; whnf
  conv => arg 4; arg 1; whnf
  refine pt_eff (by rfl) (fun K hK => ?_)
  go_wp2_with fail
  refine hK _ _ ((Below.refl _ _).alloc (Nat.le_refl _) _) ?_
  clear hK K
  have hbn : Below wv.heap.size wv (wv.alloc (.cells #[.bool false, .int .i64 0, .slice (some ⟨e1, 0, none⟩) 1 1, .bool false, .int .i64 0, .slice (some ⟨e2, 0, none⟩) 1 1] 27)) := (Below.refl _ _).alloc (Nat.le_refl _) _
  obtain ⟨G, hG⟩ : ∃ G, G = wv.heap.size := ⟨_, rfl⟩
  have hGo := heap_alloc_new wv (.cells #[.bool false, .int .i64 0, .slice (some ⟨e1, 0, none⟩) 1 1, .bool false, .int .i64 0, .slice (some ⟨e2, 0, none⟩) 1 1] 27)
  rw [← hG] at hGo ⊢
  clear hG
  have hAA : AtA (wv.alloc (.cells #[.bool false, .int .i64 0, .slice (some ⟨e1, 0, none⟩) 1 1, .bool false, .int .i64 0, .slice (some ⟨e2, 0, none⟩) 1 1] 27)) (some ⟨G, 0, none⟩) [oneArg (some ⟨e1, 0, none⟩) (2, 0, ⟨#[116]⟩), oneArg (some ⟨e2, 0, none⟩) (ky, ny, sy)] := atA_lit (by simp) hGo rfl (fun a ha => by
    simp only [List.mem_cons, List.not_mem_nil, or_false] at ha
    rcases ha with rfl | rfl
    · exact ha1.below hbn
    · exact ha2.below hbn)
  clear hGo ha1 ha2
  obtain ⟨wn, hwn⟩ : ∃ wn, wn = wv.alloc (.cells #[.bool false, .int .i64 0, .slice (some ⟨e1, 0, none⟩) 1 1, .bool false, .int .i64 0, .slice (some ⟨e2, 0, none⟩) 1 1] 27) := ⟨_, rfl⟩
  rw [← hwn] at hbn hAA ⊢
  clear hwn
  have hbw := hbw.trans (hbn.mono hbw.size)
  have hX := (hbn.block _ hXl).trans hX
  have hY := (hbn.block _ hYl).trans hY
  have hZ := (hbn.block _ hZl).trans hZ
  have hV := (hbn.block _ hVl).trans hV
  have hU := (hbn.block _ hUl).trans hU
  clear hXl hYl hZl hVl hUl hbn
  generalize wn = wv at *
  have hXl : P < wv.heap.size := (Array.getElem?_eq_some_iff.1 hX).1
  have hYl : P + 1 < wv.heap.size := (Array.getElem?_eq_some_iff.1 hY).1
  have hZl : P + 1 + 1 < wv.heap.size := (Array.getElem?_eq_some_iff.1 hZ).1
  have hVl : V < wv.heap.size := (Array.getElem?_eq_some_iff.1 hV).1
  have hUl : U < wv.heap.size := (Array.getElem?_eq_some_iff.1 hU).1
  conv => arg 4; whnf
  conv => arg 4; arg 1; whnf
  refine pt_eff (by rfl) (fun K hK => ?_)
  go_wp2_with fail
  refine (C2.out _ _ _ _ _ hAA).mono ?_
  rintro en wn ⟨rfl, hbn⟩
  refine hK _ _ hbn ?_
  clear hK K
  clear hAA
  have hbw := hbw.trans (hbn.mono hbw.size)
  have hX := (hbn.block _ hXl).trans hX
  have hY := (hbn.block _ hYl).trans hY
  have hZ := (hbn.block _ hZl).trans hZ
  have hV := (hbn.block _ hVl).trans hV
  have hU := (hbn.block _ hUl).trans hU
  clear hXl hYl hZl hVl hUl hbn
  generalize wn = wv at *
  have hXl : P < wv.heap.size := (Array.getElem?_eq_some_iff.1 hX).1
  have hYl : P + 1 < wv.heap.size := (Array.getElem?_eq_some_iff.1 hY).1
  have hZl : P + 1 + 1 < wv.heap.size := (Array.getElem?_eq_some_iff.1 hZ).1
  have hVl : V < wv.heap.size := (Array.getElem?_eq_some_iff.1 hV).1
  have hUl : U < wv.heap.size := (Array.getElem?_eq_some_iff.1 hU).1
  obtain ⟨r0, r1, r2, z0, z1, z2⟩ := val3 hU
  conv => arg 4; whnf
  conv => arg 4; arg 1; whnf
  refine pt_last (by rfl) (fun K hK => ?_)
  go_wp2_with fail
  clear r0 r1 r2 z0 z1 z2
  have hz := val_store (x := .int .i64 4) (y := .int .i64 1) (z := .string ⟨#[]⟩) hU
  have qX := blk3JBad (x := .int .i64 4) (y := .int .i64 1) (z := .string ⟨#[]⟩) (show P ≠ U by have := hfarU.out; omega) hX
  have qY := blk3JBad (x := .int .i64 4) (y := .int .i64 1) (z := .string ⟨#[]⟩) (show P + 1 ≠ U by have := hfarU.out; omega) hY
  have qZ := blk3JBad (x := .int .i64 4) (y := .int .i64 1) (z := .string ⟨#[]⟩) (show P + 1 + 1 ≠ U by have := hfarU.out; omega) hZ
  have qV := blk3JBad (x := .int .i64 4) (y := .int .i64 1) (z := .string ⟨#[]⟩) (show V ≠ U by have := hfarUV.out; omega) hV
  have hbw := ((hbw.setCell (p := ⟨U, 0, none⟩) hbigU.out (.int .i64 4)).setCell (p := ⟨U, 1, none⟩) hbigU.out (.int .i64 1)).setCell (p := ⟨U, 2, none⟩) hbigU.out (.string ⟨#[]⟩)
  clear hX hY hZ hV hU hXl hYl hZl hVl hUl
  have hU := hz
  have hX := qX
  have hY := qY
  have hZ := qZ
  have hV := qV
  clear hz qX qY qZ qV
  generalize (((wv.setCell ⟨U, 0, none⟩ (.int .i64 4)).setCell ⟨U, 1, none⟩ (.int .i64 1)).setCell ⟨U, 2, none⟩ (.string ⟨#[]⟩)) = wv at *
  have hXl : P < wv.heap.size := (Array.getElem?_eq_some_iff.1 hX).1
  have hYl : P + 1 < wv.heap.size := (Array.getElem?_eq_some_iff.1 hY).1
  have hZl : P + 1 + 1 < wv.heap.size := (Array.getElem?_eq_some_iff.1 hZ).1
  have hVl : V < wv.heap.size := (Array.getElem?_eq_some_iff.1 hV).1
  have hUl : U < wv.heap.size := (Array.getElem?_eq_some_iff.1 hU).1
  refine pt_nil ?_
  obtain ⟨x0, x1, x2, _⟩ := val3 hX
  obtain ⟨y0, y1, y2, _⟩ := val3 hY
  obtain ⟨z0, z1, z2, _⟩ := val3 hZ
  obtain ⟨v0, v1, v2, _⟩ := val3 hV
  obtain ⟨u0, u1, u2, _⟩ := val3 hU
  clear hX hY hZ hV hU hXl hYl hZl hVl hUl
  go_wp2_with fail
  refine (awake8 _).mono ?_
  rintro en wn ⟨rfl, hbn⟩
  clear x0 x1 x2 y0 y1 y2 z0 z1 z2 v0 v1 v2 u0 u1 u2
  go_wp2
  go_ret
  exact ⟨rfl, hbw.trans (hbn.mono hbw.size)⟩
  conv => arg 4; whnf
  conv => arg 4; arg 1; whnf
  refine pt_eff (by rfl) (fun K hK => ?_)
  go_wp2_with fail
  refine hK _ _ ((Below.refl _ _).alloc (Nat.le_refl _) _) ?_
  clear hK K
  have hbn : Below wv.heap.size wv (wv.alloc (.cells #[.int .i64 0, .int .i64 0, .string ⟨#[]⟩] 31)) := (Below.refl _ _).alloc (Nat.le_refl _) _
  obtain ⟨V, hG⟩ : ∃ G, G = wv.heap.size := ⟨_, rfl⟩
  have hnew := heap_alloc_new wv (.cells #[.int .i64 0, .int .i64 0, .string ⟨#[]⟩] 31)
  have hfarV := Lib.hid (show P + 1 + 1 < V by omega)
  have hbigV := Lib.hid (show w.heap.size ≤ V by have := hbw.size; omega)
  rw [← hG] at hnew ⊢
  clear hG
  obtain ⟨wn, hwn⟩ : ∃ wn, wn = wv.alloc (.cells #[.int .i64 0, .int .i64 0, .string ⟨#[]⟩] 31) := ⟨_, rfl⟩
  rw [← hwn] at hbn hnew ⊢
  clear hwn
  have hbw := hbw.trans (hbn.mono hbw.size)
  have hX := (hbn.block _ hXl).trans hX
  have hY := (hbn.block _ hYl).trans hY
  have hZ := (hbn.block _ hZl).trans hZ
  clear hXl hYl hZl hbn
  generalize wn = wv at *
  have hXl : P < wv.heap.size := (Array.getElem?_eq_some_iff.1 hX).1
  have hYl : P + 1 < wv.heap.size := (Array.getElem?_eq_some_iff.1 hY).1
  have hZl : P + 1 + 1 < wv.heap.size := (Array.getElem?_eq_some_iff.1 hZ).1
  have hV := hnew
  clear hnew
  have hVl : V < wv.heap.size := (Array.getElem?_eq_some_iff.1 hV).1
  conv => arg 4; whnf
  conv => arg 4; arg 1; whnf
  refine pt_eff (by rfl) (fun K hK => ?_)
  go_wp2_with fail
  refine (lone_any _ 2 0 ⟨#[116]⟩).mono ?_
  rintro en wn ⟨g1, rfl, hbn, hnew⟩
  refine hK _ _ hbn ?_
  clear hK K
  have hbw := hbw.trans (hbn.mono hbw.size)
  have hX := (hbn.block _ hXl).trans hX
  have hY := (hbn.block _ hYl).trans hY
  have hZ := (hbn.block _ hZl).trans hZ
  have hV := (hbn.block _ hVl).trans hV
  clear hXl hYl hZl hVl hbn
  generalize wn = wv at *
  have hXl : P < wv.heap.size := (Array.getElem?_eq_some_iff.1 hX).1
  have hYl : P + 1 < wv.heap.size := (Array.getElem?_eq_some_iff.1 hY).1
  have hZl : P + 1 + 1 < wv.heap.size := (Array.getElem?_eq_some_iff.1 hZ).1
  have hVl : V < wv.heap.size := (Array.getElem?_eq_some_iff.1 hV).1
  have hv1 := hnew
  clear hnew
  conv => arg 4; whnf
  conv => arg 4; arg 1; whnf
  refine pt_eff (by rfl) (fun K hK => ?_)
  go_wp2_with fail
  refine (lone_any _ ky ny sy).mono ?_
  rintro en wn ⟨g2, rfl, hbn, hnew⟩
  refine hK _ _ hbn ?_
  clear hK K
  have hbw := hbw.trans (hbn.mono hbw.size)
  have hX := (hbn.block _ hXl).trans hX
  have hY := (hbn.block _ hYl).trans hY
  have hZ := (hbn.block _ hZl).trans hZ
  have hV := (hbn.block _ hVl).trans hV
  have hv1 := hv1.below hbn
  clear hXl hYl hZl hVl hbn
  generalize wn = wv at *
  have hXl : P < wv.heap.size := (Array.getElem?_eq_some_iff.1 hX).1
  have hYl : P + 1 < wv.heap.size := (Array.getElem?_eq_some_iff.1 hY).1
  have hZl : P + 1 + 1 < wv.heap.size := (Array.getElem?_eq_some_iff.1 hZ).1
  have hVl : V < wv.heap.size := (Array.getElem?_eq_some_iff.1 hV).1
  have hv2 := hnew
  clear hnew
  conv => arg 4; whnf
  conv => arg 4; arg 1; whnf
  refine pt_eff (by rfl) (fun K hK => ?_)
  go_wp2_with fail
  refine (lone_any _ kz nz sz).mono ?_
  rintro en wn ⟨g3, rfl, hbn, hnew⟩
  refine hK _ _ hbn ?_
  clear hK K
  have hbw := hbw.trans (hbn.mono hbw.size)
  have hX := (hbn.block _ hXl).trans hX
  have hY := (hbn.block _ hYl).trans hY
  have hZ := (hbn.block _ hZl).trans hZ
  have hV := (hbn.block _ hVl).trans hV
  have hv1 := hv1.below hbn
  have hv2 := hv2.below hbn
  clear hXl hYl hZl hVl hbn
  generalize wn = wv at *
  have hXl : P < wv.heap.size := (Array.getElem?_eq_some_iff.1 hX).1
  have hYl : P + 1 < wv.heap.size := (Array.getElem?_eq_some_iff.1 hY).1
  have hZl : P + 1 + 1 < wv.heap.size := (Array.getElem?_eq_some_iff.1 hZ).1
  have hVl : V < wv.heap.size := (Array.getElem?_eq_some_iff.1 hV).1
  have hv3 := hnew
  clear hnew
  conv => arg 4; whnf
  conv => arg 4; arg 1; whnf
  refine pt_eff (by rfl) (fun K hK => ?_)
  go_wp2_with fail
  refine hK _ _ ((Below.refl _ _).alloc (Nat.le_refl _) _) ?_
  clear hK K
  have hbn : Below wv.heap.size wv (wv.alloc (.cells #[.bool false, .int .i64 0, .slice (some ⟨g1, 0, none⟩) 1 1, .bool false, .int .i64 0, .slice (some ⟨g2, 0, none⟩) 1 1, .bool false, .int .i64 0, .slice (some ⟨g3, 0, none⟩) 1 1] 27)) := (Below.refl _ _).alloc (Nat.le_refl _) _
  obtain ⟨G, hG⟩ : ∃ G, G = wv.heap.size := ⟨_, rfl⟩
  have hGo := heap_alloc_new wv (.cells #[.bool false, .int .i64 0, .slice (some ⟨g1, 0, none⟩) 1 1, .bool false, .int .i64 0, .slice (some ⟨g2, 0, none⟩) 1 1, .bool false, .int .i64 0, .slice (some ⟨g3, 0, none⟩) 1 1] 27)
  rw [← hG] at hGo ⊢
  clear hG
  have hAA : AtA (wv.alloc (.cells #[.bool false, .int .i64 0, .slice (some ⟨g1, 0, none⟩) 1 1, .bool false, .int .i64 0, .slice (some ⟨g2, 0, none⟩) 1 1, .bool false, .int .i64 0, .slice (some ⟨g3, 0, none⟩) 1 1] 27)) (some ⟨G, 0, none⟩) [oneArg (some ⟨g1, 0, none⟩) (2, 0, ⟨#[116]⟩), oneArg (some ⟨g2, 0, none⟩) (ky, ny, sy), oneArg (some ⟨g3, 0, none⟩) (kz, nz, sz)] := atA_lit (by simp) hGo rfl (fun a ha => by
    simp only [List.mem_cons, List.not_mem_nil, or_false] at ha
    rcases ha with rfl | rfl | rfl
    · exact hv1.below hbn
    · exact hv2.below hbn
    · exact hv3.below hbn)
  clear hGo hv1 hv2 hv3
  obtain ⟨wn, hwn⟩ : ∃ wn, wn = wv.alloc (.cells #[.bool false, .int .i64 0, .slice (some ⟨g1, 0, none⟩) 1 1, .bool false, .int .i64 0, .slice (some ⟨g2, 0, none⟩) 1 1, .bool false, .int .i64 0, .slice (some ⟨g3, 0, none⟩) 1 1] 27) := ⟨_, rfl⟩
  rw [← hwn] at hbn hAA ⊢
  clear hwn
  have hbw := hbw.trans (hbn.mono hbw.size)
  have hX := (hbn.block _ hXl).trans hX
  have hY := (hbn.block _ hYl).trans hY
  have hZ := (hbn.block _ hZl).trans hZ
  have hV := (hbn.block _ hVl).trans hV
  clear hXl hYl hZl hVl hbn
  generalize wn = wv at *
  have hXl : P < wv.heap.size := (Array.getElem?_eq_some_iff.1 hX).1
  have hYl : P + 1 < wv.heap.size := (Array.getElem?_eq_some_iff.1 hY).1
  have hZl : P + 1 + 1 < wv.heap.size := (Array.getElem?_eq_some_iff.1 hZ).1
  have hVl : V < wv.heap.size := (Array.getElem?_eq_some_iff.1 hV).1
  conv => arg 4; whnf
  conv => arg 4; arg 1; whnf
  refine pt_eff (by rfl) (fun K hK => ?_)
  go_wp2_with fail
  refine (C3.out _ _ _ _ _ _ _ hAA).mono ?_
  rintro en wn ⟨rfl, hbn⟩
  refine hK _ _ hbn ?_
  clear hK K
  clear hAA
  have hbw := hbw.trans (hbn.mono hbw.size)
  have hX := (hbn.block _ hXl).trans hX
  have hY := (hbn.block _ hYl).trans hY
  have hZ := (hbn.block _ hZl).trans hZ
  have hV := (hbn.block _ hVl).trans hV
  clear hXl hYl hZl hVl hbn
  generalize wn = wv at *
  have hXl : P < wv.heap.size := (Array.getElem?_eq_some_iff.1 hX).1
  have hYl : P + 1 < wv.heap.size := (Array.getElem?_eq_some_iff.1 hY).1
  have hZl : P + 1 + 1 < wv.heap.size := (Array.getElem?_eq_some_iff.1 hZ).1
  have hVl : V < wv.heap.size := (Array.getElem?_eq_some_iff.1 hV).1
  obtain ⟨r0, r1, r2, z0, z1, z2⟩ := val3 hV
  conv => arg 4; whnf
  conv => arg 4; arg 1; whnf
  refine pt_last (by rfl) (fun K hK => ?_)
  go_wp2_with fail
  clear r0 r1 r2 z0 z1 z2
  have hz := val_store (x := .int .i64 4) (y := .int .i64 1) (z := .string ⟨#[]⟩) hV
  have qX := blk3JBad (x := .int .i64 4) (y := .int .i64 1) (z := .string ⟨#[]⟩) (show P ≠ V by have := hfarV.out; omega) hX
  have qY := blk3JBad (x := .int .i64 4) (y := .int .i64 1) (z := .string ⟨#[]⟩) (show P + 1 ≠ V by have := hfarV.out; omega) hY
  have qZ := blk3JBad (x := .int .i64 4) (y := .int .i64 1) (z := .string ⟨#[]⟩) (show P + 1 + 1 ≠ V by have := hfarV.out; omega) hZ
  have hbw := ((hbw.setCell (p := ⟨V, 0, none⟩) hbigV.out (.int .i64 4)).setCell (p := ⟨V, 1, none⟩) hbigV.out (.int .i64 1)).setCell (p := ⟨V, 2, none⟩) hbigV.out (.string ⟨#[]⟩)
  clear hX hY hZ hV hXl hYl hZl hVl
  have hV := hz
  have hX := qX
  have hY := qY
  have hZ := qZ
  clear hz qX qY qZ
  generalize (((wv.setCell ⟨V, 0, none⟩ (.int .i64 4)).setCell ⟨V, 1, none⟩ (.int .i64 1)).setCell ⟨V, 2, none⟩ (.string ⟨#[]⟩)) = wv at *
  have hXl : P < wv.heap.size := (Array.getElem?_eq_some_iff.1 hX).1
  have hYl : P + 1 < wv.heap.size := (Array.getElem?_eq_some_iff.1 hY).1
  have hZl : P + 1 + 1 < wv.heap.size := (Array.getElem?_eq_some_iff.1 hZ).1
  have hVl : V < wv.heap.size := (Array.getElem?_eq_some_iff.1 hV).1
  refine pt_nil ?_
  go_wp2_with fail
  refine wp_region_tree [7] (.free 0 (.free 2 (.alt 1 (.alt 3 (.alt 4 (.alt 5 (.eff 6 (.last 7 (.nil))) 6 (.eff 5 (.last 7 (.nil)))) 6 (.eff 4 (.eff 5 (.last 7 (.nil))))) 6 (.eff 3 (.eff 4 (.eff 5 (.last 7 (.nil)))))) 6 (.eff 1 (.eff 3 (.eff 4 (.eff 5 (.last 7 (.nil))))))))) (by kernel_rfl) (by kernel_rfl) (fun _ _ d _ _ h => by cases d <;> exact h) ?_
  have hbw := hbw.drew
  have hX : wv.drew.heap[P]? = _ := hX
  have hY : wv.drew.heap[P + 1]? = _ := hY
  have hZ : wv.drew.heap[P + 1 + 1]? = _ := hZ
  have hV : wv.drew.heap[V]? = _ := hV
  clear hXl hYl hZl hVl
  generalize wv.drew = wv at *
  have hXl : P < wv.heap.size := (Array.getElem?_eq_some_iff.1 hX).1
  have hYl : P + 1 < wv.heap.size := (Array.getElem?_eq_some_iff.1 hY).1
  have hZl : P + 1 + 1 < wv.heap.size := (Array.getElem?_eq_some_iff.1 hZ).1
  have hVl : V < wv.heap.size := (Array.getElem?_eq_some_iff.1 hV).1
  conv => arg 4; whnf
  conv => arg 4; arg 1; whnf
  refine pt_loadB (k := P) (fun W h => load_val _ W _ _ _ (h.trans hX)) hXl (by rfl) rfl rfl ?_
  simp only [Act.put, List.setIfInBounds_toArray, List.set_cons_zero, List.set_cons_succ]
  conv => arg 4; whnf
  conv => arg 4; arg 1; whnf
  refine pt_loadB (k := P + 1) (fun W h => load_val _ W _ _ _ (h.trans hY)) hYl (by rfl) rfl rfl ?_
  simp only [Act.put, List.setIfInBounds_toArray, List.set_cons_zero, List.set_cons_succ]
  conv => arg 4; whnf
  refine pt_alt ?_ ?_
  conv => arg 4; whnf
  conv => arg 4; arg 1; whnf
  refine pt_eff (by rfl) (fun K hK => ?_)
  go_wp2_with fail
  refine (lone_any _ 2 0 ⟨#[116]⟩).mono ?_
  rintro en wn ⟨e1, rfl, hbn, hnew⟩
  refine hK _ _ hbn ?_
  clear hK K
  have hbw := hbw.trans (hbn.mono hbw.size)
  have hX := (hbn.block _ hXl).trans hX
  have hY := (hbn.block _ hYl).trans hY
  have hZ := (hbn.block _ hZl).trans hZ
  have hV := (hbn.block _ hVl).trans hV
  clear hXl hYl hZl hVl hbn
  generalize wn = wv at *
  have hXl : P < wv.heap.size := (Array.getElem?_eq_some_iff.1 hX).1
  have hYl : P + 1 < wv.heap.size := (Array.getElem?_eq_some_iff.1 hY).1
  have hZl : P + 1 + 1 < wv.heap.size := (Array.getElem?_eq_some_iff.1 hZ).1
  have hVl : V < wv.heap.size := (Array.getElem?_eq_some_iff.1 hV).1
  have ha1 := hnew
  clear hnew
  conv => arg 4; whnf
  refine pt_alt ?_ ?_
  conv => arg 4; whnf
  conv => arg 4; arg 1; whnf
  refine pt_eff (by rfl) (fun K hK => ?_)
  go_wp2_with fail
  refine (lone_any _ ky ny sy).mono ?_
  rintro en wn ⟨e2, rfl, hbn, hnew⟩
  refine hK _ _ hbn ?_
  clear hK K
  have hbw := hbw.trans (hbn.mono hbw.size)
  have hX := (hbn.block _ hXl).trans hX
  have hY := (hbn.block _ hYl).trans hY
  have hZ := (hbn.block _ hZl).trans hZ
  have hV := (hbn.block _ hVl).trans hV
  have ha1 := ha1.below hbn
  clear hXl hYl hZl hVl hbn
  generalize wn = wv at *
  have hXl : P < wv.heap.size := (Array.getElem?_eq_some_iff.1 hX).1
  have hYl : P + 1 < wv.heap.size := (Array.getElem?_eq_some_iff.1 hY).1
  have hZl : P + 1 + 1 < wv.heap.size := (Array.getElem?_eq_some_iff.1 hZ).1
  have hVl : V < wv.heap.size := (Array.getElem?_eq_some_iff.1 hV).1
  have ha2 := hnew
  clear hnew
  conv => arg 4; whnf
  refine pt_alt ?_ ?_
  conv => arg 4; whnf
  conv => arg 4; arg 1; whnf
  refine pt_eff (by rfl) (fun K hK => ?_)
  go_wp2_with fail
  refine hK _ _ ((Below.refl _ _).alloc (Nat.le_refl _) _) ?_
  clear hK K
  have hbn : Below wv.heap.size wv (wv.alloc (.cells #[.bool false, .int .i64 0, .slice (some ⟨e1, 0, none⟩) 1 1, .bool false, .int .i64 0, .slice (some ⟨e2, 0, none⟩) 1 1] 27)) := (Below.refl _ _).alloc (Nat.le_refl _) _
  obtain ⟨G, hG⟩ : ∃ G, G = wv.heap.size := ⟨_, rfl⟩
  have hGo := heap_alloc_new wv (.cells #[.bool false, .int .i64 0, .slice (some ⟨e1, 0, none⟩) 1 1, .bool false, .int .i64 0, .slice (some ⟨e2, 0, none⟩) 1 1] 27)
  rw [← hG] at hGo ⊢
  clear hG
  have hAA : AtA (wv.alloc (.cells #[.bool false, .int .i64 0, .slice (some ⟨e1, 0, none⟩) 1 1, .bool false, .int .i64 0, .slice (some ⟨e2, 0, none⟩) 1 1] 27)) (some ⟨G, 0, none⟩) [oneArg (some ⟨e1, 0, none⟩) (2, 0, ⟨#[116]⟩), oneArg (some ⟨e2, 0, none⟩) (ky, ny, sy)] := atA_lit (by simp) hGo rfl (fun a ha => by
    simp only [List.mem_cons, List.not_mem_nil, or_false] at ha
    rcases ha with rfl | rfl
    · exact ha1.below hbn
    · exact ha2.below hbn)
  clear hGo ha1 ha2
  obtain ⟨wn, hwn⟩ : ∃ wn, wn = wv.alloc (.cells #[.bool false, .int .i64 0, .slice (some ⟨e1, 0, none⟩) 1 1, .bool false, .int .i64 0, .slice (some ⟨e2, 0, none⟩) 1 1] 27) := ⟨_, rfl⟩
  rw [← hwn] at hbn hAA ⊢
  clear hwn
  have hbw := hbw.trans (hbn.mono hbw.size)
  have hX := (hbn.block _ hXl).trans hX
  have hY := (hbn.block _ hYl).trans hY
  have hZ := (hbn.block _ hZl).trans hZ
  have hV := (hbn.block _ hVl).trans hV
  clear hXl hYl hZl hVl hbn
  generalize wn = wv at *
  have hXl : P < wv.heap.size := (Array.getElem?_eq_some_iff.1 hX).1
  have hYl : P + 1 < wv.heap.size := (Array.getElem?_eq_some_iff.1 hY).1
  have hZl : P + 1 + 1 < wv.heap.size := (Array.getElem?_eq_some_iff.1 hZ).1
  have hVl : V < wv.heap.size := (Array.getElem?_eq_some_iff.1 hV).1
  conv => arg 4; whnf
  refine pt_alt ?_ ?_
  conv => arg 4; whnf
  conv => arg 4; arg 1; whnf
  refine pt_eff (by rfl) (fun K hK => ?_)
  go_wp2_with fail
  refine (C2.out _ _ _ _ _ hAA).mono ?_
  rintro en wn ⟨rfl, hbn⟩
  refine hK _ _ hbn ?_
  clear hK K
  clear hAA
  have hbw := hbw.trans (hbn.mono hbw.size)
  have hX := (hbn.block _ hXl).trans hX
  have hY := (hbn.block _ hYl).trans hY
  have hZ := (hbn.block _ hZl).trans hZ
  have hV := (hbn.block _ hVl).trans hV
  clear hXl hYl hZl hVl hbn
  generalize wn = wv at *
  have hXl : P < wv.heap.size := (Array.getElem?_eq_some_iff.1 hX).1
  have hYl : P + 1 < wv.heap.size := (Array.getElem?_eq_some_iff.1 hY).1
  have hZl : P + 1 + 1 < wv.heap.size := (Array.getElem?_eq_some_iff.1 hZ).1
  have hVl : V < wv.heap.size := (Array.getElem?_eq_some_iff.1 hV).1
  conv => arg 4; whnf
  conv => arg 4; arg 1; whnf
  refine pt_eff (by rfl) (fun K hK => ?_)
  go_wp2_with fail
  refine hK _ _ ((Below.refl _ _).alloc (Nat.le_refl _) _) ?_
  clear hK K
  have hbn : Below wv.heap.size wv (wv.alloc (.cells #[.int .i64 0, .int .i64 0, .string ⟨#[]⟩] 31)) := (Below.refl _ _).alloc (Nat.le_refl _) _
  obtain ⟨U, hG⟩ : ∃ G, G = wv.heap.size := ⟨_, rfl⟩
  have hnew := heap_alloc_new wv (.cells #[.int .i64 0, .int .i64 0, .string ⟨#[]⟩] 31)
  have hfarU := Lib.hid (show P + 1 + 1 < U by omega)
  have hfarUV := Lib.hid (show V < U by omega)
  have hbigU := Lib.hid (show w.heap.size ≤ U by have := hbw.size; omega)
  rw [← hG] at hnew ⊢
  clear hG
  obtain ⟨wn, hwn⟩ : ∃ wn, wn = wv.alloc (.cells #[.int .i64 0, .int .i64 0, .string ⟨#[]⟩] 31) := ⟨_, rfl⟩
  rw [← hwn] at hbn hnew ⊢
  clear hwn
  have hbw := hbw.trans (hbn.mono hbw.size)
  have hX := (hbn.block _ hXl).trans hX
  have hY := (hbn.block _ hYl).trans hY
  have hZ := (hbn.block _ hZl).trans hZ
  have hV := (hbn.block _ hVl).trans hV
  clear hXl hYl hZl hVl hbn
  generalize wn = wv at *
  have hXl : P < wv.heap.size := (Array.getElem?_eq_some_iff.1 hX).1
  have hYl : P + 1 < wv.heap.size := (Array.getElem?_eq_some_iff.1 hY).1
  have hZl : P + 1 + 1 < wv.heap.size := (Array.getElem?_eq_some_iff.1 hZ).1
  have hVl : V < wv.heap.size := (Array.getElem?_eq_some_iff.1 hV).1
  have hU := hnew
  clear hnew
  have hUl : U < wv.heap.size := (Array.getElem?_eq_some_iff.1 hU).1
  obtain ⟨r0, r1, r2, z0, z1, z2⟩ := val3 hU
  conv => arg 4; whnf
  conv => arg 4; arg 1; whnf
  refine pt_last (by rfl) (fun K hK => ?_)
  go_wp2_with fail
  clear r0 r1 r2 z0 z1 z2
  have hz := val_store (x := .int .i64 4) (y := .int .i64 1) (z := .string ⟨#[]⟩) hU
  have qX := blk3JBad (x := .int .i64 4) (y := .int .i64 1) (z := .string ⟨#[]⟩) (show P ≠ U by have := hfarU.out; omega) hX
  have qY := blk3JBad (x := .int .i64 4) (y := .int .i64 1) (z := .string ⟨#[]⟩) (show P + 1 ≠ U by have := hfarU.out; omega) hY
  have qZ := blk3JBad (x := .int .i64 4) (y := .int .i64 1) (z := .string ⟨#[]⟩) (show P + 1 + 1 ≠ U by have := hfarU.out; omega) hZ
  have qV := blk3JBad (x := .int .i64 4) (y := .int .i64 1) (z := .string ⟨#[]⟩) (show V ≠ U by have := hfarUV.out; omega) hV
  have hbw := ((hbw.setCell (p := ⟨U, 0, none⟩) hbigU.out (.int .i64 4)).setCell (p := ⟨U, 1, none⟩) hbigU.out (.int .i64 1)).setCell (p := ⟨U, 2, none⟩) hbigU.out (.string ⟨#[]⟩)
  clear hX hY hZ hV hU hXl hYl hZl hVl hUl
  have hU := hz
  have hX := qX
  have hY := qY
  have hZ := qZ
  have hV := qV
  clear hz qX qY qZ qV
  generalize (((wv.setCell ⟨U, 0, none⟩ (.int .i64 4)).setCell ⟨U, 1, none⟩ (.int .i64 1)).setCell ⟨U, 2, none⟩ (.string ⟨#[]⟩)) = wv at *
  have hXl : P < wv.heap.size := (Array.getElem?_eq_some_iff.1 hX).1
  have hYl : P + 1 < wv.heap.size := (Array.getElem?_eq_some_iff.1 hY).1
  have hZl : P + 1 + 1 < wv.heap.size := (Array.getElem?_eq_some_iff.1 hZ).1
  have hVl : V < wv.heap.size := (Array.getElem?_eq_some_iff.1 hV).1
  have hUl : U < wv.heap.size := (Array.getElem?_eq_some_iff.1 hU).1
  refine pt_nil ?_
  obtain ⟨x0, x1, x2, _⟩ := val3 hX
  obtain ⟨y0, y1, y2, _⟩ := val3 hY
  obtain ⟨z0, z1, z2, _⟩ := val3 hZ
  obtain ⟨v0, v1, v2, _⟩ := val3 hV
  obtain ⟨u0, u1, u2, _⟩ := val3 hU
  clear hX hY hZ hV hU hXl hYl hZl hVl hUl
  go_wp2_with fail
  refine (awake8 _).mono ?_
  rintro en wn ⟨rfl, hbn⟩
  clear x0 x1 x2 y0 y1 y2 z0 z1 z2 v0 v1 v2 u0 u1 u2
  go_wp2
  go_ret
  exact ⟨rfl, hbw.trans (hbn.mono hbw.size)⟩
  conv => arg 4; whnf
  conv => arg 4; arg 1; whnf
  refine pt_eff (by rfl) (fun K hK => ?_)
  go_wp2_with fail
  refine hK _ _ ((Below.refl _ _).alloc (Nat.le_refl _) _) ?_
  clear hK K
  have hbn : Below wv.heap.size wv (wv.alloc (.cells #[.int .i64 0, .int .i64 0, .string ⟨#[]⟩] 31)) := (Below.refl _ _).alloc (Nat.le_refl _) _
  obtain ⟨U, hG⟩ : ∃ G, G = wv.heap.size := ⟨_, rfl⟩
  have hnew := heap_alloc_new wv (.cells #[.int .i64 0, .int .i64 0, .string ⟨#[]⟩] 31)
  have hfarU := Lib.hid (show P + 1 + 1 < U by omega)
  have hfarUV := Lib.hid (show V < U by omega)
  have hbigU := Lib.hid (show w.heap.size ≤ U by have := hbw.size; omega)
  rw [← hG] at hnew ⊢
  clear hG
  obtain ⟨wn, hwn⟩ : ∃ wn, wn = wv.alloc (.cells #[.int .i64 0, .int .i64 0, .string ⟨#[]⟩] 31) := ⟨_, rfl⟩
  rw [← hwn] at hbn hnew ⊢
  clear hwn
  have hbw := hbw.trans (hbn.mono hbw.size)
  have hX := (hbn.block _ hXl).trans hX
  have hY := (hbn.block _ hYl).trans hY
  have hZ := (hbn.block _ hZl).trans hZ
  have hV := (hbn.block _ hVl).trans hV
  have hAA := hAA.below hbn
  clear hXl hYl hZl hVl hbn
  generalize wn = wv at *
  have hXl : P < wv.heap.size := (Array.getElem?_eq_some_iff.1 hX).1
  have hYl : P + 1 < wv.heap.size := (Array.getElem?_eq_some_iff.1 hY).1
  have hZl : P + 1 + 1 < wv.heap.size := (Array.getElem?_eq_some_iff.1 hZ).1
  have hVl : V < wv.heap.size := (Array.getElem?_eq_some_iff.1 hV).1
  have hU := hnew
  clear hnew
  have hUl : U < wv.heap.size := (Array.getElem?_eq_some_iff.1 hU).1
  conv => arg 4; whnf
  conv => arg 4; arg 1; whnf
  refine pt_eff (by rfl) (fun K hK => ?_)
  go_wp2_with fail
  refine (C2.out _ _ _ _ _ hAA).mono ?_
  rintro en wn ⟨rfl, hbn⟩
  refine hK _ _ hbn ?_
  clear hK K
  clear hAA
  have hbw := hbw.trans (hbn.mono hbw.size)
  have hX := (hbn.block _ hXl).trans hX
  have hY := (hbn.block _ hYl).trans hY
  have hZ := (hbn.block _ hZl).trans hZ
  have hV := (hbn.block _ hVl).trans hV
  have hU := (hbn.block _ hUl).trans hU
  clear hXl hYl hZl hVl hUl hbn
  generalize wn = wv at *
  have hXl : P < wv.heap.size := (Array.getElem?_eq_some_iff.1 hX).1
  have hYl : P + 1 < wv.heap.size := (Array.getElem?_eq_some_iff.1 hY).1
  have hZl : P + 1 + 1 < wv.heap.size := (Array.getElem?_eq_some_iff.1 hZ).1
  have hVl : V < wv.heap.size := (Array.getElem?_eq_some_iff.1 hV).1
  have hUl : U < wv.heap.size := (Array.getElem?_eq_some_iff.1 hU).1
  obtain ⟨r0, r1, r2, z0, z1, z2⟩ := val3 hU
  conv => arg 4; whnf
  conv => arg 4; arg 1; whnf
  refine pt_last (by rfl) (fun K hK => ?_)
  go_wp2_with fail
  clear r0 r1 r2 z0 z1 z2
  have hz := val_store (x := .int .i64 4) (y := .int .i64 1) (z := .string ⟨#[]⟩) hU
  have qX := blk3JBad (x := .int .i64 4) (y := .int .i64 1) (z := .string ⟨#[]⟩) (show P ≠ U by have := hfarU.out; omega) hX
  have qY := blk3JBad (x := .int .i64 4) (y := .int .i64 1) (z := .string ⟨#[]⟩) (show P + 1 ≠ U by have := hfarU.out; omega) hY
  have qZ := blk3JBad (x := .int .i64 4) (y := .int .i64 1) (z := .string ⟨#[]⟩) (show P + 1 + 1 ≠ U by have := hfarU.out; omega) hZ
  have qV := blk3JBad (x := .int .i64 4) (y := .int .i64 1) (z := .string ⟨#[]⟩) (show V ≠ U by have := hfarUV.out; omega) hV
  have hbw := ((hbw.setCell (p := ⟨U, 0, none⟩) hbigU.out (.int .i64 4)).setCell (p := ⟨U, 1, none⟩) hbigU.out (.int .i64 1)).setCell (p := ⟨U, 2, none⟩) hbigU.out (.string ⟨#[]⟩)
  clear hX hY hZ hV hU hXl hYl hZl hVl hUl
  have hU := hz
  have hX := qX
  have hY := qY
  have hZ := qZ
  have hV := qV
  clear hz qX qY qZ qV
  generalize (((wv.setCell ⟨U, 0, none⟩ (.int .i64 4)).setCell ⟨U, 1, none⟩ (.int .i64 1)).setCell ⟨U, 2, none⟩ (.string ⟨#[]⟩)) = wv at *
  have hXl : P < wv.heap.size := (Array.getElem?_eq_some_iff.1 hX).1
  have hYl : P + 1 < wv.heap.size := (Array.getElem?_eq_some_iff.1 hY).1
  have hZl : P + 1 + 1 < wv.heap.size := (Array.getElem?_eq_some_iff.1 hZ).1
  have hVl : V < wv.heap.size := (Array.getElem?_eq_some_iff.1 hV).1
  have hUl : U < wv.heap.size := (Array.getElem?_eq_some_iff.1 hU).1
  refine pt_nil ?_
  obtain ⟨x0, x1, x2, _⟩ := val3 hX
  obtain ⟨y0, y1, y2, _⟩ := val3 hY
  obtain ⟨z0, z1, z2, _⟩ := val3 hZ
  obtain ⟨v0, v1, v2, _⟩ := val3 hV
  obtain ⟨u0, u1, u2, _⟩ := val3 hU
  clear hX hY hZ hV hU hXl hYl hZl hVl hUl
  go_wp2_with fail
  refine (awake8 _).mono ?_
  rintro en wn ⟨rfl, hbn⟩
  clear x0 x1 x2 y0 y1 y2 z0 z1 z2 v0 v1 v2 u0 u1 u2
  go_wp2
  go_ret
  exact ⟨rfl, hbw.trans (hbn.mono hbw.size)⟩
  conv => arg 4; whnf
  conv => arg 4; arg 1; whnf
  refine pt_eff (by rfl) (fun K hK => ?_)
  go_wp2_with fail
  refine hK _ _ ((Below.refl _ _).alloc (Nat.le_refl _) _) ?_
  clear hK K
  have hbn : Below wv.heap.size wv (wv.alloc (.cells #[.int .i64 0, .int .i64 0, .string ⟨#[]⟩] 31)) := (Below.refl _ _).alloc (Nat.le_refl _) _
  obtain ⟨U, hG⟩ : ∃ G, G = wv.heap.size := ⟨_, rfl⟩
  have hnew := heap_alloc_new wv (.cells #[.int .i64 0, .int .i64 0, .string ⟨#[]⟩] 31)
  have hfarU := Lib.hid (show P + 1 + 1 < U by omega)
  have hfarUV := Lib.hid (show V < U by omega)
  have hbigU := Lib.hid (show w.heap.size ≤ U by have := hbw.size; omega)
  rw [← hG] at hnew ⊢
  clear hG
  obtain ⟨wn, hwn⟩ : ∃ wn, wn = wv.alloc (.cells #[.int .i64 0, .int .i64 0, .string ⟨#[]⟩] 31) := ⟨_, rfl⟩
  rw [← hwn] at hbn hnew ⊢
  clear hwn
  have hbw := hbw.trans (hbn.mono hbw.size)
  have hX := (hbn.block _ hXl).trans hX
  have hY := (hbn.block _ hYl).trans hY
  have hZ := (hbn.block _ hZl).trans hZ
  have hV := (hbn.block _ hVl).trans hV
  have ha1 := ha1.below hbn
  have ha2 := ha2.below hbn
  clear hXl hYl hZl hVl hbn
  generalize wn = wv at *
  have hXl : P < wv.heap.size := (Array.getElem?_eq_some_iff.1 hX).1
  have hYl : P + 1 < wv.heap.size := (Array.getElem?_eq_some_iff.1 hY).1
  have hZl : P + 1 + 1 < wv.heap.size := (Array.getElem?_eq_some_iff.1 hZ).1
  have hVl : V < wv.heap.size := (Array.getElem?_eq_some_iff.1 hV).1
  have hU := hnew
  clear hnew
  have hUl : U < wv.heap.size := (Array.getElem?_eq_some_iff.1 hU).1
  conv => arg 4; whnf
  conv => arg 4; arg 1; whnf
  refine pt_eff (by rfl) (fun K hK => ?_)
  go_wp2_with fail
  refine hK _ _ ((Below.refl _ _).alloc (Nat.le_refl _) _) ?_
  clear hK K
  have hbn : Below wv.heap.size wv (wv.alloc (.cells #[.bool false, .int .i64 0, .slice (some ⟨e1, 0, none⟩) 1 1, .bool false, .int .i64 0, .slice (some ⟨e2, 0, none⟩) 1 1] 27)) := (Below.refl _ _).alloc (Nat.le_refl _) _
  obtain ⟨G, hG⟩ : ∃ G, G = wv.heap.size := ⟨_, rfl⟩
  have hGo := heap_alloc_new wv (.cells #[.bool false, .int .i64 0, .slice (some ⟨e1, 0, none⟩) 1 1, .bool false, .int .i64 0, .slice (some ⟨e2, 0, none⟩) 1 1] 27)
  rw [← hG] at hGo ⊢
  clear hG
  have hAA : AtA (wv.alloc (.cells #[.bool false, .int .i64 0, .slice (some ⟨e1, 0, none⟩) 1 1, .bool false, .int .i64 0, .slice (some ⟨e2, 0, none⟩) 1 1] 27)) (some ⟨G, 0, none⟩) [oneArg (some ⟨e1, 0, none⟩) (2, 0, ⟨#[116]⟩), oneArg (some ⟨e2, 0, none⟩) (ky, ny, sy)] := atA_lit (by simp) hGo rfl (fun a ha => by
    simp only [List.mem_cons, List.not_mem_nil, or_false] at ha
    rcases ha with rfl | rfl
    · exact ha1.below hbn
    · exact ha2.below hbn)
  clear hGo ha1 ha2
  obtain ⟨wn, hwn⟩ : ∃ wn, wn = wv.alloc (.cells #[.bool false, .int .i64 0, .slice (some ⟨e1, 0, none⟩) 1 1, .bool false, .int .i64 0, .slice (some ⟨e2, 0, none⟩) 1 1] 27) := ⟨_, rfl⟩
  rw [← hwn] at hbn hAA ⊢
  clear hwn
  have hbw := hbw.trans (hbn.mono hbw.size)
  have hX := (hbn.block _ hXl).trans hX
  have hY := (hbn.block _ hYl).trans hY
  have hZ := (hbn.block _ hZl).trans hZ
  have hV := (hbn.block _ hVl).trans hV
  have hU := (hbn.block _ hUl).trans hU
  clear hXl hYl hZl hVl hUl hbn
  generalize wn = wv at *
  have hXl : P < wv.heap.size := (Array.getElem?_eq_some_iff.1 hX).1
  have hYl : P + 1 < wv.heap.size := (Array.getElem?_eq_some_iff.1 hY).1
  have hZl : P + 1 + 1 < wv.heap.size := (Array.getElem?_eq_some_iff.1 hZ).1
  have hVl : V < wv.heap.size := (Array.getElem?_eq_some_iff.1 hV).1
  have hUl : U < wv.heap.size := (Array.getElem?_eq_some_iff.1 hU).1
  conv => arg 4; whnf
  conv => arg 4; arg 1; whnf
  refine pt_eff (by rfl) (fun K hK => ?_)
  go_wp2_with fail
  refine (C2.out _ _ _ _ _ hAA).mono ?_
  rintro en wn ⟨rfl, hbn⟩
  refine hK _ _ hbn ?_
  clear hK K
  clear hAA
  have hbw := hbw.trans (hbn.mono hbw.size)
  have hX := (hbn.block _ hXl).trans hX
  have hY := (hbn.block _ hYl).trans hY
  have hZ := (hbn.block _ hZl).trans hZ
  have hV := (hbn.block _ hVl).trans hV
  have hU := (hbn.block _ hUl).trans hU
  clear hXl hYl hZl hVl hUl hbn
  generalize wn = wv at *
  have hXl : P < wv.heap.size := (Array.getElem?_eq_some_iff.1 hX).1
  have hYl : P + 1 < wv.heap.size := (Array.getElem?_eq_some_iff.1 hY).1
  have hZl : P + 1 + 1 < wv.heap.size := (Array.getElem?_eq_some_iff.1 hZ).1
  have hVl : V < wv.heap.size := (Array.getElem?_eq_some_iff.1 hV).1
  have hUl : U < wv.heap.size := (Array.getElem?_eq_some_iff.1 hU).1
  obtain ⟨r0, r1, r2, z0, z1, z2⟩ := val3 hU
  conv => arg 4; whnf
  conv => arg 4; arg 1; whnf
  refine pt_last (by rfl) (fun K hK => ?_)
  go_wp2_with fail
  clear r0 r1 r2 z0 z1 z2
  have hz := val_store (x := .int .i64 4) (y := .int .i64 1) (z := .string ⟨#[]⟩) hU
  have qX := blk3JBad (x := .int .i64 4) (y := .int .i64 1) (z := .string ⟨#[]⟩) (show P ≠ U by have := hfarU.out; omega) hX
  have qY := blk3JBad (x := .int .i64 4) (y := .int .i64 1) (z := .string ⟨#[]⟩) (show P + 1 ≠ U by have := hfarU.out; omega) hY
  have qZ := blk3JBad (x := .int .i64 4) (y := .int .i64 1) (z := .string ⟨#[]⟩) (show P + 1 + 1 ≠ U by have := hfarU.out; omega) hZ
  have qV := blk3JBad (x := .int .i64 4) (y := .int .i64 1) (z := .string ⟨#[]⟩) (show V ≠ U by have := hfarUV.out; omega) hV
  have hbw := ((hbw.setCell (p := ⟨U, 0, none⟩) hbigU.out (.int .i64 4)).setCell (p := ⟨U, 1, none⟩) hbigU.out (.int .i64 1)).setCell (p := ⟨U, 2, none⟩) hbigU.out (.string ⟨#[]⟩)
  clear hX hY hZ hV hU hXl hYl hZl hVl hUl
  have hU := hz
  have hX := qX
  have hY := qY
  have hZ := qZ
  have hV := qV
  clear hz qX qY qZ qV
  generalize (((wv.setCell ⟨U, 0, none⟩ (.int .i64 4)).setCell ⟨U, 1, none⟩ (.int .i64 1)).setCell ⟨U, 2, none⟩ (.string ⟨#[]⟩)) = wv at *
  have hXl : P < wv.heap.size := (Array.getElem?_eq_some_iff.1 hX).1
  have hYl : P + 1 < wv.heap.size := (Array.getElem?_eq_some_iff.1 hY).1
  have hZl : P + 1 + 1 < wv.heap.size := (Array.getElem?_eq_some_iff.1 hZ).1
  have hVl : V < wv.heap.size := (Array.getElem?_eq_some_iff.1 hV).1
  have hUl : U < wv.heap.size := (Array.getElem?_eq_some_iff.1 hU).1
  refine pt_nil ?_
  obtain ⟨x0, x1, x2, _⟩ := val3 hX
  obtain ⟨y0, y1, y2, _⟩ := val3 hY
  obtain ⟨z0, z1, z2, _⟩ := val3 hZ
  obtain ⟨v0, v1, v2, _⟩ := val3 hV
  obtain ⟨u0, u1, u2, _⟩ := val3 hU
  clear hX hY hZ hV hU hXl hYl hZl hVl hUl
  go_wp2_with fail
  refine (awake8 _).mono ?_
  rintro en wn ⟨rfl, hbn⟩
  clear x0 x1 x2 y0 y1 y2 z0 z1 z2 v0 v1 v2 u0 u1 u2
  go_wp2
  go_ret
  exact ⟨rfl, hbw.trans (hbn.mono hbw.size)⟩
  conv => arg 4; whnf
  conv => arg 4; arg 1; whnf
  refine pt_eff (by rfl) (fun K hK => ?_)
  go_wp2_with fail
  refine hK _ _ ((Below.refl _ _).alloc (Nat.le_refl _) _) ?_
  clear hK K
  have hbn : Below wv.heap.size wv (wv.alloc (.cells #[.int .i64 0, .int .i64 0, .string ⟨#[]⟩] 31)) := (Below.refl _ _).alloc (Nat.le_refl _) _
  obtain ⟨U, hG⟩ : ∃ G, G = wv.heap.size := ⟨_, rfl⟩
  have hnew := heap_alloc_new wv (.cells #[.int .i64 0, .int .i64 0, .string ⟨#[]⟩] 31)
  have hfarU := Lib.hid (show P + 1 + 1 < U by omega)
  have hfarUV := Lib.hid (show V < U by omega)
  have hbigU := Lib.hid (show w.heap.size ≤ U by have := hbw.size; omega)
  rw [← hG] at hnew ⊢
  clear hG
  obtain ⟨wn, hwn⟩ : ∃ wn, wn = wv.alloc (.cells #[.int .i64 0, .int .i64 0, .string ⟨#[]⟩] 31) := ⟨_, rfl⟩
  rw [← hwn] at hbn hnew ⊢
  clear hwn
  have hbw := hbw.trans (hbn.mono hbw.size)
  have hX := (hbn.block _ hXl).trans hX
  have hY := (hbn.block _ hYl).trans hY
  have hZ := (hbn.block _ hZl).trans hZ
  have hV := (hbn.block _ hVl).trans hV
  have ha1 := ha1.below hbn
  clear hXl hYl hZl hVl hbn
  generalize wn = wv at *
  have hXl : P < wv.heap.size := (Array.getElem?_eq_some_iff.1 hX).1
  have hYl : P + 1 < wv.heap.size := (Array.getElem?_eq_some_iff.1 hY).1
  have hZl : P + 1 + 1 < wv.heap.size := (Array.getElem?_eq_some_iff.1 hZ).1
  have hVl : V < wv.heap.size := (Array.getElem?_eq_some_iff.1 hV).1
  have hU := hnew
  clear hnew
  have hUl : U < wv.heap.size := (Array.getElem?_eq_some_iff.1 hU).1
  conv => arg 4; whnf
  conv => arg 4; arg 1; whnf
  refine pt_eff (by rfl) (fun K hK => ?_)
  go_wp2_with fail
  refine (lone_any _ ky ny sy).mono ?_
  rintro en wn ⟨e2, rfl, hbn, hnew⟩
  refine hK _ _ hbn ?_
  clear hK K
  have hbw := hbw.trans (hbn.mono hbw.size)
  have hX := (hbn.block _ hXl).trans hX
  have hY := (hbn.block _ hYl).trans hY
  have hZ := (hbn.block _ hZl).trans hZ
  have hV := (hbn.block _ hVl).trans hV
  have hU := (hbn.block _ hUl).trans hU
  have ha1 := ha1.below hbn
  clear hXl hYl hZl hVl hUl hbn
  generalize wn = wv at *
  have hXl : P < wv.heap.size := (Array.getElem?_eq_some_iff.1 hX).1
  have hYl : P + 1 < wv.heap.size := (Array.getElem?_eq_some_iff.1 hY).1
  have hZl : P + 1 + 1 < wv.heap.size := (Array.getElem?_eq_some_iff.1 hZ).1
  have hVl : V < wv.heap.size := (Array.getElem?_eq_some_iff.1 hV).1
  have hUl : U < wv.heap.size := (Array.getElem?_eq_some_iff.1 hU).1
  have ha2 := hnew
  clear hnew
  conv => arg 4; whnf
  conv => arg 4; arg 1; whnf
  refine pt_eff (by rfl) (fun K hK => ?_)
  go_wp2_with fail
  refine hK _ _ ((Below.refl _ _).alloc (Nat.le_refl _) _) ?_
  clear hK K
  have hbn : Below wv.heap.size wv (wv.alloc (.cells #[.bool false, .int .i64 0, .slice (some ⟨e1, 0, none⟩) 1 1, .bool false, .int .i64 0, .slice (some ⟨e2, 0, none⟩) 1 1] 27)) := (Below.refl _ _).alloc (Nat.le_refl _) _
  obtain ⟨G, hG⟩ : ∃ G, G = wv.heap.size := ⟨_, rfl⟩
  have hGo := heap_alloc_new wv (.cells #[.bool false, .int .i64 0, .slice (some ⟨e1, 0, none⟩) 1 1, .bool false, .int .i64 0, .slice (some ⟨e2, 0, none⟩) 1 1] 27)
  rw [← hG] at hGo ⊢
  clear hG
  have hAA : AtA (wv.alloc (.cells #[.bool false, .int .i64 0, .slice (some ⟨e1, 0, none⟩) 1 1, .bool false, .int .i64 0, .slice (some ⟨e2, 0, none⟩) 1 1] 27)) (some ⟨G, 0, none⟩) [oneArg (some ⟨e1, 0, none⟩) (2, 0, ⟨#[116]⟩), oneArg (some ⟨e2, 0, none⟩) (ky, ny, sy)] := atA_lit (by simp) hGo rfl (fun a ha => by
    simp only [List.mem_cons, List.not_mem_nil, or_false] at ha
    rcases ha with rfl | rfl
    · exact ha1.below hbn
    · exact ha2.below hbn)
  clear hGo ha1 ha2
  obtain ⟨wn, hwn⟩ : ∃ wn, wn = wv.alloc (.cells #[.bool false, .int .i64 0, .slice (some ⟨e1, 0, none⟩) 1 1, .bool false, .int .i64 0, .slice (some ⟨e2, 0, none⟩) 1 1] 27) := ⟨_, rfl⟩
  rw [← hwn] at hbn hAA ⊢
  clear hwn
  have hbw := hbw.trans (hbn.mono hbw.size)
  have hX := (hbn.block _ hXl).trans hX
  have hY := (hbn.block _ hYl).trans hY
  have hZ := (hbn.block _ hZl).trans hZ
  have hV := (hbn.block _ hVl).trans hV
  have hU := (hbn.block _ hUl).trans hU
  clear hXl hYl hZl hVl hUl hbn
  generalize wn = wv at *
  have hXl : P < wv.heap.size := (Array.getElem?_eq_some_iff.1 hX).1
  have hYl : P + 1 < wv.heap.size := (Array.getElem?_eq_some_iff.1 hY).1
  have hZl : P + 1 + 1 < wv.heap.size := (Array.getElem?_eq_some_iff.1 hZ).1
  have hVl : V < wv.heap.size := (Array.getElem?_eq_some_iff.1 hV).1
  have hUl : U < wv.heap.size := (Array.getElem?_eq_some_iff.1 hU).1
  conv => arg 4; whnf
  conv => arg 4; arg 1; whnf
  refine pt_eff (by rfl) (fun K hK => ?_)
  go_wp2_with fail
  refine (C2.out _ _ _ _ _ hAA).mono ?_
  rintro en wn ⟨rfl, hbn⟩
  refine hK _ _ hbn ?_
  clear hK K
  clear hAA
  have hbw := hbw.trans (hbn.mono hbw.size)
  have hX := (hbn.block _ hXl).trans hX
  have hY := (hbn.block _ hYl).trans hY
  have hZ := (hbn.block _ hZl).trans hZ
  have hV := (hbn.block _ hVl).trans hV
  have hU := (hbn.block _ hUl).trans hU
  clear hXl hYl hZl hVl hUl hbn
  generalize wn = wv at *
  have hXl : P < wv.heap.size := (Array.getElem?_eq_some_iff.1 hX).1
  have hYl : P + 1 < wv.heap.size := (Array.getElem?_eq_some_iff.1 hY).1
  have hZl : P + 1 + 1 < wv.heap.size := (Array.getElem?_eq_some_iff.1 hZ).1
  have hVl : V < wv.heap.size := (Array.getElem?_eq_some_iff.1 hV).1
  have hUl : U < wv.heap.size := (Array.getElem?_eq_some_iff.1 hU).1
  obtain ⟨r0, r1, r2, z0, z1, z2⟩ := val3 hU
  conv => arg 4; whnf
  conv => arg 4; arg 1; whnf
  refine pt_last (by rfl) (fun K hK => ?_)
  go_wp2_with fail
  clear r0 r1 r2 z0 z1 z2
  have hz := val_store (x := .int .i64 4) (y := .int .i64 1) (z := .string ⟨#[]⟩) hU
  have qX := blk3JBad (x := .int .i64 4) (y := .int .i64 1) (z := .string ⟨#[]⟩) (show P ≠ U by have := hfarU.out; omega) hX
  have qY := blk3JBad (x := .int .i64 4) (y := .int .i64 1) (z := .string ⟨#[]⟩) (show P + 1 ≠ U by have := hfarU.out; omega) hY
  have qZ := blk3JBad (x := .int .i64 4) (y := .int .i64 1) (z := .string ⟨#[]⟩) (show P + 1 + 1 ≠ U by have := hfarU.out; omega) hZ
  have qV := blk3JBad (x := .int .i64 4) (y := .int .i64 1) (z := .string ⟨#[]⟩) (show V ≠ U by have := hfarUV.out; omega) hV
  have hbw := ((hbw.setCell (p := ⟨U, 0, none⟩) hbigU.out (.int .i64 4)).setCell (p := ⟨U, 1, none⟩) hbigU.out (.int .i64 1)).setCell (p := ⟨U, 2, none⟩) hbigU.out (.string ⟨#[]⟩)
  clear hX hY hZ hV hU hXl hYl hZl hVl hUl
  have hU := hz
  have hX := qX
  have hY := qY
  have hZ := qZ
  have hV := qV
  clear hz qX qY qZ qV
  generalize (((wv.setCell ⟨U, 0, none⟩ (.int .i64 4)).setCell ⟨U, 1, none⟩ (.int .i64 1)).setCell ⟨U, 2, none⟩ (.string ⟨#[]⟩)) = wv at *
  have hXl : P < wv.heap.size := (Array.getElem?_eq_some_iff.1 hX).1
  have hYl : P + 1 < wv.heap.size := (Array.getElem?_eq_some_iff.1 hY).1
  have hZl : P + 1 + 1 < wv.heap.size := (Array.getElem?_eq_some_iff.1 hZ).1
  have hVl : V < wv.heap.size := (Array.getElem?_eq_some_iff.1 hV).1
  have hUl : U < wv.heap.size := (Array.getElem?_eq_some_iff.1 hU).1
  refine pt_nil ?_
  obtain ⟨x0, x1, x2, _⟩ := val3 hX
  obtain ⟨y0, y1, y2, _⟩ := val3 hY
  obtain ⟨z0, z1, z2, _⟩ := val3 hZ
  obtain ⟨v0, v1, v2, _⟩ := val3 hV
  obtain ⟨u0, u1, u2, _⟩ := val3 hU
  clear hX hY hZ hV hU hXl hYl hZl hVl hUl
  go_wp2_with fail
  refine (awake8 _).mono ?_
  rintro en wn ⟨rfl, hbn⟩
  clear x0 x1 x2 y0 y1 y2 z0 z1 z2 v0 v1 v2 u0 u1 u2
  go_wp2
  go_ret
  exact ⟨rfl, hbw.trans (hbn.mono hbw.size)⟩
  conv => arg 4; whnf
  conv => arg 4; arg 1; whnf
  refine pt_eff (by rfl) (fun K hK => ?_)
  go_wp2_with fail
  refine hK _ _ ((Below.refl _ _).alloc (Nat.le_refl _) _) ?_
  clear hK K
  have hbn : Below wv.heap.size wv (wv.alloc (.cells #[.int .i64 0, .int .i64 0, .string ⟨#[]⟩] 31)) := (Below.refl _ _).alloc (Nat.le_refl _) _
  obtain ⟨U, hG⟩ : ∃ G, G = wv.heap.size := ⟨_, rfl⟩
  have hnew := heap_alloc_new wv (.cells #[.int .i64 0, .int .i64 0, .string ⟨#[]⟩] 31)
  have hfarU := Lib.hid (show P + 1 + 1 < U by omega)
  have hfarUV := Lib.hid (show V < U by omega)
  have hbigU := Lib.hid (show w.heap.size ≤ U by have := hbw.size; omega)
  rw [← hG] at hnew ⊢
  clear hG
  obtain ⟨wn, hwn⟩ : ∃ wn, wn = wv.alloc (.cells #[.int .i64 0, .int .i64 0, .string ⟨#[]⟩] 31) := ⟨_, rfl⟩
  rw [← hwn] at hbn hnew ⊢
  clear hwn
  have hbw := hbw.trans (hbn.mono hbw.size)
  have hX := (hbn.block _ hXl).trans hX
  have hY := (hbn.block _ hYl).trans hY
  have hZ := (hbn.block _ hZl).trans hZ
  have hV := (hbn.block _ hVl).trans hV
  clear hXl hYl hZl hVl hbn
  generalize wn = wv at *
  have hXl : P < wv.heap.size := (Array.getElem?_eq_some_iff.1 hX).1
  have hYl : P + 1 < wv.heap.size := (Array.getElem?_eq_some_iff.1 hY).1
  have hZl : P + 1 + 1 < wv.heap.size := (Array.getElem?_eq_some_iff.1 hZ).1
  have hVl : V < wv.heap.size := (Array.getElem?_eq_some_iff.1 hV).1
  have hU := hnew
  clear hnew
  have hUl : U < wv.heap.size := (Array.getElem?_eq_some_iff.1 hU).1
  conv => arg 4; whnf
  conv => arg 4; arg 1; whnf
  refine pt_eff (by rfl) (fun K hK => ?_)
  go_wp2_with fail
  refine (lone_any _ 2 0 ⟨#[116]⟩).mono ?_
  rintro en wn ⟨e1, rfl, hbn, hnew⟩
  refine hK _ _ hbn ?_
  clear hK K
  have hbw := hbw.trans (hbn.mono hbw.size)
  have hX := (hbn.block _ hXl).trans hX
  have hY := (hbn.block _ hYl).trans hY
  have hZ := (hbn.block _ hZl).trans hZ
  have hV := (hbn.block _ hVl).trans hV
  have hU := (hbn.block _ hUl).trans hU
  clear hXl hYl hZl hVl hUl hbn
  generalize wn = wv at *
  have hXl : P < wv.heap.size := (Array.getElem?_eq_some_iff.1 hX).1
  have hYl : P + 1 < wv.heap.size := (Array.getElem?_eq_some_iff.1 hY).1
  have hZl : P + 1 + 1 < wv.heap.size := (Array.getElem?_eq_some_iff.1 hZ).1
  have hVl : V < wv.heap.size := (Array.getElem?_eq_some_iff.1 hV).1
  have hUl : U < wv.heap.size := (Array.getElem?_eq_some_iff.1 hU).1
  have ha1 := hnew
  clear hnew
  conv => arg 4; whnf
  conv => arg 4; arg 1; whnf
  refine pt_eff (by rfl) (fun K hK => ?_)
  go_wp2_with fail
  refine (lone_any _ ky ny sy).mono ?_
  rintro en wn ⟨e2, rfl, hbn, hnew⟩
  refine hK _ _ hbn ?_
  clear hK K
  have hbw := hbw.trans (hbn.mono hbw.size)
  have hX := (hbn.block _ hXl).trans hX
  have hY := (hbn.block _ hYl).trans hY
  have hZ := (hbn.block _ hZl).trans hZ
  have hV := (hbn.block _ hVl).trans hV
  have hU := (hbn.block _ hUl).trans hU
  have ha1 := ha1.below hbn
  clear hXl hYl hZl hVl hUl hbn
  generalize wn = wv at *
  have hXl : P < wv.heap.size := (Array.getElem?_eq_some_iff.1 hX).1
  have hYl : P + 1 < wv.heap.size := (Array.getElem?_eq_some_iff.1 hY).1
  have hZl : P + 1 + 1 < wv.heap.size := (Array.getElem?_eq_some_iff.1 hZ).1
  have hVl : V < wv.heap.size := (Array.getElem?_eq_some_iff.1 hV).1
  have hUl : U < wv.heap.size := (Array.getElem?_eq_some_iff.1 hU).1
  have ha2 := hnew
  clear hnew
  conv => arg 4; whnf
  conv => arg 4; arg 1; whnf
  refine pt_eff (by rfl) (fun K hK => ?_)
  go_wp2_with fail
  refine hK _ _ ((Below.refl _ _).alloc (Nat.le_refl _) _) ?_
  clear hK K
  have hbn : Below wv.heap.size wv (wv.alloc (.cells #[.bool false, .int .i64 0, .slice (some ⟨e1, 0, none⟩) 1 1, .bool false, .int .i64 0, .slice (some ⟨e2, 0, none⟩) 1 1] 27)) := (Below.refl _ _).alloc (Nat.le_refl _) _
  obtain ⟨G, hG⟩ : ∃ G, G = wv.heap.size := ⟨_, rfl⟩
  have hGo := heap_alloc_new wv (.cells #[.bool false, .int .i64 0, .slice (some ⟨e1, 0, none⟩) 1 1, .bool false, .int .i64 0, .slice (some ⟨e2, 0, none⟩) 1 1] 27)
  rw [← hG] at hGo ⊢
  clear hG
  have hAA : AtA (wv.alloc (.cells #[.bool false, .int .i64 0, .slice (some ⟨e1, 0, none⟩) 1 1, .bool false, .int .i64 0, .slice (some ⟨e2, 0, none⟩) 1 1] 27)) (some ⟨G, 0, none⟩) [oneArg (some ⟨e1, 0, none⟩) (2, 0, ⟨#[116]⟩), oneArg (some ⟨e2, 0, none⟩) (ky, ny, sy)] := atA_lit (by simp) hGo rfl (fun a ha => by
    simp only [List.mem_cons, List.not_mem_nil, or_false] at ha
    rcases ha with rfl | rfl
    · exact ha1.below hbn
    · exact ha2.below hbn)
  clear hGo ha1 ha2
  obtain ⟨wn, hwn⟩ : ∃ wn, wn = wv.alloc (.cells #[.bool false, .int .i64 0, .slice (some ⟨e1, 0, none⟩) 1 1, .bool false, .int .i64 0, .slice (some ⟨e2, 0, none⟩) 1 1] 27) := ⟨_, rfl⟩
  rw [← hwn] at hbn hAA ⊢
  clear hwn
  have hbw := hbw.trans (hbn.mono hbw.size)
  have hX := (hbn.block _ hXl).trans hX
  have hY := (hbn.block _ hYl).trans hY
  have hZ := (hbn.block _ hZl).trans hZ
  have hV := (hbn.block _ hVl).trans hV
  have hU := (hbn.block _ hUl).trans hU
  clear hXl hYl hZl hVl hUl hbn
  generalize wn = wv at *
  have hXl : P < wv.heap.size := (Array.getElem?_eq_some_iff.1 hX).1
  have hYl : P + 1 < wv.heap.size := (Array.getElem?_eq_some_iff.1 hY).1
  have hZl : P + 1 + 1 < wv.heap.size := (Array.getElem?_eq_some_iff.1 hZ).1
  have hVl : V < wv.heap.size := (Array.getElem?_eq_some_iff.1 hV).1
  have hUl : U < wv.heap.size := (Array.getElem?_eq_some_iff.1 hU).1
  conv => arg 4; whnf
  conv => arg 4; arg 1; whnf
  refine pt_eff (by rfl) (fun K hK => ?_)
  go_wp2_with fail
  refine (C2.out _ _ _ _ _ hAA).mono ?_
  rintro en wn ⟨rfl, hbn⟩
  refine hK _ _ hbn ?_
  clear hK K
  clear hAA
  have hbw := hbw.trans (hbn.mono hbw.size)
  have hX := (hbn.block _ hXl).trans hX
  have hY := (hbn.block _ hYl).trans hY
  have hZ := (hbn.block _ hZl).trans hZ
  have hV := (hbn.block _ hVl).trans hV
  have hU := (hbn.block _ hUl).trans hU
  clear hXl hYl hZl hVl hUl hbn
  generalize wn = wv at *
  have hXl : P < wv.heap.size := (Array.getElem?_eq_some_iff.1 hX).1
  have hYl : P + 1 < wv.heap.size := (Array.getElem?_eq_some_iff.1 hY).1
  have hZl : P + 1 + 1 < wv.heap.size := (Array.getElem?_eq_some_iff.1 hZ).1
  have hVl : V < wv.heap.size := (Array.getElem?_eq_some_iff.1 hV).1
  have hUl : U < wv.heap.size := (Array.getElem?_eq_some_iff.1 hU).1
  obtain ⟨r0, r1, r2, z0, z1, z2⟩ := val3 hU
  conv => arg 4; whnf
  conv => arg 4; arg 1; whnf
  refine pt_last (by rfl) (fun K hK => ?_)
  go_wp2_with fail
  clear r0 r1 r2 z0 z1 z2
  have hz := val_store (x := .int .i64 4) (y := .int .i64 1) (z := .string ⟨#[]⟩) hU
  have qX := blk3JBad (x := .int .i64 4) (y := .int .i64 1) (z := .string ⟨#[]⟩) (show P ≠ U by have := hfarU.out; omega) hX
  have qY := blk3JBad (x := .int .i64 4) (y := .int .i64 1) (z := .string ⟨#[]⟩) (show P + 1 ≠ U by have := hfarU.out; omega) hY
  have qZ := blk3JBad (x := .int .i64 4) (y := .int .i64 1) (z := .string ⟨#[]⟩) (show P + 1 + 1 ≠ U by have := hfarU.out; omega) hZ
  have qV := blk3JBad (x := .int .i64 4) (y := .int .i64 1) (z := .string ⟨#[]⟩) (show V ≠ U by have := hfarUV.out; omega) hV
  have hbw := ((hbw.setCell (p := ⟨U, 0, none⟩) hbigU.out (.int .i64 4)).setCell (p := ⟨U, 1, none⟩) hbigU.out (.int .i64 1)).setCell (p := ⟨U, 2, none⟩) hbigU.out (.string ⟨#[]⟩)
  clear hX hY hZ hV hU hXl hYl hZl hVl hUl
  have hU := hz
  have hX := qX
  have hY := qY
  have hZ := qZ
  have hV := qV
  clear hz qX qY qZ qV
  generalize (((wv.setCell ⟨U, 0, none⟩ (.int .i64 4)).setCell ⟨U, 1, none⟩ (.int .i64 1)).setCell ⟨U, 2, none⟩ (.string ⟨#[]⟩)) = wv at *
  have hXl : P < wv.heap.size := (Array.getElem?_eq_some_iff.1 hX).1
  have hYl : P + 1 < wv.heap.size := (Array.getElem?_eq_some_iff.1 hY).1
  have hZl : P + 1 + 1 < wv.heap.size := (Array.getElem?_eq_some_iff.1 hZ).1
  have hVl : V < wv.heap.size := (Array.getElem?_eq_some_iff.1 hV).1
  have hUl : U < wv.heap.size := (Array.getElem?_eq_some_iff.1 hU).1
  refine pt_nil ?_
  obtain ⟨x0, x1, x2, _⟩ := val3 hX
  obtain ⟨y0, y1, y2, _⟩ := val3 hY
  obtain ⟨z0, z1, z2, _⟩ := val3 hZ
  obtain ⟨v0, v1, v2, _⟩ := val3 hV
  obtain ⟨u0, u1, u2, _⟩ := val3 hU
  clear hX hY hZ hV hU hXl hYl hZl hVl hUl
  go_wp2_with fail
  refine (awake8 _).mono ?_
  rintro en wn ⟨rfl, hbn⟩
  clear x0 x1 x2 y0 y1 y2 z0 z1 z2 v0 v1 v2 u0 u1 u2
  go_wp2
  go_ret
  exact ⟨rfl, hbw.trans (hbn.mono hbw.size)⟩
end Go.Proofs.YtcbaioagcemmnaaDoor
