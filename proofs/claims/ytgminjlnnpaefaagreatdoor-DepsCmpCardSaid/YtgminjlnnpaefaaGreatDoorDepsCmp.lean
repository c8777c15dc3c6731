/- chequerlaw13's DepsCmp. Written by depscmpgen.py. -/
import Derived.Test.YtgminjlnnpaefaaGreatDoorDSpot
import Derived.Test.YtgminjlnnpaefaaGreatDoorVmAwake
namespace Go.Proofs.YtgminjlnnpaefaaGreatDoor
open Go.RowKit
theorem load_spot (k : Nat) (W : World) (a b c : Value) (h : W.heap[k]? = some (.cells #[a, b, c] 23 (0, 0))) :
    (Instr.loadAt 23 (.pointer (some ⟨k, 0, none⟩))).run Tryz.prog W = .ok (.agg #[a, b, c]) W := by
  obtain ⟨h0, h1, h2⟩ := cells3 h
  simp [go_sem, h0, h1, h2]
theorem pt_loadB {P : Program} {ops : Array Oper} {Q : Exit → Act → World → Prop} {a : Act} {w : World} {o : Oper} {t : PTo} {T : TypeId} {x : Operand} {k : Nat} {v : Value} (hrun : ∀ W, W.heap[k]? = w.heap[k]? → (Instr.loadAt T (.pointer (some ⟨k, 0, none⟩))).run P W = .ok v W) (hlt : k < w.heap.size)
    (hw : Region.wanted o (yielded ops a.tmps) = true) (ho : o.op = .load T x) (hx : a.eval x = .pointer (some ⟨k, 0, none⟩)) (h2 : PlannedT P ops Q t (a.put o.dst v) w) : PlannedT P ops Q (.free o t) a w := by
  refine pt_at hw (fun W hW => ?_) h2
  unfold execOp
  rw [ho]
  simp only [hx, Sem.run_bind, hrun W (hW.block k hlt), Result.andThen_ok]
  rfl

def MadePost (w : World) (p : Int → Prop) (e : Ending) (w' : World) : Prop := ∃ k n s, e = .returned (.agg #[.int .i64 k, .int .i64 n, .string s]) ∧ p k ∧ Below w.heap.size w w'
set_option maxRecDepth 100000 in
set_option maxHeartbeats 4000000 in
theorem dc2 (w : World) (s : ByteArray) (n k : Int) (s3 : ByteArray) (n3 k3 : Int) (y z : Int)
    (hAB : ∀ W, Calls Tryz.prog 5 #[.agg #[.string s, .int .i64 n, .int .i64 k], .agg #[.string s, .int .i64 n, .int .i64 k]] W fun e w' => e = .returned (.int .i64 (0)) ∧ Below W.heap.size W w')
    (hBC : ∀ W, Calls Tryz.prog 5 #[.agg #[.string s, .int .i64 n, .int .i64 k], .agg #[.string s3, .int .i64 n3, .int .i64 k3]] W fun e w' => e = .returned (.int .i64 (y)) ∧ Below W.heap.size W w')
    (hAC : ∀ W, Calls Tryz.prog 5 #[.agg #[.string s, .int .i64 n, .int .i64 k], .agg #[.string s3, .int .i64 n3, .int .i64 k3]] W fun e w' => e = .returned (.int .i64 (z)) ∧ Below W.heap.size W w')
    (hBA : ∀ W, Calls Tryz.prog 5 #[.agg #[.string s, .int .i64 n, .int .i64 k], .agg #[.string s, .int .i64 n, .int .i64 k]] W fun e w' => e = .returned (.int .i64 (0)) ∧ Below W.heap.size W w')
    (hR : ∀ W, Calls Tryz.prog 6 #[.agg #[.string s, .int .i64 n, .int .i64 k], .agg #[.string s, .int .i64 n, .int .i64 k]] W fun e w' => e = .returned (.int .i64 (0)) ∧ Below W.heap.size W w') (hy : 0 < y) :
    Calls Tryz.prog 3 #[.agg #[.string s, .int .i64 n, .int .i64 k], .agg #[.string s, .int .i64 n, .int .i64 k], .agg #[.string s3, .int .i64 n3, .int .i64 k3]] w fun e w' => e = .returned (.bool true) ∧ Below w.heap.size w w' := by
  go_enter Tryz.func3, Tryz.ntmps3
  go_wp2_with fail
  obtain ⟨W, hW⟩ : ∃ W, W = (((w.alloc (.cells #[.string s, .int .i64 n, .int .i64 k] 23)).alloc (.cells #[.string s, .int .i64 n, .int .i64 k] 23)).alloc (.cells #[.string s3, .int .i64 n3, .int .i64 k3] 23)) := ⟨_, rfl⟩
  have hs0 := heap_alloc_new w (.cells #[.string s, .int .i64 n, .int .i64 k] 23)
  have hs1 := heap_alloc_new (w.alloc (.cells #[.string s, .int .i64 n, .int .i64 k] 23)) (.cells #[.string s, .int .i64 n, .int .i64 k] 23)
  rw [World.size_alloc] at hs1
  have hs2 := heap_alloc_new ((w.alloc (.cells #[.string s, .int .i64 n, .int .i64 k] 23)).alloc (.cells #[.string s, .int .i64 n, .int .i64 k] 23)) (.cells #[.string s3, .int .i64 n3, .int .i64 k3] 23)
  rw [World.size_alloc, World.size_alloc] at hs2
  have hX : W.heap[w.heap.size]? = some (.cells #[.string s, .int .i64 n, .int .i64 k] 23 (0, 0)) := by rw [hW]; exact (Below.heap_alloc _ _ _ (by simp; try omega)).trans ((Below.heap_alloc _ _ _ (by simp; try omega)).trans (hs0))
  have hY : W.heap[w.heap.size + 1]? = some (.cells #[.string s, .int .i64 n, .int .i64 k] 23 (0, 0)) := by rw [hW]; exact (Below.heap_alloc _ _ _ (by simp; try omega)).trans (hs1)
  have hZ : W.heap[w.heap.size + 1 + 1]? = some (.cells #[.string s3, .int .i64 n3, .int .i64 k3] 23 (0, 0)) := by rw [hW]; exact hs2
  have hsW : W.heap.size = w.heap.size + 3 := by rw [hW]; simp
  have hbW : Below w.heap.size w W := by rw [hW]; exact (((Below.refl _ _).alloc (Nat.le_refl _) _).alloc (by simp; try omega) _).alloc (by simp; try omega) _
  rw [← hW]
  clear hW hs0 hs1 hs2
  refine wp_region_tree [] (.free 0 (.free 1 (.free 3 (.free 4 (.free 6 (.free 7 (.eff 2 (.eff 5 (.eff 8 (.free 9 (.free 10 (.free 11 (.nil))))))))))))) (by kernel_rfl) (by kernel_rfl) (fun _ _ d _ _ h => by cases d <;> exact h) ?_
  have hbw := hbW.drew
  have hX : W.drew.heap[w.heap.size]? = _ := hX
  have hY : W.drew.heap[w.heap.size + 1]? = _ := hY
  have hZ : W.drew.heap[w.heap.size + 1 + 1]? = _ := hZ
  clear hbW hsW
  generalize W.drew = wv at *
  have hXl : w.heap.size < wv.heap.size := (Array.getElem?_eq_some_iff.1 hX).1
  have hYl : w.heap.size + 1 < wv.heap.size := (Array.getElem?_eq_some_iff.1 hY).1
  have hZl : w.heap.size + 1 + 1 < wv.heap.size := (Array.getElem?_eq_some_iff.1 hZ).1
  conv => arg 4; whnf
  conv => arg 4; arg 1; whnf
  refine pt_loadB (k := w.heap.size) (fun W h => load_spot _ W _ _ _ (h.trans hX)) hXl (by rfl) rfl rfl ?_
  simp only [Act.put, List.setIfInBounds_toArray, List.set_cons_zero, List.set_cons_succ]
  conv => arg 4; whnf
  conv => arg 4; arg 1; whnf
  refine pt_loadB (k := w.heap.size + 1) (fun W h => load_spot _ W _ _ _ (h.trans hY)) hYl (by rfl) rfl rfl ?_
  simp only [Act.put, List.setIfInBounds_toArray, List.set_cons_zero, List.set_cons_succ]
  conv => arg 4; whnf
  conv => arg 4; arg 1; whnf
  refine pt_loadB (k := w.heap.size + 1) (fun W h => load_spot _ W _ _ _ (h.trans hY)) hYl (by rfl) rfl rfl ?_
  simp only [Act.put, List.setIfInBounds_toArray, List.set_cons_zero, List.set_cons_succ]
  conv => arg 4; whnf
  conv => arg 4; arg 1; whnf
  refine pt_loadB (k := w.heap.size + 1 + 1) (fun W h => load_spot _ W _ _ _ (h.trans hZ)) hZl (by rfl) rfl rfl ?_
  simp only [Act.put, List.setIfInBounds_toArray, List.set_cons_zero, List.set_cons_succ]
  conv => arg 4; whnf
  conv => arg 4; arg 1; whnf
  refine pt_loadB (k := w.heap.size) (fun W h => load_spot _ W _ _ _ (h.trans hX)) hXl (by rfl) rfl rfl ?_
  simp only [Act.put, List.setIfInBounds_toArray, List.set_cons_zero, List.set_cons_succ]
  conv => arg 4; whnf
  conv => arg 4; arg 1; whnf
  refine pt_loadB (k := w.heap.size + 1 + 1) (fun W h => load_spot _ W _ _ _ (h.trans hZ)) hZl (by rfl) rfl rfl ?_
  simp only [Act.put, List.setIfInBounds_toArray, List.set_cons_zero, List.set_cons_succ]
  conv => arg 4; whnf
  conv => arg 4; arg 1; whnf
  refine pt_eff (by rfl) (fun K hK => ?_)
  go_wp2_with fail
  refine (hAB _).mono ?_
  rintro en wn ⟨rfl, hbn⟩
  refine hK _ _ hbn ?_
  clear hK K
  have hbw := hbw.trans (hbn.mono hbw.size)
  have hX := (hbn.block _ hXl).trans hX
  have hY := (hbn.block _ hYl).trans hY
  have hZ := (hbn.block _ hZl).trans hZ
  clear hXl hYl hZl hbn
  generalize wn = wv at *
  have hXl : w.heap.size < wv.heap.size := (Array.getElem?_eq_some_iff.1 hX).1
  have hYl : w.heap.size + 1 < wv.heap.size := (Array.getElem?_eq_some_iff.1 hY).1
  have hZl : w.heap.size + 1 + 1 < wv.heap.size := (Array.getElem?_eq_some_iff.1 hZ).1
  conv => arg 4; whnf
  conv => arg 4; arg 1; whnf
  refine pt_eff (by rfl) (fun K hK => ?_)
  go_wp2_with fail
  refine (hBC _).mono ?_
  rintro en wn ⟨rfl, hbn⟩
  refine hK _ _ hbn ?_
  clear hK K
  have hbw := hbw.trans (hbn.mono hbw.size)
  have hX := (hbn.block _ hXl).trans hX
  have hY := (hbn.block _ hYl).trans hY
  have hZ := (hbn.block _ hZl).trans hZ
  clear hXl hYl hZl hbn
  generalize wn = wv at *
  have hXl : w.heap.size < wv.heap.size := (Array.getElem?_eq_some_iff.1 hX).1
  have hYl : w.heap.size + 1 < wv.heap.size := (Array.getElem?_eq_some_iff.1 hY).1
  have hZl : w.heap.size + 1 + 1 < wv.heap.size := (Array.getElem?_eq_some_iff.1 hZ).1
  conv => arg 4; whnf
  conv => arg 4; arg 1; whnf
  refine pt_eff (by rfl) (fun K hK => ?_)
  go_wp2_with fail
  refine (hAC _).mono ?_
  rintro en wn ⟨rfl, hbn⟩
  refine hK _ _ hbn ?_
  clear hK K
  have hbw := hbw.trans (hbn.mono hbw.size)
  have hX := (hbn.block _ hXl).trans hX
  have hY := (hbn.block _ hYl).trans hY
  have hZ := (hbn.block _ hZl).trans hZ
  clear hXl hYl hZl hbn
  generalize wn = wv at *
  have hXl : w.heap.size < wv.heap.size := (Array.getElem?_eq_some_iff.1 hX).1
  have hYl : w.heap.size + 1 < wv.heap.size := (Array.getElem?_eq_some_iff.1 hY).1
  have hZl : w.heap.size + 1 + 1 < wv.heap.size := (Array.getElem?_eq_some_iff.1 hZ).1
  conv => arg 4; whnf
  conv => arg 4; arg 1; whnf
  refine pt_free (by rfl) (fun K hK => ?_)
  go_big_quiet_op
  first | (refine hK _ ?_; clear hK K) | (refine ⟨_, fun _ _ => rfl, hK _ ?_⟩; clear hK K)
  conv => arg 4; whnf
  conv => arg 4; arg 1; whnf
  refine pt_free (by rfl) (fun K hK => ?_)
  go_big_quiet_op
  first | (refine hK _ ?_; clear hK K) | (refine ⟨_, fun _ _ => rfl, hK _ ?_⟩; clear hK K)
  conv => arg 4; whnf
  conv => arg 4; arg 1; whnf
  refine pt_free (by rfl) (fun K hK => ?_)
  go_big_quiet_op
  first | (refine hK _ ?_; clear hK K) | (refine ⟨_, fun _ _ => rfl, hK _ ?_⟩; clear hK K)
  refine pt_nil ?_
  obtain ⟨a0, a1, a2⟩ := cells3 hX
  obtain ⟨b0, b1, b2⟩ := cells3 hY
  go_wp2_with fail
  refine (hBA _).mono ?_
  rintro en wn ⟨rfl, hbn⟩
  clear a0 a1 a2 b0 b1 b2
  have hbw := hbw.trans (hbn.mono hbw.size)
  have hX := (hbn.block _ hXl).trans hX
  have hY := (hbn.block _ hYl).trans hY
  have hZ := (hbn.block _ hZl).trans hZ
  clear hXl hYl hZl hbn
  generalize wn = wv at *
  have hXl : w.heap.size < wv.heap.size := (Array.getElem?_eq_some_iff.1 hX).1
  have hYl : w.heap.size + 1 < wv.heap.size := (Array.getElem?_eq_some_iff.1 hY).1
  have hZl : w.heap.size + 1 + 1 < wv.heap.size := (Array.getElem?_eq_some_iff.1 hZ).1
  obtain ⟨a0, a1, a2⟩ := cells3 hX
  obtain ⟨b0, b1, b2⟩ := cells3 hY
  go_wp2_with fail
  refine (hR _).mono ?_
  rintro en wn ⟨rfl, hbn⟩
  clear a0 a1 a2 b0 b1 b2
  have hbw := hbw.trans (hbn.mono hbw.size)
  have hX := (hbn.block _ hXl).trans hX
  have hY := (hbn.block _ hYl).trans hY
  have hZ := (hbn.block _ hZl).trans hZ
  clear hXl hYl hZl hbn
  generalize wn = wv at *
  have hXl : w.heap.size < wv.heap.size := (Array.getElem?_eq_some_iff.1 hX).1
  have hYl : w.heap.size + 1 < wv.heap.size := (Array.getElem?_eq_some_iff.1 hY).1
  have hZl : w.heap.size + 1 + 1 < wv.heap.size := (Array.getElem?_eq_some_iff.1 hZ).1
  obtain ⟨a0, a1, a2⟩ := cells3 hX
  obtain ⟨b0, b1, b2⟩ := cells3 hY
  go_wp2_with fail
  refine (VM.awake_any _).mono ?_
  rintro en wn ⟨rfl, hbn⟩
  have hbw := hbw.trans (hbn.mono hbw.size)
  go_wp2_with fail
  go_ret
  exact ⟨by rfl, hbw⟩
set_option maxRecDepth 100000 in
set_option maxHeartbeats 4000000 in
theorem dc3 (w : World) (s : ByteArray) (n k : Int) (s3 : ByteArray) (n3 k3 : Int) (y z : Int)
    (hAB : ∀ W, Calls Tryz.prog 5 #[.agg #[.string s, .int .i64 n, .int .i64 k], .agg #[.string s, .int .i64 n, .int .i64 k]] W fun e w' => e = .returned (.int .i64 (0)) ∧ Below W.heap.size W w')
    (hBC : ∀ W, Calls Tryz.prog 5 #[.agg #[.string s, .int .i64 n, .int .i64 k], .agg #[.string s3, .int .i64 n3, .int .i64 k3]] W fun e w' => e = .returned (.int .i64 (y)) ∧ Below W.heap.size W w')
    (hAC : ∀ W, Calls Tryz.prog 5 #[.agg #[.string s, .int .i64 n, .int .i64 k], .agg #[.string s3, .int .i64 n3, .int .i64 k3]] W fun e w' => e = .returned (.int .i64 (z)) ∧ Below W.heap.size W w')
    (hBA : ∀ W, Calls Tryz.prog 5 #[.agg #[.string s, .int .i64 n, .int .i64 k], .agg #[.string s, .int .i64 n, .int .i64 k]] W fun e w' => e = .returned (.int .i64 (0)) ∧ Below W.heap.size W w')
    (hR : ∀ W, Calls Tryz.prog 6 #[.agg #[.string s, .int .i64 n, .int .i64 k], .agg #[.string s, .int .i64 n, .int .i64 k]] W fun e w' => e = .returned (.int .i64 (0)) ∧ Below W.heap.size W w') (hy : ¬ 0 < y) (hz : z ≤ 0) :
    Calls Tryz.prog 3 #[.agg #[.string s, .int .i64 n, .int .i64 k], .agg #[.string s, .int .i64 n, .int .i64 k], .agg #[.string s3, .int .i64 n3, .int .i64 k3]] w fun e w' => e = .returned (.bool true) ∧ Below w.heap.size w w' := by
  go_enter Tryz.func3, Tryz.ntmps3
  go_wp2_with fail
  obtain ⟨W, hW⟩ : ∃ W, W = (((w.alloc (.cells #[.string s, .int .i64 n, .int .i64 k] 23)).alloc (.cells #[.string s, .int .i64 n, .int .i64 k] 23)).alloc (.cells #[.string s3, .int .i64 n3, .int .i64 k3] 23)) := ⟨_, rfl⟩
  have hs0 := heap_alloc_new w (.cells #[.string s, .int .i64 n, .int .i64 k] 23)
  have hs1 := heap_alloc_new (w.alloc (.cells #[.string s, .int .i64 n, .int .i64 k] 23)) (.cells #[.string s, .int .i64 n, .int .i64 k] 23)
  rw [World.size_alloc] at hs1
  have hs2 := heap_alloc_new ((w.alloc (.cells #[.string s, .int .i64 n, .int .i64 k] 23)).alloc (.cells #[.string s, .int .i64 n, .int .i64 k] 23)) (.cells #[.string s3, .int .i64 n3, .int .i64 k3] 23)
  rw [World.size_alloc, World.size_alloc] at hs2
  have hX : W.heap[w.heap.size]? = some (.cells #[.string s, .int .i64 n, .int .i64 k] 23 (0, 0)) := by rw [hW]; exact (Below.heap_alloc _ _ _ (by simp; try omega)).trans ((Below.heap_alloc _ _ _ (by simp; try omega)).trans (hs0))
  have hY : W.heap[w.heap.size + 1]? = some (.cells #[.string s, .int .i64 n, .int .i64 k] 23 (0, 0)) := by rw [hW]; exact (Below.heap_alloc _ _ _ (by simp; try omega)).trans (hs1)
  have hZ : W.heap[w.heap.size + 1 + 1]? = some (.cells #[.string s3, .int .i64 n3, .int .i64 k3] 23 (0, 0)) := by rw [hW]; exact hs2
  have hsW : W.heap.size = w.heap.size + 3 := by rw [hW]; simp
  have hbW : Below w.heap.size w W := by rw [hW]; exact (((Below.refl _ _).alloc (Nat.le_refl _) _).alloc (by simp; try omega) _).alloc (by simp; try omega) _
  rw [← hW]
  clear hW hs0 hs1 hs2
  refine wp_region_tree [] (.free 0 (.free 1 (.free 3 (.free 4 (.free 6 (.free 7 (.eff 2 (.eff 5 (.eff 8 (.free 9 (.free 10 (.free 11 (.nil))))))))))))) (by kernel_rfl) (by kernel_rfl) (fun _ _ d _ _ h => by cases d <;> exact h) ?_
  have hbw := hbW.drew
  have hX : W.drew.heap[w.heap.size]? = _ := hX
  have hY : W.drew.heap[w.heap.size + 1]? = _ := hY
  have hZ : W.drew.heap[w.heap.size + 1 + 1]? = _ := hZ
  clear hbW hsW
  generalize W.drew = wv at *
  have hXl : w.heap.size < wv.heap.size := (Array.getElem?_eq_some_iff.1 hX).1
  have hYl : w.heap.size + 1 < wv.heap.size := (Array.getElem?_eq_some_iff.1 hY).1
  have hZl : w.heap.size + 1 + 1 < wv.heap.size := (Array.getElem?_eq_some_iff.1 hZ).1
  conv => arg 4; whnf
  conv => arg 4; arg 1; whnf
  refine pt_loadB (k := w.heap.size) (fun W h => load_spot _ W _ _ _ (h.trans hX)) hXl (by rfl) rfl rfl ?_
  simp only [Act.put, List.setIfInBounds_toArray, List.set_cons_zero, List.set_cons_succ]
  conv => arg 4; whnf
  conv => arg 4; arg 1; whnf
  refine pt_loadB (k := w.heap.size + 1) (fun W h => load_spot _ W _ _ _ (h.trans hY)) hYl (by rfl) rfl rfl ?_
  simp only [Act.put, List.setIfInBounds_toArray, List.set_cons_zero, List.set_cons_succ]
  conv => arg 4; whnf
  conv => arg 4; arg 1; whnf
  refine pt_loadB (k := w.heap.size + 1) (fun W h => load_spot _ W _ _ _ (h.trans hY)) hYl (by rfl) rfl rfl ?_
  simp only [Act.put, List.setIfInBounds_toArray, List.set_cons_zero, List.set_cons_succ]
  conv => arg 4; whnf
  conv => arg 4; arg 1; whnf
  refine pt_loadB (k := w.heap.size + 1 + 1) (fun W h => load_spot _ W _ _ _ (h.trans hZ)) hZl (by rfl) rfl rfl ?_
  simp only [Act.put, List.setIfInBounds_toArray, List.set_cons_zero, List.set_cons_succ]
  conv => arg 4; whnf
  conv => arg 4; arg 1; whnf
  refine pt_loadB (k := w.heap.size) (fun W h => load_spot _ W _ _ _ (h.trans hX)) hXl (by rfl) rfl rfl ?_
  simp only [Act.put, List.setIfInBounds_toArray, List.set_cons_zero, List.set_cons_succ]
  conv => arg 4; whnf
  conv => arg 4; arg 1; whnf
  refine pt_loadB (k := w.heap.size + 1 + 1) (fun W h => load_spot _ W _ _ _ (h.trans hZ)) hZl (by rfl) rfl rfl ?_
  simp only [Act.put, List.setIfInBounds_toArray, List.set_cons_zero, List.set_cons_succ]
  conv => arg 4; whnf
  conv => arg 4; arg 1; whnf
  refine pt_eff (by rfl) (fun K hK => ?_)
  go_wp2_with fail
  refine (hAB _).mono ?_
  rintro en wn ⟨rfl, hbn⟩
  refine hK _ _ hbn ?_
  clear hK K
  have hbw := hbw.trans (hbn.mono hbw.size)
  have hX := (hbn.block _ hXl).trans hX
  have hY := (hbn.block _ hYl).trans hY
  have hZ := (hbn.block _ hZl).trans hZ
  clear hXl hYl hZl hbn
  generalize wn = wv at *
  have hXl : w.heap.size < wv.heap.size := (Array.getElem?_eq_some_iff.1 hX).1
  have hYl : w.heap.size + 1 < wv.heap.size := (Array.getElem?_eq_some_iff.1 hY).1
  have hZl : w.heap.size + 1 + 1 < wv.heap.size := (Array.getElem?_eq_some_iff.1 hZ).1
  conv => arg 4; whnf
  conv => arg 4; arg 1; whnf
  refine pt_eff (by rfl) (fun K hK => ?_)
  go_wp2_with fail
  refine (hBC _).mono ?_
  rintro en wn ⟨rfl, hbn⟩
  refine hK _ _ hbn ?_
  clear hK K
  have hbw := hbw.trans (hbn.mono hbw.size)
  have hX := (hbn.block _ hXl).trans hX
  have hY := (hbn.block _ hYl).trans hY
  have hZ := (hbn.block _ hZl).trans hZ
  clear hXl hYl hZl hbn
  generalize wn = wv at *
  have hXl : w.heap.size < wv.heap.size := (Array.getElem?_eq_some_iff.1 hX).1
  have hYl : w.heap.size + 1 < wv.heap.size := (Array.getElem?_eq_some_iff.1 hY).1
  have hZl : w.heap.size + 1 + 1 < wv.heap.size := (Array.getElem?_eq_some_iff.1 hZ).1
  conv => arg 4; whnf
  conv => arg 4; arg 1; whnf
  refine pt_eff (by rfl) (fun K hK => ?_)
  go_wp2_with fail
  refine (hAC _).mono ?_
  rintro en wn ⟨rfl, hbn⟩
  refine hK _ _ hbn ?_
  clear hK K
  have hbw := hbw.trans (hbn.mono hbw.size)
  have hX := (hbn.block _ hXl).trans hX
  have hY := (hbn.block _ hYl).trans hY
  have hZ := (hbn.block _ hZl).trans hZ
  clear hXl hYl hZl hbn
  generalize wn = wv at *
  have hXl : w.heap.size < wv.heap.size := (Array.getElem?_eq_some_iff.1 hX).1
  have hYl : w.heap.size + 1 < wv.heap.size := (Array.getElem?_eq_some_iff.1 hY).1
  have hZl : w.heap.size + 1 + 1 < wv.heap.size := (Array.getElem?_eq_some_iff.1 hZ).1
  conv => arg 4; whnf
  conv => arg 4; arg 1; whnf
  refine pt_free (by rfl) (fun K hK => ?_)
  go_big_quiet_op
  first | (refine hK _ ?_; clear hK K) | (refine ⟨_, fun _ _ => rfl, hK _ ?_⟩; clear hK K)
  conv => arg 4; whnf
  conv => arg 4; arg 1; whnf
  refine pt_free (by rfl) (fun K hK => ?_)
  go_big_quiet_op
  first | (refine hK _ ?_; clear hK K) | (refine ⟨_, fun _ _ => rfl, hK _ ?_⟩; clear hK K)
  conv => arg 4; whnf
  conv => arg 4; arg 1; whnf
  refine pt_free (by rfl) (fun K hK => ?_)
  go_big_quiet_op
  first | (refine hK _ ?_; clear hK K) | (refine ⟨_, fun _ _ => rfl, hK _ ?_⟩; clear hK K)
  refine pt_nil ?_
  obtain ⟨a0, a1, a2⟩ := cells3 hX
  obtain ⟨b0, b1, b2⟩ := cells3 hY
  go_wp2_with fail
  refine (hBA _).mono ?_
  rintro en wn ⟨rfl, hbn⟩
  clear a0 a1 a2 b0 b1 b2
  have hbw := hbw.trans (hbn.mono hbw.size)
  have hX := (hbn.block _ hXl).trans hX
  have hY := (hbn.block _ hYl).trans hY
  have hZ := (hbn.block _ hZl).trans hZ
  clear hXl hYl hZl hbn
  generalize wn = wv at *
  have hXl : w.heap.size < wv.heap.size := (Array.getElem?_eq_some_iff.1 hX).1
  have hYl : w.heap.size + 1 < wv.heap.size := (Array.getElem?_eq_some_iff.1 hY).1
  have hZl : w.heap.size + 1 + 1 < wv.heap.size := (Array.getElem?_eq_some_iff.1 hZ).1
  obtain ⟨a0, a1, a2⟩ := cells3 hX
  obtain ⟨b0, b1, b2⟩ := cells3 hY
  go_wp2_with fail
  refine (hR _).mono ?_
  rintro en wn ⟨rfl, hbn⟩
  clear a0 a1 a2 b0 b1 b2
  have hbw := hbw.trans (hbn.mono hbw.size)
  have hX := (hbn.block _ hXl).trans hX
  have hY := (hbn.block _ hYl).trans hY
  have hZ := (hbn.block _ hZl).trans hZ
  clear hXl hYl hZl hbn
  generalize wn = wv at *
  have hXl : w.heap.size < wv.heap.size := (Array.getElem?_eq_some_iff.1 hX).1
  have hYl : w.heap.size + 1 < wv.heap.size := (Array.getElem?_eq_some_iff.1 hY).1
  have hZl : w.heap.size + 1 + 1 < wv.heap.size := (Array.getElem?_eq_some_iff.1 hZ).1
  obtain ⟨a0, a1, a2⟩ := cells3 hX
  obtain ⟨b0, b1, b2⟩ := cells3 hY
  go_wp2_with fail
  refine (VM.awake_any _).mono ?_
  rintro en wn ⟨rfl, hbn⟩
  have hbw := hbw.trans (hbn.mono hbw.size)
  go_wp2_with fail
  go_ret
  exact ⟨by rfl, hbw⟩
set_option maxRecDepth 100000 in
set_option maxHeartbeats 4000000 in
theorem dc1S (w : World) (s : ByteArray) (n k : Int) (s2 : ByteArray) (n2 k2 : Int) (s3 : ByteArray) (n3 k3 : Int) (y z : Int)
    (hAB : ∀ W, Calls Tryz.prog 5 #[.agg #[.string s, .int .i64 n, .int .i64 k], .agg #[.string s2, .int .i64 n2, .int .i64 k2]] W fun e w' => e = .returned (.int .i64 (1)) ∧ Below W.heap.size W w')
    (hBC : ∀ W, Calls Tryz.prog 5 #[.agg #[.string s2, .int .i64 n2, .int .i64 k2], .agg #[.string s3, .int .i64 n3, .int .i64 k3]] W fun e w' => e = .returned (.int .i64 (y)) ∧ Below W.heap.size W w')
    (hAC : ∀ W, Calls Tryz.prog 5 #[.agg #[.string s, .int .i64 n, .int .i64 k], .agg #[.string s3, .int .i64 n3, .int .i64 k3]] W fun e w' => e = .returned (.int .i64 (z)) ∧ Below W.heap.size W w')
    (hBA : ∀ W, Calls Tryz.prog 5 #[.agg #[.string s2, .int .i64 n2, .int .i64 k2], .agg #[.string s, .int .i64 n, .int .i64 k]] W fun e w' => e = .returned (.int .i64 (-1)) ∧ Below W.heap.size W w')
    (hR : ∀ W, Calls Tryz.prog 6 #[.agg #[.string s, .int .i64 n, .int .i64 k], .agg #[.string s2, .int .i64 n2, .int .i64 k2]] W fun e w' => e = .returned (.int .i64 (1)) ∧ Below W.heap.size W w') (hne : ¬ s.toList = s2.toList) :
    Calls Tryz.prog 3 #[.agg #[.string s, .int .i64 n, .int .i64 k], .agg #[.string s2, .int .i64 n2, .int .i64 k2], .agg #[.string s3, .int .i64 n3, .int .i64 k3]] w fun e w' => e = .returned (.bool true) ∧ Below w.heap.size w w' := by
  go_enter Tryz.func3, Tryz.ntmps3
  go_wp2_with fail
  obtain ⟨W, hW⟩ : ∃ W, W = (((w.alloc (.cells #[.string s, .int .i64 n, .int .i64 k] 23)).alloc (.cells #[.string s2, .int .i64 n2, .int .i64 k2] 23)).alloc (.cells #[.string s3, .int .i64 n3, .int .i64 k3] 23)) := ⟨_, rfl⟩
  have hs0 := heap_alloc_new w (.cells #[.string s, .int .i64 n, .int .i64 k] 23)
  have hs1 := heap_alloc_new (w.alloc (.cells #[.string s, .int .i64 n, .int .i64 k] 23)) (.cells #[.string s2, .int .i64 n2, .int .i64 k2] 23)
  rw [World.size_alloc] at hs1
  have hs2 := heap_alloc_new ((w.alloc (.cells #[.string s, .int .i64 n, .int .i64 k] 23)).alloc (.cells #[.string s2, .int .i64 n2, .int .i64 k2] 23)) (.cells #[.string s3, .int .i64 n3, .int .i64 k3] 23)
  rw [World.size_alloc, World.size_alloc] at hs2
  have hX : W.heap[w.heap.size]? = some (.cells #[.string s, .int .i64 n, .int .i64 k] 23 (0, 0)) := by rw [hW]; exact (Below.heap_alloc _ _ _ (by simp; try omega)).trans ((Below.heap_alloc _ _ _ (by simp; try omega)).trans (hs0))
  have hY : W.heap[w.heap.size + 1]? = some (.cells #[.string s2, .int .i64 n2, .int .i64 k2] 23 (0, 0)) := by rw [hW]; exact (Below.heap_alloc _ _ _ (by simp; try omega)).trans (hs1)
  have hZ : W.heap[w.heap.size + 1 + 1]? = some (.cells #[.string s3, .int .i64 n3, .int .i64 k3] 23 (0, 0)) := by rw [hW]; exact hs2
  have hsW : W.heap.size = w.heap.size + 3 := by rw [hW]; simp
  have hbW : Below w.heap.size w W := by rw [hW]; exact (((Below.refl _ _).alloc (Nat.le_refl _) _).alloc (by simp; try omega) _).alloc (by simp; try omega) _
  rw [← hW]
  clear hW hs0 hs1 hs2
  refine wp_region_tree [] (.free 0 (.free 1 (.free 3 (.free 4 (.free 6 (.free 7 (.eff 2 (.eff 5 (.eff 8 (.free 9 (.free 10 (.free 11 (.nil))))))))))))) (by kernel_rfl) (by kernel_rfl) (fun _ _ d _ _ h => by cases d <;> exact h) ?_
  have hbw := hbW.drew
  have hX : W.drew.heap[w.heap.size]? = _ := hX
  have hY : W.drew.heap[w.heap.size + 1]? = _ := hY
  have hZ : W.drew.heap[w.heap.size + 1 + 1]? = _ := hZ
  clear hbW hsW
  generalize W.drew = wv at *
  have hXl : w.heap.size < wv.heap.size := (Array.getElem?_eq_some_iff.1 hX).1
  have hYl : w.heap.size + 1 < wv.heap.size := (Array.getElem?_eq_some_iff.1 hY).1
  have hZl : w.heap.size + 1 + 1 < wv.heap.size := (Array.getElem?_eq_some_iff.1 hZ).1
  conv => arg 4; whnf
  conv => arg 4; arg 1; whnf
  refine pt_loadB (k := w.heap.size) (fun W h => load_spot _ W _ _ _ (h.trans hX)) hXl (by rfl) rfl rfl ?_
  simp only [Act.put, List.setIfInBounds_toArray, List.set_cons_zero, List.set_cons_succ]
  conv => arg 4; whnf
  conv => arg 4; arg 1; whnf
  refine pt_loadB (k := w.heap.size + 1) (fun W h => load_spot _ W _ _ _ (h.trans hY)) hYl (by rfl) rfl rfl ?_
  simp only [Act.put, List.setIfInBounds_toArray, List.set_cons_zero, List.set_cons_succ]
  conv => arg 4; whnf
  conv => arg 4; arg 1; whnf
  refine pt_loadB (k := w.heap.size + 1) (fun W h => load_spot _ W _ _ _ (h.trans hY)) hYl (by rfl) rfl rfl ?_
  simp only [Act.put, List.setIfInBounds_toArray, List.set_cons_zero, List.set_cons_succ]
  conv => arg 4; whnf
  conv => arg 4; arg 1; whnf
  refine pt_loadB (k := w.heap.size + 1 + 1) (fun W h => load_spot _ W _ _ _ (h.trans hZ)) hZl (by rfl) rfl rfl ?_
  simp only [Act.put, List.setIfInBounds_toArray, List.set_cons_zero, List.set_cons_succ]
  conv => arg 4; whnf
  conv => arg 4; arg 1; whnf
  refine pt_loadB (k := w.heap.size) (fun W h => load_spot _ W _ _ _ (h.trans hX)) hXl (by rfl) rfl rfl ?_
  simp only [Act.put, List.setIfInBounds_toArray, List.set_cons_zero, List.set_cons_succ]
  conv => arg 4; whnf
  conv => arg 4; arg 1; whnf
  refine pt_loadB (k := w.heap.size + 1 + 1) (fun W h => load_spot _ W _ _ _ (h.trans hZ)) hZl (by rfl) rfl rfl ?_
  simp only [Act.put, List.setIfInBounds_toArray, List.set_cons_zero, List.set_cons_succ]
  conv => arg 4; whnf
  conv => arg 4; arg 1; whnf
  refine pt_eff (by rfl) (fun K hK => ?_)
  go_wp2_with fail
  refine (hAB _).mono ?_
  rintro en wn ⟨rfl, hbn⟩
  refine hK _ _ hbn ?_
  clear hK K
  have hbw := hbw.trans (hbn.mono hbw.size)
  have hX := (hbn.block _ hXl).trans hX
  have hY := (hbn.block _ hYl).trans hY
  have hZ := (hbn.block _ hZl).trans hZ
  clear hXl hYl hZl hbn
  generalize wn = wv at *
  have hXl : w.heap.size < wv.heap.size := (Array.getElem?_eq_some_iff.1 hX).1
  have hYl : w.heap.size + 1 < wv.heap.size := (Array.getElem?_eq_some_iff.1 hY).1
  have hZl : w.heap.size + 1 + 1 < wv.heap.size := (Array.getElem?_eq_some_iff.1 hZ).1
  conv => arg 4; whnf
  conv => arg 4; arg 1; whnf
  refine pt_eff (by rfl) (fun K hK => ?_)
  go_wp2_with fail
  refine (hBC _).mono ?_
  rintro en wn ⟨rfl, hbn⟩
  refine hK _ _ hbn ?_
  clear hK K
  have hbw := hbw.trans (hbn.mono hbw.size)
  have hX := (hbn.block _ hXl).trans hX
  have hY := (hbn.block _ hYl).trans hY
  have hZ := (hbn.block _ hZl).trans hZ
  clear hXl hYl hZl hbn
  generalize wn = wv at *
  have hXl : w.heap.size < wv.heap.size := (Array.getElem?_eq_some_iff.1 hX).1
  have hYl : w.heap.size + 1 < wv.heap.size := (Array.getElem?_eq_some_iff.1 hY).1
  have hZl : w.heap.size + 1 + 1 < wv.heap.size := (Array.getElem?_eq_some_iff.1 hZ).1
  conv => arg 4; whnf
  conv => arg 4; arg 1; whnf
  refine pt_eff (by rfl) (fun K hK => ?_)
  go_wp2_with fail
  refine (hAC _).mono ?_
  rintro en wn ⟨rfl, hbn⟩
  refine hK _ _ hbn ?_
  clear hK K
  have hbw := hbw.trans (hbn.mono hbw.size)
  have hX := (hbn.block _ hXl).trans hX
  have hY := (hbn.block _ hYl).trans hY
  have hZ := (hbn.block _ hZl).trans hZ
  clear hXl hYl hZl hbn
  generalize wn = wv at *
  have hXl : w.heap.size < wv.heap.size := (Array.getElem?_eq_some_iff.1 hX).1
  have hYl : w.heap.size + 1 < wv.heap.size := (Array.getElem?_eq_some_iff.1 hY).1
  have hZl : w.heap.size + 1 + 1 < wv.heap.size := (Array.getElem?_eq_some_iff.1 hZ).1
  conv => arg 4; whnf
  conv => arg 4; arg 1; whnf
  refine pt_free (by rfl) (fun K hK => ?_)
  go_big_quiet_op
  first | (refine hK _ ?_; clear hK K) | (refine ⟨_, fun _ _ => rfl, hK _ ?_⟩; clear hK K)
  conv => arg 4; whnf
  conv => arg 4; arg 1; whnf
  refine pt_free (by rfl) (fun K hK => ?_)
  go_big_quiet_op
  first | (refine hK _ ?_; clear hK K) | (refine ⟨_, fun _ _ => rfl, hK _ ?_⟩; clear hK K)
  conv => arg 4; whnf
  conv => arg 4; arg 1; whnf
  refine pt_free (by rfl) (fun K hK => ?_)
  go_big_quiet_op
  first | (refine hK _ ?_; clear hK K) | (refine ⟨_, fun _ _ => rfl, hK _ ?_⟩; clear hK K)
  refine pt_nil ?_
  obtain ⟨a0, a1, a2⟩ := cells3 hX
  obtain ⟨b0, b1, b2⟩ := cells3 hY
  go_wp2_with fail
  refine (hBA _).mono ?_
  rintro en wn ⟨rfl, hbn⟩
  clear a0 a1 a2 b0 b1 b2
  have hbw := hbw.trans (hbn.mono hbw.size)
  have hX := (hbn.block _ hXl).trans hX
  have hY := (hbn.block _ hYl).trans hY
  have hZ := (hbn.block _ hZl).trans hZ
  clear hXl hYl hZl hbn
  generalize wn = wv at *
  have hXl : w.heap.size < wv.heap.size := (Array.getElem?_eq_some_iff.1 hX).1
  have hYl : w.heap.size + 1 < wv.heap.size := (Array.getElem?_eq_some_iff.1 hY).1
  have hZl : w.heap.size + 1 + 1 < wv.heap.size := (Array.getElem?_eq_some_iff.1 hZ).1
  obtain ⟨a0, a1, a2⟩ := cells3 hX
  obtain ⟨b0, b1, b2⟩ := cells3 hY
  go_wp2_with fail
  refine (hR _).mono ?_
  rintro en wn ⟨rfl, hbn⟩
  clear a0 a1 a2 b0 b1 b2
  have hbw := hbw.trans (hbn.mono hbw.size)
  have hX := (hbn.block _ hXl).trans hX
  have hY := (hbn.block _ hYl).trans hY
  have hZ := (hbn.block _ hZl).trans hZ
  clear hXl hYl hZl hbn
  generalize wn = wv at *
  have hXl : w.heap.size < wv.heap.size := (Array.getElem?_eq_some_iff.1 hX).1
  have hYl : w.heap.size + 1 < wv.heap.size := (Array.getElem?_eq_some_iff.1 hY).1
  have hZl : w.heap.size + 1 + 1 < wv.heap.size := (Array.getElem?_eq_some_iff.1 hZ).1
  obtain ⟨a0, a1, a2⟩ := cells3 hX
  obtain ⟨b0, b1, b2⟩ := cells3 hY
  go_wp2_with fail
  refine (VM.awake_any _).mono ?_
  rintro en wn ⟨rfl, hbn⟩
  have hbw := hbw.trans (hbn.mono hbw.size)
  go_wp2_with fail
  go_ret
  exact ⟨by rfl, hbw⟩
set_option maxRecDepth 100000 in
set_option maxHeartbeats 4000000 in
theorem dc4S (w : World) (s : ByteArray) (n k : Int) (s2 : ByteArray) (n2 k2 : Int) (s3 : ByteArray) (n3 k3 : Int) (y z : Int)
    (hAB : ∀ W, Calls Tryz.prog 5 #[.agg #[.string s, .int .i64 n, .int .i64 k], .agg #[.string s2, .int .i64 n2, .int .i64 k2]] W fun e w' => e = .returned (.int .i64 (-1)) ∧ Below W.heap.size W w')
    (hBC : ∀ W, Calls Tryz.prog 5 #[.agg #[.string s2, .int .i64 n2, .int .i64 k2], .agg #[.string s3, .int .i64 n3, .int .i64 k3]] W fun e w' => e = .returned (.int .i64 (y)) ∧ Below W.heap.size W w')
    (hAC : ∀ W, Calls Tryz.prog 5 #[.agg #[.string s, .int .i64 n, .int .i64 k], .agg #[.string s3, .int .i64 n3, .int .i64 k3]] W fun e w' => e = .returned (.int .i64 (z)) ∧ Below W.heap.size W w')
    (hBA : ∀ W, Calls Tryz.prog 5 #[.agg #[.string s2, .int .i64 n2, .int .i64 k2], .agg #[.string s, .int .i64 n, .int .i64 k]] W fun e w' => e = .returned (.int .i64 (1)) ∧ Below W.heap.size W w')
    (hR : ∀ W, Calls Tryz.prog 6 #[.agg #[.string s, .int .i64 n, .int .i64 k], .agg #[.string s2, .int .i64 n2, .int .i64 k2]] W fun e w' => e = .returned (.int .i64 (-1)) ∧ Below W.heap.size W w') (hne : ¬ s.toList = s2.toList) (hy : 0 < y) :
    Calls Tryz.prog 3 #[.agg #[.string s, .int .i64 n, .int .i64 k], .agg #[.string s2, .int .i64 n2, .int .i64 k2], .agg #[.string s3, .int .i64 n3, .int .i64 k3]] w fun e w' => e = .returned (.bool true) ∧ Below w.heap.size w w' := by
  go_enter Tryz.func3, Tryz.ntmps3
  go_wp2_with fail
  obtain ⟨W, hW⟩ : ∃ W, W = (((w.alloc (.cells #[.string s, .int .i64 n, .int .i64 k] 23)).alloc (.cells #[.string s2, .int .i64 n2, .int .i64 k2] 23)).alloc (.cells #[.string s3, .int .i64 n3, .int .i64 k3] 23)) := ⟨_, rfl⟩
  have hs0 := heap_alloc_new w (.cells #[.string s, .int .i64 n, .int .i64 k] 23)
  have hs1 := heap_alloc_new (w.alloc (.cells #[.string s, .int .i64 n, .int .i64 k] 23)) (.cells #[.string s2, .int .i64 n2, .int .i64 k2] 23)
  rw [World.size_alloc] at hs1
  have hs2 := heap_alloc_new ((w.alloc (.cells #[.string s, .int .i64 n, .int .i64 k] 23)).alloc (.cells #[.string s2, .int .i64 n2, .int .i64 k2] 23)) (.cells #[.string s3, .int .i64 n3, .int .i64 k3] 23)
  rw [World.size_alloc, World.size_alloc] at hs2
  have hX : W.heap[w.heap.size]? = some (.cells #[.string s, .int .i64 n, .int .i64 k] 23 (0, 0)) := by rw [hW]; exact (Below.heap_alloc _ _ _ (by simp; try omega)).trans ((Below.heap_alloc _ _ _ (by simp; try omega)).trans (hs0))
  have hY : W.heap[w.heap.size + 1]? = some (.cells #[.string s2, .int .i64 n2, .int .i64 k2] 23 (0, 0)) := by rw [hW]; exact (Below.heap_alloc _ _ _ (by simp; try omega)).trans (hs1)
  have hZ : W.heap[w.heap.size + 1 + 1]? = some (.cells #[.string s3, .int .i64 n3, .int .i64 k3] 23 (0, 0)) := by rw [hW]; exact hs2
  have hsW : W.heap.size = w.heap.size + 3 := by rw [hW]; simp
  have hbW : Below w.heap.size w W := by rw [hW]; exact (((Below.refl _ _).alloc (Nat.le_refl _) _).alloc (by simp; try omega) _).alloc (by simp; try omega) _
  rw [← hW]
  clear hW hs0 hs1 hs2
  refine wp_region_tree [] (.free 0 (.free 1 (.free 3 (.free 4 (.free 6 (.free 7 (.eff 2 (.eff 5 (.eff 8 (.free 9 (.free 10 (.free 11 (.nil))))))))))))) (by kernel_rfl) (by kernel_rfl) (fun _ _ d _ _ h => by cases d <;> exact h) ?_
  have hbw := hbW.drew
  have hX : W.drew.heap[w.heap.size]? = _ := hX
  have hY : W.drew.heap[w.heap.size + 1]? = _ := hY
  have hZ : W.drew.heap[w.heap.size + 1 + 1]? = _ := hZ
  clear hbW hsW
  generalize W.drew = wv at *
  have hXl : w.heap.size < wv.heap.size := (Array.getElem?_eq_some_iff.1 hX).1
  have hYl : w.heap.size + 1 < wv.heap.size := (Array.getElem?_eq_some_iff.1 hY).1
  have hZl : w.heap.size + 1 + 1 < wv.heap.size := (Array.getElem?_eq_some_iff.1 hZ).1
  conv => arg 4; whnf
  conv => arg 4; arg 1; whnf
  refine pt_loadB (k := w.heap.size) (fun W h => load_spot _ W _ _ _ (h.trans hX)) hXl (by rfl) rfl rfl ?_
  simp only [Act.put, List.setIfInBounds_toArray, List.set_cons_zero, List.set_cons_succ]
  conv => arg 4; whnf
  conv => arg 4; arg 1; whnf
  refine pt_loadB (k := w.heap.size + 1) (fun W h => load_spot _ W _ _ _ (h.trans hY)) hYl (by rfl) rfl rfl ?_
  simp only [Act.put, List.setIfInBounds_toArray, List.set_cons_zero, List.set_cons_succ]
  conv => arg 4; whnf
  conv => arg 4; arg 1; whnf
  refine pt_loadB (k := w.heap.size + 1) (fun W h => load_spot _ W _ _ _ (h.trans hY)) hYl (by rfl) rfl rfl ?_
  simp only [Act.put, List.setIfInBounds_toArray, List.set_cons_zero, List.set_cons_succ]
  conv => arg 4; whnf
  conv => arg 4; arg 1; whnf
  refine pt_loadB (k := w.heap.size + 1 + 1) (fun W h => load_spot _ W _ _ _ (h.trans hZ)) hZl (by rfl) rfl rfl ?_
  simp only [Act.put, List.setIfInBounds_toArray, List.set_cons_zero, List.set_cons_succ]
  conv => arg 4; whnf
  conv => arg 4; arg 1; whnf
  refine pt_loadB (k := w.heap.size) (fun W h => load_spot _ W _ _ _ (h.trans hX)) hXl (by rfl) rfl rfl ?_
  simp only [Act.put, List.setIfInBounds_toArray, List.set_cons_zero, List.set_cons_succ]
  conv => arg 4; whnf
  conv => arg 4; arg 1; whnf
  refine pt_loadB (k := w.heap.size + 1 + 1) (fun W h => load_spot _ W _ _ _ (h.trans hZ)) hZl (by rfl) rfl rfl ?_
  simp only [Act.put, List.setIfInBounds_toArray, List.set_cons_zero, List.set_cons_succ]
  conv => arg 4; whnf
  conv => arg 4; arg 1; whnf
  refine pt_eff (by rfl) (fun K hK => ?_)
  go_wp2_with fail
  refine (hAB _).mono ?_
  rintro en wn ⟨rfl, hbn⟩
  refine hK _ _ hbn ?_
  clear hK K
  have hbw := hbw.trans (hbn.mono hbw.size)
  have hX := (hbn.block _ hXl).trans hX
  have hY := (hbn.block _ hYl).trans hY
  have hZ := (hbn.block _ hZl).trans hZ
  clear hXl hYl hZl hbn
  generalize wn = wv at *
  have hXl : w.heap.size < wv.heap.size := (Array.getElem?_eq_some_iff.1 hX).1
  have hYl : w.heap.size + 1 < wv.heap.size := (Array.getElem?_eq_some_iff.1 hY).1
  have hZl : w.heap.size + 1 + 1 < wv.heap.size := (Array.getElem?_eq_some_iff.1 hZ).1
  conv => arg 4; whnf
  conv => arg 4; arg 1; whnf
  refine pt_eff (by rfl) (fun K hK => ?_)
  go_wp2_with fail
  refine (hBC _).mono ?_
  rintro en wn ⟨rfl, hbn⟩
  refine hK _ _ hbn ?_
  clear hK K
  have hbw := hbw.trans (hbn.mono hbw.size)
  have hX := (hbn.block _ hXl).trans hX
  have hY := (hbn.block _ hYl).trans hY
  have hZ := (hbn.block _ hZl).trans hZ
  clear hXl hYl hZl hbn
  generalize wn = wv at *
  have hXl : w.heap.size < wv.heap.size := (Array.getElem?_eq_some_iff.1 hX).1
  have hYl : w.heap.size + 1 < wv.heap.size := (Array.getElem?_eq_some_iff.1 hY).1
  have hZl : w.heap.size + 1 + 1 < wv.heap.size := (Array.getElem?_eq_some_iff.1 hZ).1
  conv => arg 4; whnf
  conv => arg 4; arg 1; whnf
  refine pt_eff (by rfl) (fun K hK => ?_)
  go_wp2_with fail
  refine (hAC _).mono ?_
  rintro en wn ⟨rfl, hbn⟩
  refine hK _ _ hbn ?_
  clear hK K
  have hbw := hbw.trans (hbn.mono hbw.size)
  have hX := (hbn.block _ hXl).trans hX
  have hY := (hbn.block _ hYl).trans hY
  have hZ := (hbn.block _ hZl).trans hZ
  clear hXl hYl hZl hbn
  generalize wn = wv at *
  have hXl : w.heap.size < wv.heap.size := (Array.getElem?_eq_some_iff.1 hX).1
  have hYl : w.heap.size + 1 < wv.heap.size := (Array.getElem?_eq_some_iff.1 hY).1
  have hZl : w.heap.size + 1 + 1 < wv.heap.size := (Array.getElem?_eq_some_iff.1 hZ).1
  conv => arg 4; whnf
  conv => arg 4; arg 1; whnf
  refine pt_free (by rfl) (fun K hK => ?_)
  go_big_quiet_op
  first | (refine hK _ ?_; clear hK K) | (refine ⟨_, fun _ _ => rfl, hK _ ?_⟩; clear hK K)
  conv => arg 4; whnf
  conv => arg 4; arg 1; whnf
  refine pt_free (by rfl) (fun K hK => ?_)
  go_big_quiet_op
  first | (refine hK _ ?_; clear hK K) | (refine ⟨_, fun _ _ => rfl, hK _ ?_⟩; clear hK K)
  conv => arg 4; whnf
  conv => arg 4; arg 1; whnf
  refine pt_free (by rfl) (fun K hK => ?_)
  go_big_quiet_op
  first | (refine hK _ ?_; clear hK K) | (refine ⟨_, fun _ _ => rfl, hK _ ?_⟩; clear hK K)
  refine pt_nil ?_
  obtain ⟨a0, a1, a2⟩ := cells3 hX
  obtain ⟨b0, b1, b2⟩ := cells3 hY
  go_wp2_with fail
  refine (hBA _).mono ?_
  rintro en wn ⟨rfl, hbn⟩
  clear a0 a1 a2 b0 b1 b2
  have hbw := hbw.trans (hbn.mono hbw.size)
  have hX := (hbn.block _ hXl).trans hX
  have hY := (hbn.block _ hYl).trans hY
  have hZ := (hbn.block _ hZl).trans hZ
  clear hXl hYl hZl hbn
  generalize wn = wv at *
  have hXl : w.heap.size < wv.heap.size := (Array.getElem?_eq_some_iff.1 hX).1
  have hYl : w.heap.size + 1 < wv.heap.size := (Array.getElem?_eq_some_iff.1 hY).1
  have hZl : w.heap.size + 1 + 1 < wv.heap.size := (Array.getElem?_eq_some_iff.1 hZ).1
  obtain ⟨a0, a1, a2⟩ := cells3 hX
  obtain ⟨b0, b1, b2⟩ := cells3 hY
  go_wp2_with fail
  refine (hR _).mono ?_
  rintro en wn ⟨rfl, hbn⟩
  clear a0 a1 a2 b0 b1 b2
  have hbw := hbw.trans (hbn.mono hbw.size)
  have hX := (hbn.block _ hXl).trans hX
  have hY := (hbn.block _ hYl).trans hY
  have hZ := (hbn.block _ hZl).trans hZ
  clear hXl hYl hZl hbn
  generalize wn = wv at *
  have hXl : w.heap.size < wv.heap.size := (Array.getElem?_eq_some_iff.1 hX).1
  have hYl : w.heap.size + 1 < wv.heap.size := (Array.getElem?_eq_some_iff.1 hY).1
  have hZl : w.heap.size + 1 + 1 < wv.heap.size := (Array.getElem?_eq_some_iff.1 hZ).1
  obtain ⟨a0, a1, a2⟩ := cells3 hX
  obtain ⟨b0, b1, b2⟩ := cells3 hY
  go_wp2_with fail
  refine (VM.awake_any _).mono ?_
  rintro en wn ⟨rfl, hbn⟩
  have hbw := hbw.trans (hbn.mono hbw.size)
  go_wp2_with fail
  go_ret
  exact ⟨by rfl, hbw⟩
set_option maxRecDepth 100000 in
set_option maxHeartbeats 4000000 in
theorem dc5S (w : World) (s : ByteArray) (n k : Int) (s2 : ByteArray) (n2 k2 : Int) (s3 : ByteArray) (n3 k3 : Int) (y z : Int)
    (hAB : ∀ W, Calls Tryz.prog 5 #[.agg #[.string s, .int .i64 n, .int .i64 k], .agg #[.string s2, .int .i64 n2, .int .i64 k2]] W fun e w' => e = .returned (.int .i64 (-1)) ∧ Below W.heap.size W w')
    (hBC : ∀ W, Calls Tryz.prog 5 #[.agg #[.string s2, .int .i64 n2, .int .i64 k2], .agg #[.string s3, .int .i64 n3, .int .i64 k3]] W fun e w' => e = .returned (.int .i64 (y)) ∧ Below W.heap.size W w')
    (hAC : ∀ W, Calls Tryz.prog 5 #[.agg #[.string s, .int .i64 n, .int .i64 k], .agg #[.string s3, .int .i64 n3, .int .i64 k3]] W fun e w' => e = .returned (.int .i64 (z)) ∧ Below W.heap.size W w')
    (hBA : ∀ W, Calls Tryz.prog 5 #[.agg #[.string s2, .int .i64 n2, .int .i64 k2], .agg #[.string s, .int .i64 n, .int .i64 k]] W fun e w' => e = .returned (.int .i64 (1)) ∧ Below W.heap.size W w')
    (hR : ∀ W, Calls Tryz.prog 6 #[.agg #[.string s, .int .i64 n, .int .i64 k], .agg #[.string s2, .int .i64 n2, .int .i64 k2]] W fun e w' => e = .returned (.int .i64 (-1)) ∧ Below W.heap.size W w') (hne : ¬ s.toList = s2.toList) (hy : ¬ 0 < y) (hz : z ≤ 0) :
    Calls Tryz.prog 3 #[.agg #[.string s, .int .i64 n, .int .i64 k], .agg #[.string s2, .int .i64 n2, .int .i64 k2], .agg #[.string s3, .int .i64 n3, .int .i64 k3]] w fun e w' => e = .returned (.bool true) ∧ Below w.heap.size w w' := by
  go_enter Tryz.func3, Tryz.ntmps3
  go_wp2_with fail
  obtain ⟨W, hW⟩ : ∃ W, W = (((w.alloc (.cells #[.string s, .int .i64 n, .int .i64 k] 23)).alloc (.cells #[.string s2, .int .i64 n2, .int .i64 k2] 23)).alloc (.cells #[.string s3, .int .i64 n3, .int .i64 k3] 23)) := ⟨_, rfl⟩
  have hs0 := heap_alloc_new w (.cells #[.string s, .int .i64 n, .int .i64 k] 23)
  have hs1 := heap_alloc_new (w.alloc (.cells #[.string s, .int .i64 n, .int .i64 k] 23)) (.cells #[.string s2, .int .i64 n2, .int .i64 k2] 23)
  rw [World.size_alloc] at hs1
  have hs2 := heap_alloc_new ((w.alloc (.cells #[.string s, .int .i64 n, .int .i64 k] 23)).alloc (.cells #[.string s2, .int .i64 n2, .int .i64 k2] 23)) (.cells #[.string s3, .int .i64 n3, .int .i64 k3] 23)
  rw [World.size_alloc, World.size_alloc] at hs2
  have hX : W.heap[w.heap.size]? = some (.cells #[.string s, .int .i64 n, .int .i64 k] 23 (0, 0)) := by rw [hW]; exact (Below.heap_alloc _ _ _ (by simp; try omega)).trans ((Below.heap_alloc _ _ _ (by simp; try omega)).trans (hs0))
  have hY : W.heap[w.heap.size + 1]? = some (.cells #[.string s2, .int .i64 n2, .int .i64 k2] 23 (0, 0)) := by rw [hW]; exact (Below.heap_alloc _ _ _ (by simp; try omega)).trans (hs1)
  have hZ : W.heap[w.heap.size + 1 + 1]? = some (.cells #[.string s3, .int .i64 n3, .int .i64 k3] 23 (0, 0)) := by rw [hW]; exact hs2
  have hsW : W.heap.size = w.heap.size + 3 := by rw [hW]; simp
  have hbW : Below w.heap.size w W := by rw [hW]; exact (((Below.refl _ _).alloc (Nat.le_refl _) _).alloc (by simp; try omega) _).alloc (by simp; try omega) _
  rw [← hW]
  clear hW hs0 hs1 hs2
  refine wp_region_tree [] (.free 0 (.free 1 (.free 3 (.free 4 (.free 6 (.free 7 (.eff 2 (.eff 5 (.eff 8 (.free 9 (.free 10 (.free 11 (.nil))))))))))))) (by kernel_rfl) (by kernel_rfl) (fun _ _ d _ _ h => by cases d <;> exact h) ?_
  have hbw := hbW.drew
  have hX : W.drew.heap[w.heap.size]? = _ := hX
  have hY : W.drew.heap[w.heap.size + 1]? = _ := hY
  have hZ : W.drew.heap[w.heap.size + 1 + 1]? = _ := hZ
  clear hbW hsW
  generalize W.drew = wv at *
  have hXl : w.heap.size < wv.heap.size := (Array.getElem?_eq_some_iff.1 hX).1
  have hYl : w.heap.size + 1 < wv.heap.size := (Array.getElem?_eq_some_iff.1 hY).1
  have hZl : w.heap.size + 1 + 1 < wv.heap.size := (Array.getElem?_eq_some_iff.1 hZ).1
  conv => arg 4; whnf
  conv => arg 4; arg 1; whnf
  refine pt_loadB (k := w.heap.size) (fun W h => load_spot _ W _ _ _ (h.trans hX)) hXl (by rfl) rfl rfl ?_
  simp only [Act.put, List.setIfInBounds_toArray, List.set_cons_zero, List.set_cons_succ]
  conv => arg 4; whnf
  conv => arg 4; arg 1; whnf
  refine pt_loadB (k := w.heap.size + 1) (fun W h => load_spot _ W _ _ _ (h.trans hY)) hYl (by rfl) rfl rfl ?_
  simp only [Act.put, List.setIfInBounds_toArray, List.set_cons_zero, List.set_cons_succ]
  conv => arg 4; whnf
  conv => arg 4; arg 1; whnf
  refine pt_loadB (k := w.heap.size + 1) (fun W h => load_spot _ W _ _ _ (h.trans hY)) hYl (by rfl) rfl rfl ?_
  simp only [Act.put, List.setIfInBounds_toArray, List.set_cons_zero, List.set_cons_succ]
  conv => arg 4; whnf
  conv => arg 4; arg 1; whnf
  refine pt_loadB (k := w.heap.size + 1 + 1) (fun W h => load_spot _ W _ _ _ (h.trans hZ)) hZl (by rfl) rfl rfl ?_
  simp only [Act.put, List.setIfInBounds_toArray, List.set_cons_zero, List.set_cons_succ]
  conv => arg 4; whnf
  conv => arg 4; arg 1; whnf
  refine pt_loadB (k := w.heap.size) (fun W h => load_spot _ W _ _ _ (h.trans hX)) hXl (by rfl) rfl rfl ?_
  simp only [Act.put, List.setIfInBounds_toArray, List.set_cons_zero, List.set_cons_succ]
  conv => arg 4; whnf
  conv => arg 4; arg 1; whnf
  refine pt_loadB (k := w.heap.size + 1 + 1) (fun W h => load_spot _ W _ _ _ (h.trans hZ)) hZl (by rfl) rfl rfl ?_
  simp only [Act.put, List.setIfInBounds_toArray, List.set_cons_zero, List.set_cons_succ]
  conv => arg 4; whnf
  conv => arg 4; arg 1; whnf
  refine pt_eff (by rfl) (fun K hK => ?_)
  go_wp2_with fail
  refine (hAB _).mono ?_
  rintro en wn ⟨rfl, hbn⟩
  refine hK _ _ hbn ?_
  clear hK K
  have hbw := hbw.trans (hbn.mono hbw.size)
  have hX := (hbn.block _ hXl).trans hX
  have hY := (hbn.block _ hYl).trans hY
  have hZ := (hbn.block _ hZl).trans hZ
  clear hXl hYl hZl hbn
  generalize wn = wv at *
  have hXl : w.heap.size < wv.heap.size := (Array.getElem?_eq_some_iff.1 hX).1
  have hYl : w.heap.size + 1 < wv.heap.size := (Array.getElem?_eq_some_iff.1 hY).1
  have hZl : w.heap.size + 1 + 1 < wv.heap.size := (Array.getElem?_eq_some_iff.1 hZ).1
  conv => arg 4; whnf
  conv => arg 4; arg 1; whnf
  refine pt_eff (by rfl) (fun K hK => ?_)
  go_wp2_with fail
  refine (hBC _).mono ?_
  rintro en wn ⟨rfl, hbn⟩
  refine hK _ _ hbn ?_
  clear hK K
  have hbw := hbw.trans (hbn.mono hbw.size)
  have hX := (hbn.block _ hXl).trans hX
  have hY := (hbn.block _ hYl).trans hY
  have hZ := (hbn.block _ hZl).trans hZ
  clear hXl hYl hZl hbn
  generalize wn = wv at *
  have hXl : w.heap.size < wv.heap.size := (Array.getElem?_eq_some_iff.1 hX).1
  have hYl : w.heap.size + 1 < wv.heap.size := (Array.getElem?_eq_some_iff.1 hY).1
  have hZl : w.heap.size + 1 + 1 < wv.heap.size := (Array.getElem?_eq_some_iff.1 hZ).1
  conv => arg 4; whnf
  conv => arg 4; arg 1; whnf
  refine pt_eff (by rfl) (fun K hK => ?_)
  go_wp2_with fail
  refine (hAC _).mono ?_
  rintro en wn ⟨rfl, hbn⟩
  refine hK _ _ hbn ?_
  clear hK K
  have hbw := hbw.trans (hbn.mono hbw.size)
  have hX := (hbn.block _ hXl).trans hX
  have hY := (hbn.block _ hYl).trans hY
  have hZ := (hbn.block _ hZl).trans hZ
  clear hXl hYl hZl hbn
  generalize wn = wv at *
  have hXl : w.heap.size < wv.heap.size := (Array.getElem?_eq_some_iff.1 hX).1
  have hYl : w.heap.size + 1 < wv.heap.size := (Array.getElem?_eq_some_iff.1 hY).1
  have hZl : w.heap.size + 1 + 1 < wv.heap.size := (Array.getElem?_eq_some_iff.1 hZ).1
  conv => arg 4; whnf
  conv => arg 4; arg 1; whnf
  refine pt_free (by rfl) (fun K hK => ?_)
  go_big_quiet_op
  first | (refine hK _ ?_; clear hK K) | (refine ⟨_, fun _ _ => rfl, hK _ ?_⟩; clear hK K)
  conv => arg 4; whnf
  conv => arg 4; arg 1; whnf
  refine pt_free (by rfl) (fun K hK => ?_)
  go_big_quiet_op
  first | (refine hK _ ?_; clear hK K) | (refine ⟨_, fun _ _ => rfl, hK _ ?_⟩; clear hK K)
  conv => arg 4; whnf
  conv => arg 4; arg 1; whnf
  refine pt_free (by rfl) (fun K hK => ?_)
  go_big_quiet_op
  first | (refine hK _ ?_; clear hK K) | (refine ⟨_, fun _ _ => rfl, hK _ ?_⟩; clear hK K)
  refine pt_nil ?_
  obtain ⟨a0, a1, a2⟩ := cells3 hX
  obtain ⟨b0, b1, b2⟩ := cells3 hY
  go_wp2_with fail
  refine (hBA _).mono ?_
  rintro en wn ⟨rfl, hbn⟩
  clear a0 a1 a2 b0 b1 b2
  have hbw := hbw.trans (hbn.mono hbw.size)
  have hX := (hbn.block _ hXl).trans hX
  have hY := (hbn.block _ hYl).trans hY
  have hZ := (hbn.block _ hZl).trans hZ
  clear hXl hYl hZl hbn
  generalize wn = wv at *
  have hXl : w.heap.size < wv.heap.size := (Array.getElem?_eq_some_iff.1 hX).1
  have hYl : w.heap.size + 1 < wv.heap.size := (Array.getElem?_eq_some_iff.1 hY).1
  have hZl : w.heap.size + 1 + 1 < wv.heap.size := (Array.getElem?_eq_some_iff.1 hZ).1
  obtain ⟨a0, a1, a2⟩ := cells3 hX
  obtain ⟨b0, b1, b2⟩ := cells3 hY
  go_wp2_with fail
  refine (hR _).mono ?_
  rintro en wn ⟨rfl, hbn⟩
  clear a0 a1 a2 b0 b1 b2
  have hbw := hbw.trans (hbn.mono hbw.size)
  have hX := (hbn.block _ hXl).trans hX
  have hY := (hbn.block _ hYl).trans hY
  have hZ := (hbn.block _ hZl).trans hZ
  clear hXl hYl hZl hbn
  generalize wn = wv at *
  have hXl : w.heap.size < wv.heap.size := (Array.getElem?_eq_some_iff.1 hX).1
  have hYl : w.heap.size + 1 < wv.heap.size := (Array.getElem?_eq_some_iff.1 hY).1
  have hZl : w.heap.size + 1 + 1 < wv.heap.size := (Array.getElem?_eq_some_iff.1 hZ).1
  obtain ⟨a0, a1, a2⟩ := cells3 hX
  obtain ⟨b0, b1, b2⟩ := cells3 hY
  go_wp2_with fail
  refine (VM.awake_any _).mono ?_
  rintro en wn ⟨rfl, hbn⟩
  have hbw := hbw.trans (hbn.mono hbw.size)
  go_wp2_with fail
  go_ret
  exact ⟨by rfl, hbw⟩
set_option maxRecDepth 100000 in
set_option maxHeartbeats 4000000 in
theorem dc1N (w : World) (s : ByteArray) (n k : Int) (n2 k2 : Int) (s3 : ByteArray) (n3 k3 : Int) (y z : Int)
    (hAB : ∀ W, Calls Tryz.prog 5 #[.agg #[.string s, .int .i64 n, .int .i64 k], .agg #[.string s, .int .i64 n2, .int .i64 k2]] W fun e w' => e = .returned (.int .i64 (1)) ∧ Below W.heap.size W w')
    (hBC : ∀ W, Calls Tryz.prog 5 #[.agg #[.string s, .int .i64 n2, .int .i64 k2], .agg #[.string s3, .int .i64 n3, .int .i64 k3]] W fun e w' => e = .returned (.int .i64 (y)) ∧ Below W.heap.size W w')
    (hAC : ∀ W, Calls Tryz.prog 5 #[.agg #[.string s, .int .i64 n, .int .i64 k], .agg #[.string s3, .int .i64 n3, .int .i64 k3]] W fun e w' => e = .returned (.int .i64 (z)) ∧ Below W.heap.size W w')
    (hBA : ∀ W, Calls Tryz.prog 5 #[.agg #[.string s, .int .i64 n2, .int .i64 k2], .agg #[.string s, .int .i64 n, .int .i64 k]] W fun e w' => e = .returned (.int .i64 (-1)) ∧ Below W.heap.size W w')
    (hR : ∀ W, Calls Tryz.prog 6 #[.agg #[.string s, .int .i64 n, .int .i64 k], .agg #[.string s, .int .i64 n2, .int .i64 k2]] W fun e w' => e = .returned (.int .i64 (1)) ∧ Below W.heap.size W w') (hne : ¬ n = n2) :
    Calls Tryz.prog 3 #[.agg #[.string s, .int .i64 n, .int .i64 k], .agg #[.string s, .int .i64 n2, .int .i64 k2], .agg #[.string s3, .int .i64 n3, .int .i64 k3]] w fun e w' => e = .returned (.bool true) ∧ Below w.heap.size w w' := by
  go_enter Tryz.func3, Tryz.ntmps3
  go_wp2_with fail
  obtain ⟨W, hW⟩ : ∃ W, W = (((w.alloc (.cells #[.string s, .int .i64 n, .int .i64 k] 23)).alloc (.cells #[.string s, .int .i64 n2, .int .i64 k2] 23)).alloc (.cells #[.string s3, .int .i64 n3, .int .i64 k3] 23)) := ⟨_, rfl⟩
  have hs0 := heap_alloc_new w (.cells #[.string s, .int .i64 n, .int .i64 k] 23)
  have hs1 := heap_alloc_new (w.alloc (.cells #[.string s, .int .i64 n, .int .i64 k] 23)) (.cells #[.string s, .int .i64 n2, .int .i64 k2] 23)
  rw [World.size_alloc] at hs1
  have hs2 := heap_alloc_new ((w.alloc (.cells #[.string s, .int .i64 n, .int .i64 k] 23)).alloc (.cells #[.string s, .int .i64 n2, .int .i64 k2] 23)) (.cells #[.string s3, .int .i64 n3, .int .i64 k3] 23)
  rw [World.size_alloc, World.size_alloc] at hs2
  have hX : W.heap[w.heap.size]? = some (.cells #[.string s, .int .i64 n, .int .i64 k] 23 (0, 0)) := by rw [hW]; exact (Below.heap_alloc _ _ _ (by simp; try omega)).trans ((Below.heap_alloc _ _ _ (by simp; try omega)).trans (hs0))
  have hY : W.heap[w.heap.size + 1]? = some (.cells #[.string s, .int .i64 n2, .int .i64 k2] 23 (0, 0)) := by rw [hW]; exact (Below.heap_alloc _ _ _ (by simp; try omega)).trans (hs1)
  have hZ : W.heap[w.heap.size + 1 + 1]? = some (.cells #[.string s3, .int .i64 n3, .int .i64 k3] 23 (0, 0)) := by rw [hW]; exact hs2
  have hsW : W.heap.size = w.heap.size + 3 := by rw [hW]; simp
  have hbW : Below w.heap.size w W := by rw [hW]; exact (((Below.refl _ _).alloc (Nat.le_refl _) _).alloc (by simp; try omega) _).alloc (by simp; try omega) _
  rw [← hW]
  clear hW hs0 hs1 hs2
  refine wp_region_tree [] (.free 0 (.free 1 (.free 3 (.free 4 (.free 6 (.free 7 (.eff 2 (.eff 5 (.eff 8 (.free 9 (.free 10 (.free 11 (.nil))))))))))))) (by kernel_rfl) (by kernel_rfl) (fun _ _ d _ _ h => by cases d <;> exact h) ?_
  have hbw := hbW.drew
  have hX : W.drew.heap[w.heap.size]? = _ := hX
  have hY : W.drew.heap[w.heap.size + 1]? = _ := hY
  have hZ : W.drew.heap[w.heap.size + 1 + 1]? = _ := hZ
  clear hbW hsW
  generalize W.drew = wv at *
  have hXl : w.heap.size < wv.heap.size := (Array.getElem?_eq_some_iff.1 hX).1
  have hYl : w.heap.size + 1 < wv.heap.size := (Array.getElem?_eq_some_iff.1 hY).1
  have hZl : w.heap.size + 1 + 1 < wv.heap.size := (Array.getElem?_eq_some_iff.1 hZ).1
  conv => arg 4; whnf
  conv => arg 4; arg 1; whnf
  refine pt_loadB (k := w.heap.size) (fun W h => load_spot _ W _ _ _ (h.trans hX)) hXl (by rfl) rfl rfl ?_
  simp only [Act.put, List.setIfInBounds_toArray, List.set_cons_zero, List.set_cons_succ]
  conv => arg 4; whnf
  conv => arg 4; arg 1; whnf
  refine pt_loadB (k := w.heap.size + 1) (fun W h => load_spot _ W _ _ _ (h.trans hY)) hYl (by rfl) rfl rfl ?_
  simp only [Act.put, List.setIfInBounds_toArray, List.set_cons_zero, List.set_cons_succ]
  conv => arg 4; whnf
  conv => arg 4; arg 1; whnf
  refine pt_loadB (k := w.heap.size + 1) (fun W h => load_spot _ W _ _ _ (h.trans hY)) hYl (by rfl) rfl rfl ?_
  simp only [Act.put, List.setIfInBounds_toArray, List.set_cons_zero, List.set_cons_succ]
  conv => arg 4; whnf
  conv => arg 4; arg 1; whnf
  refine pt_loadB (k := w.heap.size + 1 + 1) (fun W h => load_spot _ W _ _ _ (h.trans hZ)) hZl (by rfl) rfl rfl ?_
  simp only [Act.put, List.setIfInBounds_toArray, List.set_cons_zero, List.set_cons_succ]
  conv => arg 4; whnf
  conv => arg 4; arg 1; whnf
  refine pt_loadB (k := w.heap.size) (fun W h => load_spot _ W _ _ _ (h.trans hX)) hXl (by rfl) rfl rfl ?_
  simp only [Act.put, List.setIfInBounds_toArray, List.set_cons_zero, List.set_cons_succ]
  conv => arg 4; whnf
  conv => arg 4; arg 1; whnf
  refine pt_loadB (k := w.heap.size + 1 + 1) (fun W h => load_spot _ W _ _ _ (h.trans hZ)) hZl (by rfl) rfl rfl ?_
  simp only [Act.put, List.setIfInBounds_toArray, List.set_cons_zero, List.set_cons_succ]
  conv => arg 4; whnf
  conv => arg 4; arg 1; whnf
  refine pt_eff (by rfl) (fun K hK => ?_)
  go_wp2_with fail
  refine (hAB _).mono ?_
  rintro en wn ⟨rfl, hbn⟩
  refine hK _ _ hbn ?_
  clear hK K
  have hbw := hbw.trans (hbn.mono hbw.size)
  have hX := (hbn.block _ hXl).trans hX
  have hY := (hbn.block _ hYl).trans hY
  have hZ := (hbn.block _ hZl).trans hZ
  clear hXl hYl hZl hbn
  generalize wn = wv at *
  have hXl : w.heap.size < wv.heap.size := (Array.getElem?_eq_some_iff.1 hX).1
  have hYl : w.heap.size + 1 < wv.heap.size := (Array.getElem?_eq_some_iff.1 hY).1
  have hZl : w.heap.size + 1 + 1 < wv.heap.size := (Array.getElem?_eq_some_iff.1 hZ).1
  conv => arg 4; whnf
  conv => arg 4; arg 1; whnf
  refine pt_eff (by rfl) (fun K hK => ?_)
  go_wp2_with fail
  refine (hBC _).mono ?_
  rintro en wn ⟨rfl, hbn⟩
  refine hK _ _ hbn ?_
  clear hK K
  have hbw := hbw.trans (hbn.mono hbw.size)
  have hX := (hbn.block _ hXl).trans hX
  have hY := (hbn.block _ hYl).trans hY
  have hZ := (hbn.block _ hZl).trans hZ
  clear hXl hYl hZl hbn
  generalize wn = wv at *
  have hXl : w.heap.size < wv.heap.size := (Array.getElem?_eq_some_iff.1 hX).1
  have hYl : w.heap.size + 1 < wv.heap.size := (Array.getElem?_eq_some_iff.1 hY).1
  have hZl : w.heap.size + 1 + 1 < wv.heap.size := (Array.getElem?_eq_some_iff.1 hZ).1
  conv => arg 4; whnf
  conv => arg 4; arg 1; whnf
  refine pt_eff (by rfl) (fun K hK => ?_)
  go_wp2_with fail
  refine (hAC _).mono ?_
  rintro en wn ⟨rfl, hbn⟩
  refine hK _ _ hbn ?_
  clear hK K
  have hbw := hbw.trans (hbn.mono hbw.size)
  have hX := (hbn.block _ hXl).trans hX
  have hY := (hbn.block _ hYl).trans hY
  have hZ := (hbn.block _ hZl).trans hZ
  clear hXl hYl hZl hbn
  generalize wn = wv at *
  have hXl : w.heap.size < wv.heap.size := (Array.getElem?_eq_some_iff.1 hX).1
  have hYl : w.heap.size + 1 < wv.heap.size := (Array.getElem?_eq_some_iff.1 hY).1
  have hZl : w.heap.size + 1 + 1 < wv.heap.size := (Array.getElem?_eq_some_iff.1 hZ).1
  conv => arg 4; whnf
  conv => arg 4; arg 1; whnf
  refine pt_free (by rfl) (fun K hK => ?_)
  go_big_quiet_op
  first | (refine hK _ ?_; clear hK K) | (refine ⟨_, fun _ _ => rfl, hK _ ?_⟩; clear hK K)
  conv => arg 4; whnf
  conv => arg 4; arg 1; whnf
  refine pt_free (by rfl) (fun K hK => ?_)
  go_big_quiet_op
  first | (refine hK _ ?_; clear hK K) | (refine ⟨_, fun _ _ => rfl, hK _ ?_⟩; clear hK K)
  conv => arg 4; whnf
  conv => arg 4; arg 1; whnf
  refine pt_free (by rfl) (fun K hK => ?_)
  go_big_quiet_op
  first | (refine hK _ ?_; clear hK K) | (refine ⟨_, fun _ _ => rfl, hK _ ?_⟩; clear hK K)
  refine pt_nil ?_
  obtain ⟨a0, a1, a2⟩ := cells3 hX
  obtain ⟨b0, b1, b2⟩ := cells3 hY
  go_wp2_with fail
  refine (hBA _).mono ?_
  rintro en wn ⟨rfl, hbn⟩
  clear a0 a1 a2 b0 b1 b2
  have hbw := hbw.trans (hbn.mono hbw.size)
  have hX := (hbn.block _ hXl).trans hX
  have hY := (hbn.block _ hYl).trans hY
  have hZ := (hbn.block _ hZl).trans hZ
  clear hXl hYl hZl hbn
  generalize wn = wv at *
  have hXl : w.heap.size < wv.heap.size := (Array.getElem?_eq_some_iff.1 hX).1
  have hYl : w.heap.size + 1 < wv.heap.size := (Array.getElem?_eq_some_iff.1 hY).1
  have hZl : w.heap.size + 1 + 1 < wv.heap.size := (Array.getElem?_eq_some_iff.1 hZ).1
  obtain ⟨a0, a1, a2⟩ := cells3 hX
  obtain ⟨b0, b1, b2⟩ := cells3 hY
  go_wp2_with fail
  refine (hR _).mono ?_
  rintro en wn ⟨rfl, hbn⟩
  clear a0 a1 a2 b0 b1 b2
  have hbw := hbw.trans (hbn.mono hbw.size)
  have hX := (hbn.block _ hXl).trans hX
  have hY := (hbn.block _ hYl).trans hY
  have hZ := (hbn.block _ hZl).trans hZ
  clear hXl hYl hZl hbn
  generalize wn = wv at *
  have hXl : w.heap.size < wv.heap.size := (Array.getElem?_eq_some_iff.1 hX).1
  have hYl : w.heap.size + 1 < wv.heap.size := (Array.getElem?_eq_some_iff.1 hY).1
  have hZl : w.heap.size + 1 + 1 < wv.heap.size := (Array.getElem?_eq_some_iff.1 hZ).1
  obtain ⟨a0, a1, a2⟩ := cells3 hX
  obtain ⟨b0, b1, b2⟩ := cells3 hY
  go_wp2_with fail
  refine (VM.awake_any _).mono ?_
  rintro en wn ⟨rfl, hbn⟩
  have hbw := hbw.trans (hbn.mono hbw.size)
  go_wp2_with fail
  go_ret
  exact ⟨by rfl, hbw⟩
set_option maxRecDepth 100000 in
set_option maxHeartbeats 4000000 in
theorem dc4N (w : World) (s : ByteArray) (n k : Int) (n2 k2 : Int) (s3 : ByteArray) (n3 k3 : Int) (y z : Int)
    (hAB : ∀ W, Calls Tryz.prog 5 #[.agg #[.string s, .int .i64 n, .int .i64 k], .agg #[.string s, .int .i64 n2, .int .i64 k2]] W fun e w' => e = .returned (.int .i64 (-1)) ∧ Below W.heap.size W w')
    (hBC : ∀ W, Calls Tryz.prog 5 #[.agg #[.string s, .int .i64 n2, .int .i64 k2], .agg #[.string s3, .int .i64 n3, .int .i64 k3]] W fun e w' => e = .returned (.int .i64 (y)) ∧ Below W.heap.size W w')
    (hAC : ∀ W, Calls Tryz.prog 5 #[.agg #[.string s, .int .i64 n, .int .i64 k], .agg #[.string s3, .int .i64 n3, .int .i64 k3]] W fun e w' => e = .returned (.int .i64 (z)) ∧ Below W.heap.size W w')
    (hBA : ∀ W, Calls Tryz.prog 5 #[.agg #[.string s, .int .i64 n2, .int .i64 k2], .agg #[.string s, .int .i64 n, .int .i64 k]] W fun e w' => e = .returned (.int .i64 (1)) ∧ Below W.heap.size W w')
    (hR : ∀ W, Calls Tryz.prog 6 #[.agg #[.string s, .int .i64 n, .int .i64 k], .agg #[.string s, .int .i64 n2, .int .i64 k2]] W fun e w' => e = .returned (.int .i64 (-1)) ∧ Below W.heap.size W w') (hne : ¬ n = n2) (hy : 0 < y) :
    Calls Tryz.prog 3 #[.agg #[.string s, .int .i64 n, .int .i64 k], .agg #[.string s, .int .i64 n2, .int .i64 k2], .agg #[.string s3, .int .i64 n3, .int .i64 k3]] w fun e w' => e = .returned (.bool true) ∧ Below w.heap.size w w' := by
  go_enter Tryz.func3, Tryz.ntmps3
  go_wp2_with fail
  obtain ⟨W, hW⟩ : ∃ W, W = (((w.alloc (.cells #[.string s, .int .i64 n, .int .i64 k] 23)).alloc (.cells #[.string s, .int .i64 n2, .int .i64 k2] 23)).alloc (.cells #[.string s3, .int .i64 n3, .int .i64 k3] 23)) := ⟨_, rfl⟩
  have hs0 := heap_alloc_new w (.cells #[.string s, .int .i64 n, .int .i64 k] 23)
  have hs1 := heap_alloc_new (w.alloc (.cells #[.string s, .int .i64 n, .int .i64 k] 23)) (.cells #[.string s, .int .i64 n2, .int .i64 k2] 23)
  rw [World.size_alloc] at hs1
  have hs2 := heap_alloc_new ((w.alloc (.cells #[.string s, .int .i64 n, .int .i64 k] 23)).alloc (.cells #[.string s, .int .i64 n2, .int .i64 k2] 23)) (.cells #[.string s3, .int .i64 n3, .int .i64 k3] 23)
  rw [World.size_alloc, World.size_alloc] at hs2
  have hX : W.heap[w.heap.size]? = some (.cells #[.string s, .int .i64 n, .int .i64 k] 23 (0, 0)) := by rw [hW]; exact (Below.heap_alloc _ _ _ (by simp; try omega)).trans ((Below.heap_alloc _ _ _ (by simp; try omega)).trans (hs0))
  have hY : W.heap[w.heap.size + 1]? = some (.cells #[.string s, .int .i64 n2, .int .i64 k2] 23 (0, 0)) := by rw [hW]; exact (Below.heap_alloc _ _ _ (by simp; try omega)).trans (hs1)
  have hZ : W.heap[w.heap.size + 1 + 1]? = some (.cells #[.string s3, .int .i64 n3, .int .i64 k3] 23 (0, 0)) := by rw [hW]; exact hs2
  have hsW : W.heap.size = w.heap.size + 3 := by rw [hW]; simp
  have hbW : Below w.heap.size w W := by rw [hW]; exact (((Below.refl _ _).alloc (Nat.le_refl _) _).alloc (by simp; try omega) _).alloc (by simp; try omega) _
  rw [← hW]
  clear hW hs0 hs1 hs2
  refine wp_region_tree [] (.free 0 (.free 1 (.free 3 (.free 4 (.free 6 (.free 7 (.eff 2 (.eff 5 (.eff 8 (.free 9 (.free 10 (.free 11 (.nil))))))))))))) (by kernel_rfl) (by kernel_rfl) (fun _ _ d _ _ h => by cases d <;> exact h) ?_
  have hbw := hbW.drew
  have hX : W.drew.heap[w.heap.size]? = _ := hX
  have hY : W.drew.heap[w.heap.size + 1]? = _ := hY
  have hZ : W.drew.heap[w.heap.size + 1 + 1]? = _ := hZ
  clear hbW hsW
  generalize W.drew = wv at *
  have hXl : w.heap.size < wv.heap.size := (Array.getElem?_eq_some_iff.1 hX).1
  have hYl : w.heap.size + 1 < wv.heap.size := (Array.getElem?_eq_some_iff.1 hY).1
  have hZl : w.heap.size + 1 + 1 < wv.heap.size := (Array.getElem?_eq_some_iff.1 hZ).1
  conv => arg 4; whnf
  conv => arg 4; arg 1; whnf
  refine pt_loadB (k := w.heap.size) (fun W h => load_spot _ W _ _ _ (h.trans hX)) hXl (by rfl) rfl rfl ?_
  simp only [Act.put, List.setIfInBounds_toArray, List.set_cons_zero, List.set_cons_succ]
  conv => arg 4; whnf
  conv => arg 4; arg 1; whnf
  refine pt_loadB (k := w.heap.size + 1) (fun W h => load_spot _ W _ _ _ (h.trans hY)) hYl (by rfl) rfl rfl ?_
  simp only [Act.put, List.setIfInBounds_toArray, List.set_cons_zero, List.set_cons_succ]
  conv => arg 4; whnf
  conv => arg 4; arg 1; whnf
  refine pt_loadB (k := w.heap.size + 1) (fun W h => load_spot _ W _ _ _ (h.trans hY)) hYl (by rfl) rfl rfl ?_
  simp only [Act.put, List.setIfInBounds_toArray, List.set_cons_zero, List.set_cons_succ]
  conv => arg 4; whnf
  conv => arg 4; arg 1; whnf
  refine pt_loadB (k := w.heap.size + 1 + 1) (fun W h => load_spot _ W _ _ _ (h.trans hZ)) hZl (by rfl) rfl rfl ?_
  simp only [Act.put, List.setIfInBounds_toArray, List.set_cons_zero, List.set_cons_succ]
  conv => arg 4; whnf
  conv => arg 4; arg 1; whnf
  refine pt_loadB (k := w.heap.size) (fun W h => load_spot _ W _ _ _ (h.trans hX)) hXl (by rfl) rfl rfl ?_
  simp only [Act.put, List.setIfInBounds_toArray, List.set_cons_zero, List.set_cons_succ]
  conv => arg 4; whnf
  conv => arg 4; arg 1; whnf
  refine pt_loadB (k := w.heap.size + 1 + 1) (fun W h => load_spot _ W _ _ _ (h.trans hZ)) hZl (by rfl) rfl rfl ?_
  simp only [Act.put, List.setIfInBounds_toArray, List.set_cons_zero, List.set_cons_succ]
  conv => arg 4; whnf
  conv => arg 4; arg 1; whnf
  refine pt_eff (by rfl) (fun K hK => ?_)
  go_wp2_with fail
  refine (hAB _).mono ?_
  rintro en wn ⟨rfl, hbn⟩
  refine hK _ _ hbn ?_
  clear hK K
  have hbw := hbw.trans (hbn.mono hbw.size)
  have hX := (hbn.block _ hXl).trans hX
  have hY := (hbn.block _ hYl).trans hY
  have hZ := (hbn.block _ hZl).trans hZ
  clear hXl hYl hZl hbn
  generalize wn = wv at *
  have hXl : w.heap.size < wv.heap.size := (Array.getElem?_eq_some_iff.1 hX).1
  have hYl : w.heap.size + 1 < wv.heap.size := (Array.getElem?_eq_some_iff.1 hY).1
  have hZl : w.heap.size + 1 + 1 < wv.heap.size := (Array.getElem?_eq_some_iff.1 hZ).1
  conv => arg 4; whnf
  conv => arg 4; arg 1; whnf
  refine pt_eff (by rfl) (fun K hK => ?_)
  go_wp2_with fail
  refine (hBC _).mono ?_
  rintro en wn ⟨rfl, hbn⟩
  refine hK _ _ hbn ?_
  clear hK K
  have hbw := hbw.trans (hbn.mono hbw.size)
  have hX := (hbn.block _ hXl).trans hX
  have hY := (hbn.block _ hYl).trans hY
  have hZ := (hbn.block _ hZl).trans hZ
  clear hXl hYl hZl hbn
  generalize wn = wv at *
  have hXl : w.heap.size < wv.heap.size := (Array.getElem?_eq_some_iff.1 hX).1
  have hYl : w.heap.size + 1 < wv.heap.size := (Array.getElem?_eq_some_iff.1 hY).1
  have hZl : w.heap.size + 1 + 1 < wv.heap.size := (Array.getElem?_eq_some_iff.1 hZ).1
  conv => arg 4; whnf
  conv => arg 4; arg 1; whnf
  refine pt_eff (by rfl) (fun K hK => ?_)
  go_wp2_with fail
  refine (hAC _).mono ?_
  rintro en wn ⟨rfl, hbn⟩
  refine hK _ _ hbn ?_
  clear hK K
  have hbw := hbw.trans (hbn.mono hbw.size)
  have hX := (hbn.block _ hXl).trans hX
  have hY := (hbn.block _ hYl).trans hY
  have hZ := (hbn.block _ hZl).trans hZ
  clear hXl hYl hZl hbn
  generalize wn = wv at *
  have hXl : w.heap.size < wv.heap.size := (Array.getElem?_eq_some_iff.1 hX).1
  have hYl : w.heap.size + 1 < wv.heap.size := (Array.getElem?_eq_some_iff.1 hY).1
  have hZl : w.heap.size + 1 + 1 < wv.heap.size := (Array.getElem?_eq_some_iff.1 hZ).1
  conv => arg 4; whnf
  conv => arg 4; arg 1; whnf
  refine pt_free (by rfl) (fun K hK => ?_)
  go_big_quiet_op
  first | (refine hK _ ?_; clear hK K) | (refine ⟨_, fun _ _ => rfl, hK _ ?_⟩; clear hK K)
  conv => arg 4; whnf
  conv => arg 4; arg 1; whnf
  refine pt_free (by rfl) (fun K hK => ?_)
  go_big_quiet_op
  first | (refine hK _ ?_; clear hK K) | (refine ⟨_, fun _ _ => rfl, hK _ ?_⟩; clear hK K)
  conv => arg 4; whnf
  conv => arg 4; arg 1; whnf
  refine pt_free (by rfl) (fun K hK => ?_)
  go_big_quiet_op
  first | (refine hK _ ?_; clear hK K) | (refine ⟨_, fun _ _ => rfl, hK _ ?_⟩; clear hK K)
  refine pt_nil ?_
  obtain ⟨a0, a1, a2⟩ := cells3 hX
  obtain ⟨b0, b1, b2⟩ := cells3 hY
  go_wp2_with fail
  refine (hBA _).mono ?_
  rintro en wn ⟨rfl, hbn⟩
  clear a0 a1 a2 b0 b1 b2
  have hbw := hbw.trans (hbn.mono hbw.size)
  have hX := (hbn.block _ hXl).trans hX
  have hY := (hbn.block _ hYl).trans hY
  have hZ := (hbn.block _ hZl).trans hZ
  clear hXl hYl hZl hbn
  generalize wn = wv at *
  have hXl : w.heap.size < wv.heap.size := (Array.getElem?_eq_some_iff.1 hX).1
  have hYl : w.heap.size + 1 < wv.heap.size := (Array.getElem?_eq_some_iff.1 hY).1
  have hZl : w.heap.size + 1 + 1 < wv.heap.size := (Array.getElem?_eq_some_iff.1 hZ).1
  obtain ⟨a0, a1, a2⟩ := cells3 hX
  obtain ⟨b0, b1, b2⟩ := cells3 hY
  go_wp2_with fail
  refine (hR _).mono ?_
  rintro en wn ⟨rfl, hbn⟩
  clear a0 a1 a2 b0 b1 b2
  have hbw := hbw.trans (hbn.mono hbw.size)
  have hX := (hbn.block _ hXl).trans hX
  have hY := (hbn.block _ hYl).trans hY
  have hZ := (hbn.block _ hZl).trans hZ
  clear hXl hYl hZl hbn
  generalize wn = wv at *
  have hXl : w.heap.size < wv.heap.size := (Array.getElem?_eq_some_iff.1 hX).1
  have hYl : w.heap.size + 1 < wv.heap.size := (Array.getElem?_eq_some_iff.1 hY).1
  have hZl : w.heap.size + 1 + 1 < wv.heap.size := (Array.getElem?_eq_some_iff.1 hZ).1
  obtain ⟨a0, a1, a2⟩ := cells3 hX
  obtain ⟨b0, b1, b2⟩ := cells3 hY
  go_wp2_with fail
  refine (VM.awake_any _).mono ?_
  rintro en wn ⟨rfl, hbn⟩
  have hbw := hbw.trans (hbn.mono hbw.size)
  go_wp2_with fail
  go_ret
  exact ⟨by rfl, hbw⟩
set_option maxRecDepth 100000 in
set_option maxHeartbeats 4000000 in
theorem dc5N (w : World) (s : ByteArray) (n k : Int) (n2 k2 : Int) (s3 : ByteArray) (n3 k3 : Int) (y z : Int)
    (hAB : ∀ W, Calls Tryz.prog 5 #[.agg #[.string s, .int .i64 n, .int .i64 k], .agg #[.string s, .int .i64 n2, .int .i64 k2]] W fun e w' => e = .returned (.int .i64 (-1)) ∧ Below W.heap.size W w')
    (hBC : ∀ W, Calls Tryz.prog 5 #[.agg #[.string s, .int .i64 n2, .int .i64 k2], .agg #[.string s3, .int .i64 n3, .int .i64 k3]] W fun e w' => e = .returned (.int .i64 (y)) ∧ Below W.heap.size W w')
    (hAC : ∀ W, Calls Tryz.prog 5 #[.agg #[.string s, .int .i64 n, .int .i64 k], .agg #[.string s3, .int .i64 n3, .int .i64 k3]] W fun e w' => e = .returned (.int .i64 (z)) ∧ Below W.heap.size W w')
    (hBA : ∀ W, Calls Tryz.prog 5 #[.agg #[.string s, .int .i64 n2, .int .i64 k2], .agg #[.string s, .int .i64 n, .int .i64 k]] W fun e w' => e = .returned (.int .i64 (1)) ∧ Below W.heap.size W w')
    (hR : ∀ W, Calls Tryz.prog 6 #[.agg #[.string s, .int .i64 n, .int .i64 k], .agg #[.string s, .int .i64 n2, .int .i64 k2]] W fun e w' => e = .returned (.int .i64 (-1)) ∧ Below W.heap.size W w') (hne : ¬ n = n2) (hy : ¬ 0 < y) (hz : z ≤ 0) :
    Calls Tryz.prog 3 #[.agg #[.string s, .int .i64 n, .int .i64 k], .agg #[.string s, .int .i64 n2, .int .i64 k2], .agg #[.string s3, .int .i64 n3, .int .i64 k3]] w fun e w' => e = .returned (.bool true) ∧ Below w.heap.size w w' := by
  go_enter Tryz.func3, Tryz.ntmps3
  go_wp2_with fail
  obtain ⟨W, hW⟩ : ∃ W, W = (((w.alloc (.cells #[.string s, .int .i64 n, .int .i64 k] 23)).alloc (.cells #[.string s, .int .i64 n2, .int .i64 k2] 23)).alloc (.cells #[.string s3, .int .i64 n3, .int .i64 k3] 23)) := ⟨_, rfl⟩
  have hs0 := heap_alloc_new w (.cells #[.string s, .int .i64 n, .int .i64 k] 23)
  have hs1 := heap_alloc_new (w.alloc (.cells #[.string s, .int .i64 n, .int .i64 k] 23)) (.cells #[.string s, .int .i64 n2, .int .i64 k2] 23)
  rw [World.size_alloc] at hs1
  have hs2 := heap_alloc_new ((w.alloc (.cells #[.string s, .int .i64 n, .int .i64 k] 23)).alloc (.cells #[.string s, .int .i64 n2, .int .i64 k2] 23)) (.cells #[.string s3, .int .i64 n3, .int .i64 k3] 23)
  rw [World.size_alloc, World.size_alloc] at hs2
  have hX : W.heap[w.heap.size]? = some (.cells #[.string s, .int .i64 n, .int .i64 k] 23 (0, 0)) := by rw [hW]; exact (Below.heap_alloc _ _ _ (by simp; try omega)).trans ((Below.heap_alloc _ _ _ (by simp; try omega)).trans (hs0))
  have hY : W.heap[w.heap.size + 1]? = some (.cells #[.string s, .int .i64 n2, .int .i64 k2] 23 (0, 0)) := by rw [hW]; exact (Below.heap_alloc _ _ _ (by simp; try omega)).trans (hs1)
  have hZ : W.heap[w.heap.size + 1 + 1]? = some (.cells #[.string s3, .int .i64 n3, .int .i64 k3] 23 (0, 0)) := by rw [hW]; exact hs2
  have hsW : W.heap.size = w.heap.size + 3 := by rw [hW]; simp
  have hbW : Below w.heap.size w W := by rw [hW]; exact (((Below.refl _ _).alloc (Nat.le_refl _) _).alloc (by simp; try omega) _).alloc (by simp; try omega) _
  rw [← hW]
  clear hW hs0 hs1 hs2
  refine wp_region_tree [] (.free 0 (.free 1 (.free 3 (.free 4 (.free 6 (.free 7 (.eff 2 (.eff 5 (.eff 8 (.free 9 (.free 10 (.free 11 (.nil))))))))))))) (by kernel_rfl) (by kernel_rfl) (fun _ _ d _ _ h => by cases d <;> exact h) ?_
  have hbw := hbW.drew
  have hX : W.drew.heap[w.heap.size]? = _ := hX
  have hY : W.drew.heap[w.heap.size + 1]? = _ := hY
  have hZ : W.drew.heap[w.heap.size + 1 + 1]? = _ := hZ
  clear hbW hsW
  generalize W.drew = wv at *
  have hXl : w.heap.size < wv.heap.size := (Array.getElem?_eq_some_iff.1 hX).1
  have hYl : w.heap.size + 1 < wv.heap.size := (Array.getElem?_eq_some_iff.1 hY).1
  have hZl : w.heap.size + 1 + 1 < wv.heap.size := (Array.getElem?_eq_some_iff.1 hZ).1
  conv => arg 4; whnf
  conv => arg 4; arg 1; whnf
  refine pt_loadB (k := w.heap.size) (fun W h => load_spot _ W _ _ _ (h.trans hX)) hXl (by rfl) rfl rfl ?_
  simp only [Act.put, List.setIfInBounds_toArray, List.set_cons_zero, List.set_cons_succ]
  conv => arg 4; whnf
  conv => arg 4; arg 1; whnf
  refine pt_loadB (k := w.heap.size + 1) (fun W h => load_spot _ W _ _ _ (h.trans hY)) hYl (by rfl) rfl rfl ?_
  simp only [Act.put, List.setIfInBounds_toArray, List.set_cons_zero, List.set_cons_succ]
  conv => arg 4; whnf
  conv => arg 4; arg 1; whnf
  refine pt_loadB (k := w.heap.size + 1) (fun W h => load_spot _ W _ _ _ (h.trans hY)) hYl (by rfl) rfl rfl ?_
  simp only [Act.put, List.setIfInBounds_toArray, List.set_cons_zero, List.set_cons_succ]
  conv => arg 4; whnf
  conv => arg 4; arg 1; whnf
  refine pt_loadB (k := w.heap.size + 1 + 1) (fun W h => load_spot _ W _ _ _ (h.trans hZ)) hZl (by rfl) rfl rfl ?_
  simp only [Act.put, List.setIfInBounds_toArray, List.set_cons_zero, List.set_cons_succ]
  conv => arg 4; whnf
  conv => arg 4; arg 1; whnf
  refine pt_loadB (k := w.heap.size) (fun W h => load_spot _ W _ _ _ (h.trans hX)) hXl (by rfl) rfl rfl ?_
  simp only [Act.put, List.setIfInBounds_toArray, List.set_cons_zero, List.set_cons_succ]
  conv => arg 4; whnf
  conv => arg 4; arg 1; whnf
  refine pt_loadB (k := w.heap.size + 1 + 1) (fun W h => load_spot _ W _ _ _ (h.trans hZ)) hZl (by rfl) rfl rfl ?_
  simp only [Act.put, List.setIfInBounds_toArray, List.set_cons_zero, List.set_cons_succ]
  conv => arg 4; whnf
  conv => arg 4; arg 1; whnf
  refine pt_eff (by rfl) (fun K hK => ?_)
  go_wp2_with fail
  refine (hAB _).mono ?_
  rintro en wn ⟨rfl, hbn⟩
  refine hK _ _ hbn ?_
  clear hK K
  have hbw := hbw.trans (hbn.mono hbw.size)
  have hX := (hbn.block _ hXl).trans hX
  have hY := (hbn.block _ hYl).trans hY
  have hZ := (hbn.block _ hZl).trans hZ
  clear hXl hYl hZl hbn
  generalize wn = wv at *
  have hXl : w.heap.size < wv.heap.size := (Array.getElem?_eq_some_iff.1 hX).1
  have hYl : w.heap.size + 1 < wv.heap.size := (Array.getElem?_eq_some_iff.1 hY).1
  have hZl : w.heap.size + 1 + 1 < wv.heap.size := (Array.getElem?_eq_some_iff.1 hZ).1
  conv => arg 4; whnf
  conv => arg 4; arg 1; whnf
  refine pt_eff (by rfl) (fun K hK => ?_)
  go_wp2_with fail
  refine (hBC _).mono ?_
  rintro en wn ⟨rfl, hbn⟩
  refine hK _ _ hbn ?_
  clear hK K
  have hbw := hbw.trans (hbn.mono hbw.size)
  have hX := (hbn.block _ hXl).trans hX
  have hY := (hbn.block _ hYl).trans hY
  have hZ := (hbn.block _ hZl).trans hZ
  clear hXl hYl hZl hbn
  generalize wn = wv at *
  have hXl : w.heap.size < wv.heap.size := (Array.getElem?_eq_some_iff.1 hX).1
  have hYl : w.heap.size + 1 < wv.heap.size := (Array.getElem?_eq_some_iff.1 hY).1
  have hZl : w.heap.size + 1 + 1 < wv.heap.size := (Array.getElem?_eq_some_iff.1 hZ).1
  conv => arg 4; whnf
  conv => arg 4; arg 1; whnf
  refine pt_eff (by rfl) (fun K hK => ?_)
  go_wp2_with fail
  refine (hAC _).mono ?_
  rintro en wn ⟨rfl, hbn⟩
  refine hK _ _ hbn ?_
  clear hK K
  have hbw := hbw.trans (hbn.mono hbw.size)
  have hX := (hbn.block _ hXl).trans hX
  have hY := (hbn.block _ hYl).trans hY
  have hZ := (hbn.block _ hZl).trans hZ
  clear hXl hYl hZl hbn
  generalize wn = wv at *
  have hXl : w.heap.size < wv.heap.size := (Array.getElem?_eq_some_iff.1 hX).1
  have hYl : w.heap.size + 1 < wv.heap.size := (Array.getElem?_eq_some_iff.1 hY).1
  have hZl : w.heap.size + 1 + 1 < wv.heap.size := (Array.getElem?_eq_some_iff.1 hZ).1
  conv => arg 4; whnf
  conv => arg 4; arg 1; whnf
  refine pt_free (by rfl) (fun K hK => ?_)
  go_big_quiet_op
  first | (refine hK _ ?_; clear hK K) | (refine ⟨_, fun _ _ => rfl, hK _ ?_⟩; clear hK K)
  conv => arg 4; whnf
  conv => arg 4; arg 1; whnf
  refine pt_free (by rfl) (fun K hK => ?_)
  go_big_quiet_op
  first | (refine hK _ ?_; clear hK K) | (refine ⟨_, fun _ _ => rfl, hK _ ?_⟩; clear hK K)
  conv => arg 4; whnf
  conv => arg 4; arg 1; whnf
  refine pt_free (by rfl) (fun K hK => ?_)
  go_big_quiet_op
  first | (refine hK _ ?_; clear hK K) | (refine ⟨_, fun _ _ => rfl, hK _ ?_⟩; clear hK K)
  refine pt_nil ?_
  obtain ⟨a0, a1, a2⟩ := cells3 hX
  obtain ⟨b0, b1, b2⟩ := cells3 hY
  go_wp2_with fail
  refine (hBA _).mono ?_
  rintro en wn ⟨rfl, hbn⟩
  clear a0 a1 a2 b0 b1 b2
  have hbw := hbw.trans (hbn.mono hbw.size)
  have hX := (hbn.block _ hXl).trans hX
  have hY := (hbn.block _ hYl).trans hY
  have hZ := (hbn.block _ hZl).trans hZ
  clear hXl hYl hZl hbn
  generalize wn = wv at *
  have hXl : w.heap.size < wv.heap.size := (Array.getElem?_eq_some_iff.1 hX).1
  have hYl : w.heap.size + 1 < wv.heap.size := (Array.getElem?_eq_some_iff.1 hY).1
  have hZl : w.heap.size + 1 + 1 < wv.heap.size := (Array.getElem?_eq_some_iff.1 hZ).1
  obtain ⟨a0, a1, a2⟩ := cells3 hX
  obtain ⟨b0, b1, b2⟩ := cells3 hY
  go_wp2_with fail
  refine (hR _).mono ?_
  rintro en wn ⟨rfl, hbn⟩
  clear a0 a1 a2 b0 b1 b2
  have hbw := hbw.trans (hbn.mono hbw.size)
  have hX := (hbn.block _ hXl).trans hX
  have hY := (hbn.block _ hYl).trans hY
  have hZ := (hbn.block _ hZl).trans hZ
  clear hXl hYl hZl hbn
  generalize wn = wv at *
  have hXl : w.heap.size < wv.heap.size := (Array.getElem?_eq_some_iff.1 hX).1
  have hYl : w.heap.size + 1 < wv.heap.size := (Array.getElem?_eq_some_iff.1 hY).1
  have hZl : w.heap.size + 1 + 1 < wv.heap.size := (Array.getElem?_eq_some_iff.1 hZ).1
  obtain ⟨a0, a1, a2⟩ := cells3 hX
  obtain ⟨b0, b1, b2⟩ := cells3 hY
  go_wp2_with fail
  refine (VM.awake_any _).mono ?_
  rintro en wn ⟨rfl, hbn⟩
  have hbw := hbw.trans (hbn.mono hbw.size)
  go_wp2_with fail
  go_ret
  exact ⟨by rfl, hbw⟩
set_option maxRecDepth 100000 in
set_option maxHeartbeats 4000000 in
theorem dc1K (w : World) (s : ByteArray) (n k : Int) (k2 : Int) (s3 : ByteArray) (n3 k3 : Int) (y z : Int)
    (hAB : ∀ W, Calls Tryz.prog 5 #[.agg #[.string s, .int .i64 n, .int .i64 k], .agg #[.string s, .int .i64 n, .int .i64 k2]] W fun e w' => e = .returned (.int .i64 (1)) ∧ Below W.heap.size W w')
    (hBC : ∀ W, Calls Tryz.prog 5 #[.agg #[.string s, .int .i64 n, .int .i64 k2], .agg #[.string s3, .int .i64 n3, .int .i64 k3]] W fun e w' => e = .returned (.int .i64 (y)) ∧ Below W.heap.size W w')
    (hAC : ∀ W, Calls Tryz.prog 5 #[.agg #[.string s, .int .i64 n, .int .i64 k], .agg #[.string s3, .int .i64 n3, .int .i64 k3]] W fun e w' => e = .returned (.int .i64 (z)) ∧ Below W.heap.size W w')
    (hBA : ∀ W, Calls Tryz.prog 5 #[.agg #[.string s, .int .i64 n, .int .i64 k2], .agg #[.string s, .int .i64 n, .int .i64 k]] W fun e w' => e = .returned (.int .i64 (-1)) ∧ Below W.heap.size W w')
    (hR : ∀ W, Calls Tryz.prog 6 #[.agg #[.string s, .int .i64 n, .int .i64 k], .agg #[.string s, .int .i64 n, .int .i64 k2]] W fun e w' => e = .returned (.int .i64 (1)) ∧ Below W.heap.size W w') (hne : ¬ k = k2) :
    Calls Tryz.prog 3 #[.agg #[.string s, .int .i64 n, .int .i64 k], .agg #[.string s, .int .i64 n, .int .i64 k2], .agg #[.string s3, .int .i64 n3, .int .i64 k3]] w fun e w' => e = .returned (.bool true) ∧ Below w.heap.size w w' := by
  go_enter Tryz.func3, Tryz.ntmps3
  go_wp2_with fail
  obtain ⟨W, hW⟩ : ∃ W, W = (((w.alloc (.cells #[.string s, .int .i64 n, .int .i64 k] 23)).alloc (.cells #[.string s, .int .i64 n, .int .i64 k2] 23)).alloc (.cells #[.string s3, .int .i64 n3, .int .i64 k3] 23)) := ⟨_, rfl⟩
  have hs0 := heap_alloc_new w (.cells #[.string s, .int .i64 n, .int .i64 k] 23)
  have hs1 := heap_alloc_new (w.alloc (.cells #[.string s, .int .i64 n, .int .i64 k] 23)) (.cells #[.string s, .int .i64 n, .int .i64 k2] 23)
  rw [World.size_alloc] at hs1
  have hs2 := heap_alloc_new ((w.alloc (.cells #[.string s, .int .i64 n, .int .i64 k] 23)).alloc (.cells #[.string s, .int .i64 n, .int .i64 k2] 23)) (.cells #[.string s3, .int .i64 n3, .int .i64 k3] 23)
  rw [World.size_alloc, World.size_alloc] at hs2
  have hX : W.heap[w.heap.size]? = some (.cells #[.string s, .int .i64 n, .int .i64 k] 23 (0, 0)) := by rw [hW]; exact (Below.heap_alloc _ _ _ (by simp; try omega)).trans ((Below.heap_alloc _ _ _ (by simp; try omega)).trans (hs0))
  have hY : W.heap[w.heap.size + 1]? = some (.cells #[.string s, .int .i64 n, .int .i64 k2] 23 (0, 0)) := by rw [hW]; exact (Below.heap_alloc _ _ _ (by simp; try omega)).trans (hs1)
  have hZ : W.heap[w.heap.size + 1 + 1]? = some (.cells #[.string s3, .int .i64 n3, .int .i64 k3] 23 (0, 0)) := by rw [hW]; exact hs2
  have hsW : W.heap.size = w.heap.size + 3 := by rw [hW]; simp
  have hbW : Below w.heap.size w W := by rw [hW]; exact (((Below.refl _ _).alloc (Nat.le_refl _) _).alloc (by simp; try omega) _).alloc (by simp; try omega) _
  rw [← hW]
  clear hW hs0 hs1 hs2
  refine wp_region_tree [] (.free 0 (.free 1 (.free 3 (.free 4 (.free 6 (.free 7 (.eff 2 (.eff 5 (.eff 8 (.free 9 (.free 10 (.free 11 (.nil))))))))))))) (by kernel_rfl) (by kernel_rfl) (fun _ _ d _ _ h => by cases d <;> exact h) ?_
  have hbw := hbW.drew
  have hX : W.drew.heap[w.heap.size]? = _ := hX
  have hY : W.drew.heap[w.heap.size + 1]? = _ := hY
  have hZ : W.drew.heap[w.heap.size + 1 + 1]? = _ := hZ
  clear hbW hsW
  generalize W.drew = wv at *
  have hXl : w.heap.size < wv.heap.size := (Array.getElem?_eq_some_iff.1 hX).1
  have hYl : w.heap.size + 1 < wv.heap.size := (Array.getElem?_eq_some_iff.1 hY).1
  have hZl : w.heap.size + 1 + 1 < wv.heap.size := (Array.getElem?_eq_some_iff.1 hZ).1
  conv => arg 4; whnf
  conv => arg 4; arg 1; whnf
  refine pt_loadB (k := w.heap.size) (fun W h => load_spot _ W _ _ _ (h.trans hX)) hXl (by rfl) rfl rfl ?_
  simp only [Act.put, List.setIfInBounds_toArray, List.set_cons_zero, List.set_cons_succ]
  conv => arg 4; whnf
  conv => arg 4; arg 1; whnf
  refine pt_loadB (k := w.heap.size + 1) (fun W h => load_spot _ W _ _ _ (h.trans hY)) hYl (by rfl) rfl rfl ?_
  simp only [Act.put, List.setIfInBounds_toArray, List.set_cons_zero, List.set_cons_succ]
  conv => arg 4; whnf
  conv => arg 4; arg 1; whnf
  refine pt_loadB (k := w.heap.size + 1) (fun W h => load_spot _ W _ _ _ (h.trans hY)) hYl (by rfl) rfl rfl ?_
  simp only [Act.put, List.setIfInBounds_toArray, List.set_cons_zero, List.set_cons_succ]
  conv => arg 4; whnf
  conv => arg 4; arg 1; whnf
  refine pt_loadB (k := w.heap.size + 1 + 1) (fun W h => load_spot _ W _ _ _ (h.trans hZ)) hZl (by rfl) rfl rfl ?_
  simp only [Act.put, List.setIfInBounds_toArray, List.set_cons_zero, List.set_cons_succ]
  conv => arg 4; whnf
  conv => arg 4; arg 1; whnf
  refine pt_loadB (k := w.heap.size) (fun W h => load_spot _ W _ _ _ (h.trans hX)) hXl (by rfl) rfl rfl ?_
  simp only [Act.put, List.setIfInBounds_toArray, List.set_cons_zero, List.set_cons_succ]
  conv => arg 4; whnf
  conv => arg 4; arg 1; whnf
  refine pt_loadB (k := w.heap.size + 1 + 1) (fun W h => load_spot _ W _ _ _ (h.trans hZ)) hZl (by rfl) rfl rfl ?_
  simp only [Act.put, List.setIfInBounds_toArray, List.set_cons_zero, List.set_cons_succ]
  conv => arg 4; whnf
  conv => arg 4; arg 1; whnf
  refine pt_eff (by rfl) (fun K hK => ?_)
  go_wp2_with fail
  refine (hAB _).mono ?_
  rintro en wn ⟨rfl, hbn⟩
  refine hK _ _ hbn ?_
  clear hK K
  have hbw := hbw.trans (hbn.mono hbw.size)
  have hX := (hbn.block _ hXl).trans hX
  have hY := (hbn.block _ hYl).trans hY
  have hZ := (hbn.block _ hZl).trans hZ
  clear hXl hYl hZl hbn
  generalize wn = wv at *
  have hXl : w.heap.size < wv.heap.size := (Array.getElem?_eq_some_iff.1 hX).1
  have hYl : w.heap.size + 1 < wv.heap.size := (Array.getElem?_eq_some_iff.1 hY).1
  have hZl : w.heap.size + 1 + 1 < wv.heap.size := (Array.getElem?_eq_some_iff.1 hZ).1
  conv => arg 4; whnf
  conv => arg 4; arg 1; whnf
  refine pt_eff (by rfl) (fun K hK => ?_)
  go_wp2_with fail
  refine (hBC _).mono ?_
  rintro en wn ⟨rfl, hbn⟩
  refine hK _ _ hbn ?_
  clear hK K
  have hbw := hbw.trans (hbn.mono hbw.size)
  have hX := (hbn.block _ hXl).trans hX
  have hY := (hbn.block _ hYl).trans hY
  have hZ := (hbn.block _ hZl).trans hZ
  clear hXl hYl hZl hbn
  generalize wn = wv at *
  have hXl : w.heap.size < wv.heap.size := (Array.getElem?_eq_some_iff.1 hX).1
  have hYl : w.heap.size + 1 < wv.heap.size := (Array.getElem?_eq_some_iff.1 hY).1
  have hZl : w.heap.size + 1 + 1 < wv.heap.size := (Array.getElem?_eq_some_iff.1 hZ).1
  conv => arg 4; whnf
  conv => arg 4; arg 1; whnf
  refine pt_eff (by rfl) (fun K hK => ?_)
  go_wp2_with fail
  refine (hAC _).mono ?_
  rintro en wn ⟨rfl, hbn⟩
  refine hK _ _ hbn ?_
  clear hK K
  have hbw := hbw.trans (hbn.mono hbw.size)
  have hX := (hbn.block _ hXl).trans hX
  have hY := (hbn.block _ hYl).trans hY
  have hZ := (hbn.block _ hZl).trans hZ
  clear hXl hYl hZl hbn
  generalize wn = wv at *
  have hXl : w.heap.size < wv.heap.size := (Array.getElem?_eq_some_iff.1 hX).1
  have hYl : w.heap.size + 1 < wv.heap.size := (Array.getElem?_eq_some_iff.1 hY).1
  have hZl : w.heap.size + 1 + 1 < wv.heap.size := (Array.getElem?_eq_some_iff.1 hZ).1
  conv => arg 4; whnf
  conv => arg 4; arg 1; whnf
  refine pt_free (by rfl) (fun K hK => ?_)
  go_big_quiet_op
  first | (refine hK _ ?_; clear hK K) | (refine ⟨_, fun _ _ => rfl, hK _ ?_⟩; clear hK K)
  conv => arg 4; whnf
  conv => arg 4; arg 1; whnf
  refine pt_free (by rfl) (fun K hK => ?_)
  go_big_quiet_op
  first | (refine hK _ ?_; clear hK K) | (refine ⟨_, fun _ _ => rfl, hK _ ?_⟩; clear hK K)
  conv => arg 4; whnf
  conv => arg 4; arg 1; whnf
  refine pt_free (by rfl) (fun K hK => ?_)
  go_big_quiet_op
  first | (refine hK _ ?_; clear hK K) | (refine ⟨_, fun _ _ => rfl, hK _ ?_⟩; clear hK K)
  refine pt_nil ?_
  obtain ⟨a0, a1, a2⟩ := cells3 hX
  obtain ⟨b0, b1, b2⟩ := cells3 hY
  go_wp2_with fail
  refine (hBA _).mono ?_
  rintro en wn ⟨rfl, hbn⟩
  clear a0 a1 a2 b0 b1 b2
  have hbw := hbw.trans (hbn.mono hbw.size)
  have hX := (hbn.block _ hXl).trans hX
  have hY := (hbn.block _ hYl).trans hY
  have hZ := (hbn.block _ hZl).trans hZ
  clear hXl hYl hZl hbn
  generalize wn = wv at *
  have hXl : w.heap.size < wv.heap.size := (Array.getElem?_eq_some_iff.1 hX).1
  have hYl : w.heap.size + 1 < wv.heap.size := (Array.getElem?_eq_some_iff.1 hY).1
  have hZl : w.heap.size + 1 + 1 < wv.heap.size := (Array.getElem?_eq_some_iff.1 hZ).1
  obtain ⟨a0, a1, a2⟩ := cells3 hX
  obtain ⟨b0, b1, b2⟩ := cells3 hY
  go_wp2_with fail
  refine (hR _).mono ?_
  rintro en wn ⟨rfl, hbn⟩
  clear a0 a1 a2 b0 b1 b2
  have hbw := hbw.trans (hbn.mono hbw.size)
  have hX := (hbn.block _ hXl).trans hX
  have hY := (hbn.block _ hYl).trans hY
  have hZ := (hbn.block _ hZl).trans hZ
  clear hXl hYl hZl hbn
  generalize wn = wv at *
  have hXl : w.heap.size < wv.heap.size := (Array.getElem?_eq_some_iff.1 hX).1
  have hYl : w.heap.size + 1 < wv.heap.size := (Array.getElem?_eq_some_iff.1 hY).1
  have hZl : w.heap.size + 1 + 1 < wv.heap.size := (Array.getElem?_eq_some_iff.1 hZ).1
  obtain ⟨a0, a1, a2⟩ := cells3 hX
  obtain ⟨b0, b1, b2⟩ := cells3 hY
  go_wp2_with fail
  refine (VM.awake_any _).mono ?_
  rintro en wn ⟨rfl, hbn⟩
  have hbw := hbw.trans (hbn.mono hbw.size)
  go_wp2_with fail
  go_ret
  exact ⟨by rfl, hbw⟩
set_option maxRecDepth 100000 in
set_option maxHeartbeats 4000000 in
theorem dc4K (w : World) (s : ByteArray) (n k : Int) (k2 : Int) (s3 : ByteArray) (n3 k3 : Int) (y z : Int)
    (hAB : ∀ W, Calls Tryz.prog 5 #[.agg #[.string s, .int .i64 n, .int .i64 k], .agg #[.string s, .int .i64 n, .int .i64 k2]] W fun e w' => e = .returned (.int .i64 (-1)) ∧ Below W.heap.size W w')
    (hBC : ∀ W, Calls Tryz.prog 5 #[.agg #[.string s, .int .i64 n, .int .i64 k2], .agg #[.string s3, .int .i64 n3, .int .i64 k3]] W fun e w' => e = .returned (.int .i64 (y)) ∧ Below W.heap.size W w')
    (hAC : ∀ W, Calls Tryz.prog 5 #[.agg #[.string s, .int .i64 n, .int .i64 k], .agg #[.string s3, .int .i64 n3, .int .i64 k3]] W fun e w' => e = .returned (.int .i64 (z)) ∧ Below W.heap.size W w')
    (hBA : ∀ W, Calls Tryz.prog 5 #[.agg #[.string s, .int .i64 n, .int .i64 k2], .agg #[.string s, .int .i64 n, .int .i64 k]] W fun e w' => e = .returned (.int .i64 (1)) ∧ Below W.heap.size W w')
    (hR : ∀ W, Calls Tryz.prog 6 #[.agg #[.string s, .int .i64 n, .int .i64 k], .agg #[.string s, .int .i64 n, .int .i64 k2]] W fun e w' => e = .returned (.int .i64 (-1)) ∧ Below W.heap.size W w') (hne : ¬ k = k2) (hy : 0 < y) :
    Calls Tryz.prog 3 #[.agg #[.string s, .int .i64 n, .int .i64 k], .agg #[.string s, .int .i64 n, .int .i64 k2], .agg #[.string s3, .int .i64 n3, .int .i64 k3]] w fun e w' => e = .returned (.bool true) ∧ Below w.heap.size w w' := by
  go_enter Tryz.func3, Tryz.ntmps3
  go_wp2_with fail
  obtain ⟨W, hW⟩ : ∃ W, W = (((w.alloc (.cells #[.string s, .int .i64 n, .int .i64 k] 23)).alloc (.cells #[.string s, .int .i64 n, .int .i64 k2] 23)).alloc (.cells #[.string s3, .int .i64 n3, .int .i64 k3] 23)) := ⟨_, rfl⟩
  have hs0 := heap_alloc_new w (.cells #[.string s, .int .i64 n, .int .i64 k] 23)
  have hs1 := heap_alloc_new (w.alloc (.cells #[.string s, .int .i64 n, .int .i64 k] 23)) (.cells #[.string s, .int .i64 n, .int .i64 k2] 23)
  rw [World.size_alloc] at hs1
  have hs2 := heap_alloc_new ((w.alloc (.cells #[.string s, .int .i64 n, .int .i64 k] 23)).alloc (.cells #[.string s, .int .i64 n, .int .i64 k2] 23)) (.cells #[.string s3, .int .i64 n3, .int .i64 k3] 23)
  rw [World.size_alloc, World.size_alloc] at hs2
  have hX : W.heap[w.heap.size]? = some (.cells #[.string s, .int .i64 n, .int .i64 k] 23 (0, 0)) := by rw [hW]; exact (Below.heap_alloc _ _ _ (by simp; try omega)).trans ((Below.heap_alloc _ _ _ (by simp; try omega)).trans (hs0))
  have hY : W.heap[w.heap.size + 1]? = some (.cells #[.string s, .int .i64 n, .int .i64 k2] 23 (0, 0)) := by rw [hW]; exact (Below.heap_alloc _ _ _ (by simp; try omega)).trans (hs1)
  have hZ : W.heap[w.heap.size + 1 + 1]? = some (.cells #[.string s3, .int .i64 n3, .int .i64 k3] 23 (0, 0)) := by rw [hW]; exact hs2
  have hsW : W.heap.size = w.heap.size + 3 := by rw [hW]; simp
  have hbW : Below w.heap.size w W := by rw [hW]; exact (((Below.refl _ _).alloc (Nat.le_refl _) _).alloc (by simp; try omega) _).alloc (by simp; try omega) _
  rw [← hW]
  clear hW hs0 hs1 hs2
  refine wp_region_tree [] (.free 0 (.free 1 (.free 3 (.free 4 (.free 6 (.free 7 (.eff 2 (.eff 5 (.eff 8 (.free 9 (.free 10 (.free 11 (.nil))))))))))))) (by kernel_rfl) (by kernel_rfl) (fun _ _ d _ _ h => by cases d <;> exact h) ?_
  have hbw := hbW.drew
  have hX : W.drew.heap[w.heap.size]? = _ := hX
  have hY : W.drew.heap[w.heap.size + 1]? = _ := hY
  have hZ : W.drew.heap[w.heap.size + 1 + 1]? = _ := hZ
  clear hbW hsW
  generalize W.drew = wv at *
  have hXl : w.heap.size < wv.heap.size := (Array.getElem?_eq_some_iff.1 hX).1
  have hYl : w.heap.size + 1 < wv.heap.size := (Array.getElem?_eq_some_iff.1 hY).1
  have hZl : w.heap.size + 1 + 1 < wv.heap.size := (Array.getElem?_eq_some_iff.1 hZ).1
  conv => arg 4; whnf
  conv => arg 4; arg 1; whnf
  refine pt_loadB (k := w.heap.size) (fun W h => load_spot _ W _ _ _ (h.trans hX)) hXl (by rfl) rfl rfl ?_
  simp only [Act.put, List.setIfInBounds_toArray, List.set_cons_zero, List.set_cons_succ]
  conv => arg 4; whnf
  conv => arg 4; arg 1; whnf
  refine pt_loadB (k := w.heap.size + 1) (fun W h => load_spot _ W _ _ _ (h.trans hY)) hYl (by rfl) rfl rfl ?_
  simp only [Act.put, List.setIfInBounds_toArray, List.set_cons_zero, List.set_cons_succ]
  conv => arg 4; whnf
  conv => arg 4; arg 1; whnf
  refine pt_loadB (k := w.heap.size + 1) (fun W h => load_spot _ W _ _ _ (h.trans hY)) hYl (by rfl) rfl rfl ?_
  simp only [Act.put, List.setIfInBounds_toArray, List.set_cons_zero, List.set_cons_succ]
  conv => arg 4; whnf
  conv => arg 4; arg 1; whnf
  refine pt_loadB (k := w.heap.size + 1 + 1) (fun W h => load_spot _ W _ _ _ (h.trans hZ)) hZl (by rfl) rfl rfl ?_
  simp only [Act.put, List.setIfInBounds_toArray, List.set_cons_zero, List.set_cons_succ]
  conv => arg 4; whnf
  conv => arg 4; arg 1; whnf
  refine pt_loadB (k := w.heap.size) (fun W h => load_spot _ W _ _ _ (h.trans hX)) hXl (by rfl) rfl rfl ?_
  simp only [Act.put, List.setIfInBounds_toArray, List.set_cons_zero, List.set_cons_succ]
  conv => arg 4; whnf
  conv => arg 4; arg 1; whnf
  refine pt_loadB (k := w.heap.size + 1 + 1) (fun W h => load_spot _ W _ _ _ (h.trans hZ)) hZl (by rfl) rfl rfl ?_
  simp only [Act.put, List.setIfInBounds_toArray, List.set_cons_zero, List.set_cons_succ]
  conv => arg 4; whnf
  conv => arg 4; arg 1; whnf
  refine pt_eff (by rfl) (fun K hK => ?_)
  go_wp2_with fail
  refine (hAB _).mono ?_
  rintro en wn ⟨rfl, hbn⟩
  refine hK _ _ hbn ?_
  clear hK K
  have hbw := hbw.trans (hbn.mono hbw.size)
  have hX := (hbn.block _ hXl).trans hX
  have hY := (hbn.block _ hYl).trans hY
  have hZ := (hbn.block _ hZl).trans hZ
  clear hXl hYl hZl hbn
  generalize wn = wv at *
  have hXl : w.heap.size < wv.heap.size := (Array.getElem?_eq_some_iff.1 hX).1
  have hYl : w.heap.size + 1 < wv.heap.size := (Array.getElem?_eq_some_iff.1 hY).1
  have hZl : w.heap.size + 1 + 1 < wv.heap.size := (Array.getElem?_eq_some_iff.1 hZ).1
  conv => arg 4; whnf
  conv => arg 4; arg 1; whnf
  refine pt_eff (by rfl) (fun K hK => ?_)
  go_wp2_with fail
  refine (hBC _).mono ?_
  rintro en wn ⟨rfl, hbn⟩
  refine hK _ _ hbn ?_
  clear hK K
  have hbw := hbw.trans (hbn.mono hbw.size)
  have hX := (hbn.block _ hXl).trans hX
  have hY := (hbn.block _ hYl).trans hY
  have hZ := (hbn.block _ hZl).trans hZ
  clear hXl hYl hZl hbn
  generalize wn = wv at *
  have hXl : w.heap.size < wv.heap.size := (Array.getElem?_eq_some_iff.1 hX).1
  have hYl : w.heap.size + 1 < wv.heap.size := (Array.getElem?_eq_some_iff.1 hY).1
  have hZl : w.heap.size + 1 + 1 < wv.heap.size := (Array.getElem?_eq_some_iff.1 hZ).1
  conv => arg 4; whnf
  conv => arg 4; arg 1; whnf
  refine pt_eff (by rfl) (fun K hK => ?_)
  go_wp2_with fail
  refine (hAC _).mono ?_
  rintro en wn ⟨rfl, hbn⟩
  refine hK _ _ hbn ?_
  clear hK K
  have hbw := hbw.trans (hbn.mono hbw.size)
  have hX := (hbn.block _ hXl).trans hX
  have hY := (hbn.block _ hYl).trans hY
  have hZ := (hbn.block _ hZl).trans hZ
  clear hXl hYl hZl hbn
  generalize wn = wv at *
  have hXl : w.heap.size < wv.heap.size := (Array.getElem?_eq_some_iff.1 hX).1
  have hYl : w.heap.size + 1 < wv.heap.size := (Array.getElem?_eq_some_iff.1 hY).1
  have hZl : w.heap.size + 1 + 1 < wv.heap.size := (Array.getElem?_eq_some_iff.1 hZ).1
  conv => arg 4; whnf
  conv => arg 4; arg 1; whnf
  refine pt_free (by rfl) (fun K hK => ?_)
  go_big_quiet_op
  first | (refine hK _ ?_; clear hK K) | (refine ⟨_, fun _ _ => rfl, hK _ ?_⟩; clear hK K)
  conv => arg 4; whnf
  conv => arg 4; arg 1; whnf
  refine pt_free (by rfl) (fun K hK => ?_)
  go_big_quiet_op
  first | (refine hK _ ?_; clear hK K) | (refine ⟨_, fun _ _ => rfl, hK _ ?_⟩; clear hK K)
  conv => arg 4; whnf
  conv => arg 4; arg 1; whnf
  refine pt_free (by rfl) (fun K hK => ?_)
  go_big_quiet_op
  first | (refine hK _ ?_; clear hK K) | (refine ⟨_, fun _ _ => rfl, hK _ ?_⟩; clear hK K)
  refine pt_nil ?_
  obtain ⟨a0, a1, a2⟩ := cells3 hX
  obtain ⟨b0, b1, b2⟩ := cells3 hY
  go_wp2_with fail
  refine (hBA _).mono ?_
  rintro en wn ⟨rfl, hbn⟩
  clear a0 a1 a2 b0 b1 b2
  have hbw := hbw.trans (hbn.mono hbw.size)
  have hX := (hbn.block _ hXl).trans hX
  have hY := (hbn.block _ hYl).trans hY
  have hZ := (hbn.block _ hZl).trans hZ
  clear hXl hYl hZl hbn
  generalize wn = wv at *
  have hXl : w.heap.size < wv.heap.size := (Array.getElem?_eq_some_iff.1 hX).1
  have hYl : w.heap.size + 1 < wv.heap.size := (Array.getElem?_eq_some_iff.1 hY).1
  have hZl : w.heap.size + 1 + 1 < wv.heap.size := (Array.getElem?_eq_some_iff.1 hZ).1
  obtain ⟨a0, a1, a2⟩ := cells3 hX
  obtain ⟨b0, b1, b2⟩ := cells3 hY
  go_wp2_with fail
  refine (hR _).mono ?_
  rintro en wn ⟨rfl, hbn⟩
  clear a0 a1 a2 b0 b1 b2
  have hbw := hbw.trans (hbn.mono hbw.size)
  have hX := (hbn.block _ hXl).trans hX
  have hY := (hbn.block _ hYl).trans hY
  have hZ := (hbn.block _ hZl).trans hZ
  clear hXl hYl hZl hbn
  generalize wn = wv at *
  have hXl : w.heap.size < wv.heap.size := (Array.getElem?_eq_some_iff.1 hX).1
  have hYl : w.heap.size + 1 < wv.heap.size := (Array.getElem?_eq_some_iff.1 hY).1
  have hZl : w.heap.size + 1 + 1 < wv.heap.size := (Array.getElem?_eq_some_iff.1 hZ).1
  obtain ⟨a0, a1, a2⟩ := cells3 hX
  obtain ⟨b0, b1, b2⟩ := cells3 hY
  go_wp2_with fail
  refine (VM.awake_any _).mono ?_
  rintro en wn ⟨rfl, hbn⟩
  have hbw := hbw.trans (hbn.mono hbw.size)
  go_wp2_with fail
  go_ret
  exact ⟨by rfl, hbw⟩
set_option maxRecDepth 100000 in
set_option maxHeartbeats 4000000 in
theorem dc5K (w : World) (s : ByteArray) (n k : Int) (k2 : Int) (s3 : ByteArray) (n3 k3 : Int) (y z : Int)
    (hAB : ∀ W, Calls Tryz.prog 5 #[.agg #[.string s, .int .i64 n, .int .i64 k], .agg #[.string s, .int .i64 n, .int .i64 k2]] W fun e w' => e = .returned (.int .i64 (-1)) ∧ Below W.heap.size W w')
    (hBC : ∀ W, Calls Tryz.prog 5 #[.agg #[.string s, .int .i64 n, .int .i64 k2], .agg #[.string s3, .int .i64 n3, .int .i64 k3]] W fun e w' => e = .returned (.int .i64 (y)) ∧ Below W.heap.size W w')
    (hAC : ∀ W, Calls Tryz.prog 5 #[.agg #[.string s, .int .i64 n, .int .i64 k], .agg #[.string s3, .int .i64 n3, .int .i64 k3]] W fun e w' => e = .returned (.int .i64 (z)) ∧ Below W.heap.size W w')
    (hBA : ∀ W, Calls Tryz.prog 5 #[.agg #[.string s, .int .i64 n, .int .i64 k2], .agg #[.string s, .int .i64 n, .int .i64 k]] W fun e w' => e = .returned (.int .i64 (1)) ∧ Below W.heap.size W w')
    (hR : ∀ W, Calls Tryz.prog 6 #[.agg #[.string s, .int .i64 n, .int .i64 k], .agg #[.string s, .int .i64 n, .int .i64 k2]] W fun e w' => e = .returned (.int .i64 (-1)) ∧ Below W.heap.size W w') (hne : ¬ k = k2) (hy : ¬ 0 < y) (hz : z ≤ 0) :
    Calls Tryz.prog 3 #[.agg #[.string s, .int .i64 n, .int .i64 k], .agg #[.string s, .int .i64 n, .int .i64 k2], .agg #[.string s3, .int .i64 n3, .int .i64 k3]] w fun e w' => e = .returned (.bool true) ∧ Below w.heap.size w w' := by
  go_enter Tryz.func3, Tryz.ntmps3
  go_wp2_with fail
  obtain ⟨W, hW⟩ : ∃ W, W = (((w.alloc (.cells #[.string s, .int .i64 n, .int .i64 k] 23)).alloc (.cells #[.string s, .int .i64 n, .int .i64 k2] 23)).alloc (.cells #[.string s3, .int .i64 n3, .int .i64 k3] 23)) := ⟨_, rfl⟩
  have hs0 := heap_alloc_new w (.cells #[.string s, .int .i64 n, .int .i64 k] 23)
  have hs1 := heap_alloc_new (w.alloc (.cells #[.string s, .int .i64 n, .int .i64 k] 23)) (.cells #[.string s, .int .i64 n, .int .i64 k2] 23)
  rw [World.size_alloc] at hs1
  have hs2 := heap_alloc_new ((w.alloc (.cells #[.string s, .int .i64 n, .int .i64 k] 23)).alloc (.cells #[.string s, .int .i64 n, .int .i64 k2] 23)) (.cells #[.string s3, .int .i64 n3, .int .i64 k3] 23)
  rw [World.size_alloc, World.size_alloc] at hs2
  have hX : W.heap[w.heap.size]? = some (.cells #[.string s, .int .i64 n, .int .i64 k] 23 (0, 0)) := by rw [hW]; exact (Below.heap_alloc _ _ _ (by simp; try omega)).trans ((Below.heap_alloc _ _ _ (by simp; try omega)).trans (hs0))
  have hY : W.heap[w.heap.size + 1]? = some (.cells #[.string s, .int .i64 n, .int .i64 k2] 23 (0, 0)) := by rw [hW]; exact (Below.heap_alloc _ _ _ (by simp; try omega)).trans (hs1)
  have hZ : W.heap[w.heap.size + 1 + 1]? = some (.cells #[.string s3, .int .i64 n3, .int .i64 k3] 23 (0, 0)) := by rw [hW]; exact hs2
  have hsW : W.heap.size = w.heap.size + 3 := by rw [hW]; simp
  have hbW : Below w.heap.size w W := by rw [hW]; exact (((Below.refl _ _).alloc (Nat.le_refl _) _).alloc (by simp; try omega) _).alloc (by simp; try omega) _
  rw [← hW]
  clear hW hs0 hs1 hs2
  refine wp_region_tree [] (.free 0 (.free 1 (.free 3 (.free 4 (.free 6 (.free 7 (.eff 2 (.eff 5 (.eff 8 (.free 9 (.free 10 (.free 11 (.nil))))))))))))) (by kernel_rfl) (by kernel_rfl) (fun _ _ d _ _ h => by cases d <;> exact h) ?_
  have hbw := hbW.drew
  have hX : W.drew.heap[w.heap.size]? = _ := hX
  have hY : W.drew.heap[w.heap.size + 1]? = _ := hY
  have hZ : W.drew.heap[w.heap.size + 1 + 1]? = _ := hZ
  clear hbW hsW
  generalize W.drew = wv at *
  have hXl : w.heap.size < wv.heap.size := (Array.getElem?_eq_some_iff.1 hX).1
  have hYl : w.heap.size + 1 < wv.heap.size := (Array.getElem?_eq_some_iff.1 hY).1
  have hZl : w.heap.size + 1 + 1 < wv.heap.size := (Array.getElem?_eq_some_iff.1 hZ).1
  conv => arg 4; whnf
  conv => arg 4; arg 1; whnf
  refine pt_loadB (k := w.heap.size) (fun W h => load_spot _ W _ _ _ (h.trans hX)) hXl (by rfl) rfl rfl ?_
  simp only [Act.put, List.setIfInBounds_toArray, List.set_cons_zero, List.set_cons_succ]
  conv => arg 4; whnf
  conv => arg 4; arg 1; whnf
  refine pt_loadB (k := w.heap.size + 1) (fun W h => load_spot _ W _ _ _ (h.trans hY)) hYl (by rfl) rfl rfl ?_
  simp only [Act.put, List.setIfInBounds_toArray, List.set_cons_zero, List.set_cons_succ]
  conv => arg 4; whnf
  conv => arg 4; arg 1; whnf
  refine pt_loadB (k := w.heap.size + 1) (fun W h => load_spot _ W _ _ _ (h.trans hY)) hYl (by rfl) rfl rfl ?_
  simp only [Act.put, List.setIfInBounds_toArray, List.set_cons_zero, List.set_cons_succ]
  conv => arg 4; whnf
  conv => arg 4; arg 1; whnf
  refine pt_loadB (k := w.heap.size + 1 + 1) (fun W h => load_spot _ W _ _ _ (h.trans hZ)) hZl (by rfl) rfl rfl ?_
  simp only [Act.put, List.setIfInBounds_toArray, List.set_cons_zero, List.set_cons_succ]
  conv => arg 4; whnf
  conv => arg 4; arg 1; whnf
  refine pt_loadB (k := w.heap.size) (fun W h => load_spot _ W _ _ _ (h.trans hX)) hXl (by rfl) rfl rfl ?_
  simp only [Act.put, List.setIfInBounds_toArray, List.set_cons_zero, List.set_cons_succ]
  conv => arg 4; whnf
  conv => arg 4; arg 1; whnf
  refine pt_loadB (k := w.heap.size + 1 + 1) (fun W h => load_spot _ W _ _ _ (h.trans hZ)) hZl (by rfl) rfl rfl ?_
  simp only [Act.put, List.setIfInBounds_toArray, List.set_cons_zero, List.set_cons_succ]
  conv => arg 4; whnf
  conv => arg 4; arg 1; whnf
  refine pt_eff (by rfl) (fun K hK => ?_)
  go_wp2_with fail
  refine (hAB _).mono ?_
  rintro en wn ⟨rfl, hbn⟩
  refine hK _ _ hbn ?_
  clear hK K
  have hbw := hbw.trans (hbn.mono hbw.size)
  have hX := (hbn.block _ hXl).trans hX
  have hY := (hbn.block _ hYl).trans hY
  have hZ := (hbn.block _ hZl).trans hZ
  clear hXl hYl hZl hbn
  generalize wn = wv at *
  have hXl : w.heap.size < wv.heap.size := (Array.getElem?_eq_some_iff.1 hX).1
  have hYl : w.heap.size + 1 < wv.heap.size := (Array.getElem?_eq_some_iff.1 hY).1
  have hZl : w.heap.size + 1 + 1 < wv.heap.size := (Array.getElem?_eq_some_iff.1 hZ).1
  conv => arg 4; whnf
  conv => arg 4; arg 1; whnf
  refine pt_eff (by rfl) (fun K hK => ?_)
  go_wp2_with fail
  refine (hBC _).mono ?_
  rintro en wn ⟨rfl, hbn⟩
  refine hK _ _ hbn ?_
  clear hK K
  have hbw := hbw.trans (hbn.mono hbw.size)
  have hX := (hbn.block _ hXl).trans hX
  have hY := (hbn.block _ hYl).trans hY
  have hZ := (hbn.block _ hZl).trans hZ
  clear hXl hYl hZl hbn
  generalize wn = wv at *
  have hXl : w.heap.size < wv.heap.size := (Array.getElem?_eq_some_iff.1 hX).1
  have hYl : w.heap.size + 1 < wv.heap.size := (Array.getElem?_eq_some_iff.1 hY).1
  have hZl : w.heap.size + 1 + 1 < wv.heap.size := (Array.getElem?_eq_some_iff.1 hZ).1
  conv => arg 4; whnf
  conv => arg 4; arg 1; whnf
  refine pt_eff (by rfl) (fun K hK => ?_)
  go_wp2_with fail
  refine (hAC _).mono ?_
  rintro en wn ⟨rfl, hbn⟩
  refine hK _ _ hbn ?_
  clear hK K
  have hbw := hbw.trans (hbn.mono hbw.size)
  have hX := (hbn.block _ hXl).trans hX
  have hY := (hbn.block _ hYl).trans hY
  have hZ := (hbn.block _ hZl).trans hZ
  clear hXl hYl hZl hbn
  generalize wn = wv at *
  have hXl : w.heap.size < wv.heap.size := (Array.getElem?_eq_some_iff.1 hX).1
  have hYl : w.heap.size + 1 < wv.heap.size := (Array.getElem?_eq_some_iff.1 hY).1
  have hZl : w.heap.size + 1 + 1 < wv.heap.size := (Array.getElem?_eq_some_iff.1 hZ).1
  conv => arg 4; whnf
  conv => arg 4; arg 1; whnf
  refine pt_free (by rfl) (fun K hK => ?_)
  go_big_quiet_op
  first | (refine hK _ ?_; clear hK K) | (refine ⟨_, fun _ _ => rfl, hK _ ?_⟩; clear hK K)
  conv => arg 4; whnf
  conv => arg 4; arg 1; whnf
  refine pt_free (by rfl) (fun K hK => ?_)
  go_big_quiet_op
  first | (refine hK _ ?_; clear hK K) | (refine ⟨_, fun _ _ => rfl, hK _ ?_⟩; clear hK K)
  conv => arg 4; whnf
  conv => arg 4; arg 1; whnf
  refine pt_free (by rfl) (fun K hK => ?_)
  go_big_quiet_op
  first | (refine hK _ ?_; clear hK K) | (refine ⟨_, fun _ _ => rfl, hK _ ?_⟩; clear hK K)
  refine pt_nil ?_
  obtain ⟨a0, a1, a2⟩ := cells3 hX
  obtain ⟨b0, b1, b2⟩ := cells3 hY
  go_wp2_with fail
  refine (hBA _).mono ?_
  rintro en wn ⟨rfl, hbn⟩
  clear a0 a1 a2 b0 b1 b2
  have hbw := hbw.trans (hbn.mono hbw.size)
  have hX := (hbn.block _ hXl).trans hX
  have hY := (hbn.block _ hYl).trans hY
  have hZ := (hbn.block _ hZl).trans hZ
  clear hXl hYl hZl hbn
  generalize wn = wv at *
  have hXl : w.heap.size < wv.heap.size := (Array.getElem?_eq_some_iff.1 hX).1
  have hYl : w.heap.size + 1 < wv.heap.size := (Array.getElem?_eq_some_iff.1 hY).1
  have hZl : w.heap.size + 1 + 1 < wv.heap.size := (Array.getElem?_eq_some_iff.1 hZ).1
  obtain ⟨a0, a1, a2⟩ := cells3 hX
  obtain ⟨b0, b1, b2⟩ := cells3 hY
  go_wp2_with fail
  refine (hR _).mono ?_
  rintro en wn ⟨rfl, hbn⟩
  clear a0 a1 a2 b0 b1 b2
  have hbw := hbw.trans (hbn.mono hbw.size)
  have hX := (hbn.block _ hXl).trans hX
  have hY := (hbn.block _ hYl).trans hY
  have hZ := (hbn.block _ hZl).trans hZ
  clear hXl hYl hZl hbn
  generalize wn = wv at *
  have hXl : w.heap.size < wv.heap.size := (Array.getElem?_eq_some_iff.1 hX).1
  have hYl : w.heap.size + 1 < wv.heap.size := (Array.getElem?_eq_some_iff.1 hY).1
  have hZl : w.heap.size + 1 + 1 < wv.heap.size := (Array.getElem?_eq_some_iff.1 hZ).1
  obtain ⟨a0, a1, a2⟩ := cells3 hX
  obtain ⟨b0, b1, b2⟩ := cells3 hY
  go_wp2_with fail
  refine (VM.awake_any _).mono ?_
  rintro en wn ⟨rfl, hbn⟩
  have hbw := hbw.trans (hbn.mono hbw.size)
  go_wp2_with fail
  go_ret
  exact ⟨by rfl, hbw⟩
theorem spcmp_zero {s t : ByteArray} {n k n2 k2 : Int} (h : spcmp (s, n, k) (t, n2, k2) = 0) : s = t ∧ n = n2 ∧ k = k2 := by
  rcases three s t with e | rfl | e
  · rw [sp1 e] at h; omega
  · by_cases h1 : n < n2
    · rw [sp3 s h1] at h; omega
    · by_cases h2 : n2 < n
      · rw [sp4 s h2] at h; omega
      · obtain rfl : n = n2 := by omega
        by_cases h3 : k < k2
        · rw [sp5 s n h3] at h; omega
        · by_cases h4 : k2 < k
          · rw [sp6 s n h4] at h; omega
          · exact ⟨rfl, rfl, by omega⟩
  · rw [sp2 e] at h; omega
theorem depsCmp_walk (w : World) (s : ByteArray) (n k : Int) (s2 : ByteArray) (n2 k2 : Int) (s3 : ByteArray) (n3 k3 : Int) :
    Calls Tryz.prog 3 #[.agg #[.string s, .int .i64 n, .int .i64 k], .agg #[.string s2, .int .i64 n2, .int .i64 k2], .agg #[.string s3, .int .i64 n3, .int .i64 k3]] w fun e w' => e = .returned (.bool true) ∧ Below w.heap.size w w' := by
  have hAB := fun W => dcmp_any W s s2 n k n2 k2
  have hBC := fun W => dcmp_any W s2 s3 n2 k2 n3 k3
  have hAC := fun W => dcmp_any W s s3 n k n3 k3
  have hBA := fun W => dcmp_any W s2 s n2 k2 n k
  have hR := fun W => rcmp_any W s s2 n k n2 k2
  have hle := spcmp3.le (s, n, k) (s2, n2, k2) (s3, n3, k3)
  rw [spcmp3.anti (s, n, k) (s2, n2, k2)] at hBA
  by_cases hs : s.toList = s2.toList
  · obtain rfl := toList_inj hs
    by_cases hn : n = n2
    · subst hn
      by_cases hk : k = k2
      · subst hk
        rw [sp7] at hAB hBA hR hle
        by_cases hy : 0 < spcmp (s, n, k) (s3, n3, k3)
        · exact dc2 w _ _ _ _ _ _ _ _ hAB hBC hAC hBA hR hy
        · exact dc3 w _ _ _ _ _ _ _ _ hAB hBC hAC hBA hR hy (hle (by omega) (by omega))
      · rcases spcmp3.range (s, n, k) (s, n, k2) with h | h | h
        · rw [h] at hAB hBA hR hle
          by_cases hy : 0 < spcmp (s, n, k2) (s3, n3, k3)
          · exact dc4K w _ _ _ _ _ _ _ _ _ hAB hBC hAC hBA hR hk hy
          · exact dc5K w _ _ _ _ _ _ _ _ _ hAB hBC hAC hBA hR hk hy (hle (by omega) (by omega))
        · exact absurd (spcmp_zero h).2.2 hk
        · rw [h] at hAB hBA hR
          exact dc1K w _ _ _ _ _ _ _ _ _ hAB hBC hAC hBA hR hk
    · rcases spcmp3.range (s, n, k) (s, n2, k2) with h | h | h
      · rw [h] at hAB hBA hR hle
        by_cases hy : 0 < spcmp (s, n2, k2) (s3, n3, k3)
        · exact dc4N w _ _ _ _ _ _ _ _ _ _ hAB hBC hAC hBA hR hn hy
        · exact dc5N w _ _ _ _ _ _ _ _ _ _ hAB hBC hAC hBA hR hn hy (hle (by omega) (by omega))
      · exact absurd (spcmp_zero h).2.1 hn
      · rw [h] at hAB hBA hR
        exact dc1N w _ _ _ _ _ _ _ _ _ _ hAB hBC hAC hBA hR hn
  · rcases spcmp3.range (s, n, k) (s2, n2, k2) with h | h | h
    · rw [h] at hAB hBA hR hle
      by_cases hy : 0 < spcmp (s2, n2, k2) (s3, n3, k3)
      · exact dc4S w _ _ _ _ _ _ _ _ _ _ _ hAB hBC hAC hBA hR hs hy
      · exact dc5S w _ _ _ _ _ _ _ _ _ _ _ hAB hBC hAC hBA hR hs hy (hle (by omega) (by omega))
    · exact absurd (congrArg ByteArray.toList (spcmp_zero h).1) hs
    · rw [h] at hAB hBA hR
      exact dc1S w _ _ _ _ _ _ _ _ _ _ _ hAB hBC hAC hBA hR hs
end Go.Proofs.YtgminjlnnpaefaaGreatDoor
