/- node.Cmp, queue.Len, queue.Less. Written by pqueuegen.py. -/
import Derived.Test.YtfhgnolfhiffbaaPMem
import Derived.BigQuiet
namespace Go.Proofs.Ytfhgnolfhiffbaa
open Go.RowKit
/-- below 0 where one comes ahead of another -/
def ndCmp (n m : Nd) : Int := firstOf [icmp m.2 n.2, scmp n.1 m.1]
theorem two2 {w1 : World} {g : Nat} {a b : Value} {t : TypeId} {fr : Nat × Nat} (z : w1.heap[g]? = some (.cells #[a, b] t fr)) : w1.cell? ⟨g, 0, none⟩ = some a ∧ w1.cell? ⟨g, 1, none⟩ = some b := by simp [World.cell?, z]
theorem load_i (p : Addr) (v : Value) (W : World) (h : W.cell? p = some v) : (Instr.loadAt 3 (.pointer (some p))).run Try.prog W = .ok v W := by simp [go_sem, h]
theorem load_s (p : Addr) (v : Value) (W : World) (h : W.cell? p = some v) : (Instr.loadAt 9 (.pointer (some p))).run Try.prog W = .ok v W := by simp [go_sem, h]
theorem load_q (p : Addr) (v : Value) (W : World) (h : W.cell? p = some v) : (Instr.loadAt 47 (.pointer (some p))).run Try.prog W = .ok v W := by simp [go_sem, h]
theorem load_nd (b o : Nat) (u v : Value) (W : World) (h0 : W.cell? ⟨b, o, none⟩ = some u) (h1 : W.cell? ⟨b, o + 1, none⟩ = some v) : (Instr.loadAt 45 (.pointer (some ⟨b, o, none⟩))).run Try.prog W = .ok (.agg #[u, v]) W := by simp [go_sem, h0, h1]
set_option maxRecDepth 100000 in
set_option maxHeartbeats 1000000 in
theorem ndCmp_any (w : World) (a b : ByteArray) (x y : Int) :
    Calls Try.prog 56 #[.agg #[.string a, .int .i64 x], .agg #[.string b, .int .i64 y]] w fun e w' => e = .returned (.int .i64 (ndCmp (a, x) (b, y))) ∧ Below w.heap.size w w' := by
  have hX : ((w.alloc (.cells #[.string a, .int .i64 x] 45)).alloc (.cells #[.string b, .int .i64 y] 45)).heap[w.heap.size]? = some (.cells #[.string a, .int .i64 x] 45 (0, 0)) := (Below.heap_alloc _ _ _ (by simp)).trans (heap_alloc_new _ _)
  have hY : ((w.alloc (.cells #[.string a, .int .i64 x] 45)).alloc (.cells #[.string b, .int .i64 y] 45)).heap[w.heap.size + 1]? = some (.cells #[.string b, .int .i64 y] 45 (0, 0)) := by rw [← World.size_alloc w (.cells #[.string a, .int .i64 x] 45)]; exact heap_alloc_new _ _
  have hb : Below w.heap.size w ((w.alloc (.cells #[.string a, .int .i64 x] 45)).alloc (.cells #[.string b, .int .i64 y] 45)) := ((Below.refl _ _).alloc (Nat.le_refl _) _).alloc (by simp) _
  go_enter Try.func56, Try.ntmps56
  go_wp2_with fail
  refine wp_region_tree [] (.free 0 (.free 1 (.free 2 (.free 3 (.free 5 (.free 6 (.free 7 (.free 8 (.eff 4 (.eff 9 (.eff 10 (.eff 11 (.free 12 (.nil)))))))))))))) (by kernel_rfl) (by kernel_rfl) (fun _ _ d _ _ h => by cases d <;> exact h) ?_
  obtain ⟨W, hW⟩ : ∃ W, W = ((w.alloc (.cells #[.string a, .int .i64 x] 45)).alloc (.cells #[.string b, .int .i64 y] 45)).drew := ⟨_, rfl⟩
  rw [← hW]
  have hX : W.heap[w.heap.size]? = some (.cells #[.string a, .int .i64 x] 45 (0, 0)) := by rw [hW]; exact hX
  have hY : W.heap[w.heap.size + 1]? = some (.cells #[.string b, .int .i64 y] 45 (0, 0)) := by rw [hW]; exact hY
  have hb : Below w.heap.size w W := hW ▸ hb.drew
  clear hW
  have hXl := (Array.getElem?_eq_some_iff.1 hX).1
  have hYl := (Array.getElem?_eq_some_iff.1 hY).1
  obtain ⟨x0, x1⟩ := two2 hX
  obtain ⟨y0, y1⟩ := two2 hY
  conv => arg 4; whnf
  conv => arg 4; arg 1; whnf
  refine pt_free (by rfl) (fun K hK => ?_)
  go_big_quiet_op
  first | (refine hK _ ?_; clear hK K) | (refine ⟨_, fun _ _ => rfl, hK _ ?_⟩; clear hK K)
  conv => arg 4; whnf
  conv => arg 4; arg 1; whnf
  refine pt_load (fun W h => load_i _ _ W h) (p := ⟨w.heap.size + 1, 1, none⟩) y1 hYl (by rfl) rfl rfl ?_
  simp only [Act.put, List.setIfInBounds_toArray, List.set_cons_zero, List.set_cons_succ]
  conv => arg 4; whnf
  conv => arg 4; arg 1; whnf
  refine pt_free (by rfl) (fun K hK => ?_)
  go_big_quiet_op
  first | (refine hK _ ?_; clear hK K) | (refine ⟨_, fun _ _ => rfl, hK _ ?_⟩; clear hK K)
  conv => arg 4; whnf
  conv => arg 4; arg 1; whnf
  refine pt_load (fun W h => load_i _ _ W h) (p := ⟨w.heap.size, 1, none⟩) x1 hXl (by rfl) rfl rfl ?_
  simp only [Act.put, List.setIfInBounds_toArray, List.set_cons_zero, List.set_cons_succ]
  conv => arg 4; whnf
  conv => arg 4; arg 1; whnf
  refine pt_free (by rfl) (fun K hK => ?_)
  go_big_quiet_op
  first | (refine hK _ ?_; clear hK K) | (refine ⟨_, fun _ _ => rfl, hK _ ?_⟩; clear hK K)
  conv => arg 4; whnf
  conv => arg 4; arg 1; whnf
  refine pt_load (fun W h => load_s _ _ W h) (p := ⟨w.heap.size, 0, none⟩) x0 hXl (by rfl) rfl rfl ?_
  simp only [Act.put, List.setIfInBounds_toArray, List.set_cons_zero, List.set_cons_succ]
  conv => arg 4; whnf
  conv => arg 4; arg 1; whnf
  refine pt_free (by rfl) (fun K hK => ?_)
  go_big_quiet_op
  first | (refine hK _ ?_; clear hK K) | (refine ⟨_, fun _ _ => rfl, hK _ ?_⟩; clear hK K)
  conv => arg 4; whnf
  conv => arg 4; arg 1; whnf
  refine pt_load (fun W h => load_s _ _ W h) (p := ⟨w.heap.size + 1, 0, none⟩) y0 hYl (by rfl) rfl rfl ?_
  simp only [Act.put, List.setIfInBounds_toArray, List.set_cons_zero, List.set_cons_succ]
  clear x0 x1 y0 y1 hX hY hXl hYl
  conv => arg 4; whnf
  conv => arg 4; arg 1; whnf
  refine pt_eff (by rfl) (fun K hK => ?_)
  go_wp2_with fail
  refine (cmpInt_any _ y x).mono ?_
  rintro e w1 ⟨rfl, h1⟩
  refine hK _ _ h1 ?_
  clear hK K
  have hb1 := hb.trans (h1.mono hb.size)
  clear h1 hb
  conv => arg 4; whnf
  conv => arg 4; arg 1; whnf
  refine pt_eff (by rfl) (fun K hK => ?_)
  go_wp2_with fail
  refine (cmpStr_any _ a b).mono ?_
  rintro e w2 ⟨rfl, h1⟩
  refine hK _ _ h1 ?_
  clear hK K
  have hb2 := hb1.trans (h1.mono hb1.size)
  clear h1 hb1
  conv => arg 4; whnf
  conv => arg 4; arg 1; whnf
  refine pt_eff (by rfl) (fun K hK => ?_)
  go_wp2
  have h1 : Ext w2 (w2.alloc (.cells #[.int .i64 (icmp y x), .int .i64 (scmp a b)] 3)) := (Below.refl _ _).alloc (Nat.le_refl _) _
  have hA : At1 vInt (w2.alloc (.cells #[.int .i64 (icmp y x), .int .i64 (scmp a b)] 3)) (some ⟨w2.heap.size, 0, none⟩) [icmp y x, scmp a b] := at1_lit (by simp) (heap_alloc_new w2 _) (fun i u hu => by
    rcases i with _ | _ | i
    · simp at hu; subst hu; rfl
    · simp at hu; subst hu; rfl
    · simp at hu)
  refine hK _ _ h1 ?_
  clear hK K
  have hb3 := hb2.trans (h1.mono hb2.size)
  clear h1 hb2
  conv => arg 4; whnf
  conv => arg 4; arg 1; whnf
  refine pt_eff (by rfl) (fun K hK => ?_)
  go_wp2_with fail
  refine (or_any _ _ 2 [icmp y x, scmp a b] hA).mono ?_
  rintro e w4 ⟨rfl, h1⟩
  refine hK _ _ h1 ?_
  clear hK K
  have hb4 := hb3.trans (h1.mono hb3.size)
  clear h1 hb3 hA
  conv => arg 4; whnf
  conv => arg 4; arg 1; whnf
  refine pt_free (by rfl) (fun K hK => ?_)
  go_big_quiet_op
  first | (refine hK _ ?_; clear hK K) | (refine ⟨_, fun _ _ => rfl, hK _ ?_⟩; clear hK K)
  refine pt_nil ?_
  go_wp2
  go_ret
  exact ⟨rfl, hb4⟩
end Go.Proofs.Ytfhgnolfhiffbaa
