/- deps.Cmp. Written by dcmpgen.py. -/
import Derived.Test.YtgminjlnnpaefaaGreatDoorPCmp
import Derived.Test.YtgminjlnnpaefaaGreatDoorPlanT
import Derived.BigQuiet
namespace Go.Proofs.YtgminjlnnpaefaaGreatDoor
open Go.RowKit
/-- spots -/
def spcmp : (ByteArray × Int × Int) → (ByteArray × Int × Int) → Int := lex scmp (lex icmp icmp)
theorem spcmp3 : Cmp3 spcmp := scmp3.lex (icmp3.lex icmp3)
theorem firstOf_spcmp (a b : ByteArray × Int × Int) : firstOf [scmp a.1 b.1, icmp a.2.1 b.2.1, icmp a.2.2 b.2.2] = spcmp a b := by
  show (if scmp a.1 b.1 ≠ 0 then scmp a.1 b.1 else if icmp a.2.1 b.2.1 ≠ 0 then icmp a.2.1 b.2.1 else if icmp a.2.2 b.2.2 ≠ 0 then icmp a.2.2 b.2.2 else 0) = (if scmp a.1 b.1 ≠ 0 then scmp a.1 b.1 else if icmp a.2.1 b.2.1 ≠ 0 then icmp a.2.1 b.2.1 else icmp a.2.2 b.2.2)
  by_cases h : icmp a.2.2 b.2.2 ≠ 0
  · rw [if_pos h]
  · rw [if_neg h]
    have : icmp a.2.2 b.2.2 = 0 := by omega
    rw [this]
theorem cells3 {w1 : World} {g : Nat} {a b c : Value} {t : TypeId} {fr : Nat × Nat} (z : w1.heap[g]? = some (.cells #[a, b, c] t fr)) : w1.cell? ⟨g, 0, none⟩ = some a ∧ w1.cell? ⟨g, 1, none⟩ = some b ∧ w1.cell? ⟨g, 2, none⟩ = some c := by simp [World.cell?, z]
theorem load_int (p : Addr) (v : Value) (W : World) (h : W.cell? p = some v) : (Instr.loadAt 3 (.pointer (some p))).run Tryz.prog W = .ok v W := by simp [go_sem, h]
theorem load_str (p : Addr) (v : Value) (W : World) (h : W.cell? p = some v) : (Instr.loadAt 9 (.pointer (some p))).run Tryz.prog W = .ok v W := by simp [go_sem, h]
set_option maxRecDepth 100000 in
set_option maxHeartbeats 2000000 in
theorem dcmp_any (w : World) (s t : ByteArray) (n k n2 k2 : Int) :
    Calls Tryz.prog 5 #[.agg #[.string s, .int .i64 n, .int .i64 k], .agg #[.string t, .int .i64 n2, .int .i64 k2]] w fun e w' => e = .returned (.int .i64 (spcmp (s, n, k) (t, n2, k2))) ∧ Below w.heap.size w w' := by
  have hpost := firstOf_spcmp (s, n, k) (t, n2, k2)
  have HP := Lib.hid hpost
  clear hpost
  go_enter Tryz.func5, Tryz.ntmps5
  go_wp2_with fail
  obtain ⟨W, hW⟩ : ∃ W, W = ((w.alloc (.cells #[.string s, .int .i64 n, .int .i64 k] 23)).alloc (.cells #[.string t, .int .i64 n2, .int .i64 k2] 23)) := ⟨_, rfl⟩
  have hs0 := heap_alloc_new w (.cells #[.string s, .int .i64 n, .int .i64 k] 23)
  have hs1 := heap_alloc_new (w.alloc (.cells #[.string s, .int .i64 n, .int .i64 k] 23)) (.cells #[.string t, .int .i64 n2, .int .i64 k2] 23)
  rw [World.size_alloc] at hs1
  have hX : W.heap[w.heap.size]? = some (.cells #[.string s, .int .i64 n, .int .i64 k] 23 (0, 0)) := by rw [hW]; exact (Below.heap_alloc _ _ _ (by simp; try omega)).trans (hs0)
  have hY : W.heap[w.heap.size + 1]? = some (.cells #[.string t, .int .i64 n2, .int .i64 k2] 23 (0, 0)) := by rw [hW]; exact hs1
  have hsW : W.heap.size = w.heap.size + 2 := by rw [hW]; simp
  have hbW : Below w.heap.size w W := by rw [hW]; exact ((Below.refl _ _).alloc (Nat.le_refl _) _).alloc (by simp; try omega) _
  rw [← hW]
  clear hW hs0 hs1
  refine wp_region_tree [] (.free 0 (.free 1 (.free 2 (.free 3 (.free 5 (.free 6 (.free 7 (.free 8 (.free 10 (.free 11 (.free 12 (.free 13 (.eff 4 (.eff 9 (.eff 14 (.eff 15 (.eff 16 (.free 17 .nil)))))))))))))))))) (by kernel_rfl) (by kernel_rfl) (fun _ _ d _ _ h => by cases d <;> exact h) ?_
  have hbw := hbW.drew
  have hX : W.drew.heap[w.heap.size]? = _ := hX
  have hY : W.drew.heap[w.heap.size + 1]? = _ := hY
  clear hbW hsW
  generalize W.drew = wv at *
  have hXl : w.heap.size < wv.heap.size := (Array.getElem?_eq_some_iff.1 hX).1
  have hYl : w.heap.size + 1 < wv.heap.size := (Array.getElem?_eq_some_iff.1 hY).1
  obtain ⟨a0, a1, a2⟩ := cells3 hX
  obtain ⟨b0, b1, b2⟩ := cells3 hY
  conv => arg 4; whnf
  conv => arg 4; arg 1; whnf
  refine pt_free (by rfl) (fun K hK => ?_)
  go_big_quiet_op
  first | (refine hK _ ?_; clear hK K) | (refine ⟨_, fun _ _ => rfl, hK _ ?_⟩; clear hK K)
  conv => arg 4; whnf
  conv => arg 4; arg 1; whnf
  refine pt_load (fun W h => load_str _ _ W h) (p := ⟨w.heap.size, 0, none⟩) a0 hXl (by rfl) rfl rfl ?_
  simp only [Act.put, List.setIfInBounds_toArray, List.set_cons_zero, List.set_cons_succ]
  conv => arg 4; whnf
  conv => arg 4; arg 1; whnf
  refine pt_free (by rfl) (fun K hK => ?_)
  go_big_quiet_op
  first | (refine hK _ ?_; clear hK K) | (refine ⟨_, fun _ _ => rfl, hK _ ?_⟩; clear hK K)
  conv => arg 4; whnf
  conv => arg 4; arg 1; whnf
  refine pt_load (fun W h => load_str _ _ W h) (p := ⟨w.heap.size + 1, 0, none⟩) b0 hYl (by rfl) rfl rfl ?_
  simp only [Act.put, List.setIfInBounds_toArray, List.set_cons_zero, List.set_cons_succ]
  conv => arg 4; whnf
  conv => arg 4; arg 1; whnf
  refine pt_free (by rfl) (fun K hK => ?_)
  go_big_quiet_op
  first | (refine hK _ ?_; clear hK K) | (refine ⟨_, fun _ _ => rfl, hK _ ?_⟩; clear hK K)
  conv => arg 4; whnf
  conv => arg 4; arg 1; whnf
  refine pt_load (fun W h => load_int _ _ W h) (p := ⟨w.heap.size, 1, none⟩) a1 hXl (by rfl) rfl rfl ?_
  simp only [Act.put, List.setIfInBounds_toArray, List.set_cons_zero, List.set_cons_succ]
  conv => arg 4; whnf
  conv => arg 4; arg 1; whnf
  refine pt_free (by rfl) (fun K hK => ?_)
  go_big_quiet_op
  first | (refine hK _ ?_; clear hK K) | (refine ⟨_, fun _ _ => rfl, hK _ ?_⟩; clear hK K)
  conv => arg 4; whnf
  conv => arg 4; arg 1; whnf
  refine pt_load (fun W h => load_int _ _ W h) (p := ⟨w.heap.size + 1, 1, none⟩) b1 hYl (by rfl) rfl rfl ?_
  simp only [Act.put, List.setIfInBounds_toArray, List.set_cons_zero, List.set_cons_succ]
  conv => arg 4; whnf
  conv => arg 4; arg 1; whnf
  refine pt_free (by rfl) (fun K hK => ?_)
  go_big_quiet_op
  first | (refine hK _ ?_; clear hK K) | (refine ⟨_, fun _ _ => rfl, hK _ ?_⟩; clear hK K)
  conv => arg 4; whnf
  conv => arg 4; arg 1; whnf
  refine pt_load (fun W h => load_int _ _ W h) (p := ⟨w.heap.size, 2, none⟩) a2 hXl (by rfl) rfl rfl ?_
  simp only [Act.put, List.setIfInBounds_toArray, List.set_cons_zero, List.set_cons_succ]
  conv => arg 4; whnf
  conv => arg 4; arg 1; whnf
  refine pt_free (by rfl) (fun K hK => ?_)
  go_big_quiet_op
  first | (refine hK _ ?_; clear hK K) | (refine ⟨_, fun _ _ => rfl, hK _ ?_⟩; clear hK K)
  conv => arg 4; whnf
  conv => arg 4; arg 1; whnf
  refine pt_load (fun W h => load_int _ _ W h) (p := ⟨w.heap.size + 1, 2, none⟩) b2 hYl (by rfl) rfl rfl ?_
  simp only [Act.put, List.setIfInBounds_toArray, List.set_cons_zero, List.set_cons_succ]
  clear a0 a1 a2 b0 b1 b2 hX hY hXl hYl
  conv => arg 4; whnf
  conv => arg 4; arg 1; whnf
  refine pt_eff (by rfl) (fun K hK => ?_)
  go_wp2_with fail
  refine (cmpStr_any _ s t).mono ?_
  rintro en wn ⟨rfl, hbn⟩
  refine hK _ _ hbn ?_
  clear hK K
  have hbw := hbw.trans (hbn.mono hbw.size)
  clear hbn
  generalize wn = wv at *
  conv => arg 4; whnf
  conv => arg 4; arg 1; whnf
  refine pt_eff (by rfl) (fun K hK => ?_)
  go_wp2_with fail
  refine (cmpInt_any _ n n2).mono ?_
  rintro en wn ⟨rfl, hbn⟩
  refine hK _ _ hbn ?_
  clear hK K
  have hbw := hbw.trans (hbn.mono hbw.size)
  clear hbn
  generalize wn = wv at *
  conv => arg 4; whnf
  conv => arg 4; arg 1; whnf
  refine pt_eff (by rfl) (fun K hK => ?_)
  go_wp2_with fail
  refine (cmpInt_any _ k k2).mono ?_
  rintro en wn ⟨rfl, hbn⟩
  refine hK _ _ hbn ?_
  clear hK K
  have hbw := hbw.trans (hbn.mono hbw.size)
  clear hbn
  generalize wn = wv at *
  conv => arg 4; whnf
  conv => arg 4; arg 1; whnf
  refine pt_eff (by rfl) (fun K hK => ?_)
  go_wp2_with fail
  refine hK _ _ ((Below.refl _ _).alloc (Nat.le_refl _) _) ?_
  clear hK K
  have hz := heap_alloc_new wv (.cells #[.int .i64 (scmp s t), .int .i64 (icmp n n2), .int .i64 (icmp k k2)] 3)
  have hA : At1 vInt (wv.alloc (.cells #[.int .i64 (scmp s t), .int .i64 (icmp n n2), .int .i64 (icmp k k2)] 3)) (some ⟨wv.heap.size, 0, none⟩) [scmp s t, icmp n n2, icmp k k2] := at1_lit (by simp) hz (fun i x hx => by rcases i with _ | _ | _ | i <;> simp at hx <;> (subst hx; rfl))
  have hbw := hbw.alloc hbw.size (.cells #[.int .i64 (scmp s t), .int .i64 (icmp n n2), .int .i64 (icmp k k2)] 3)
  clear hz
  generalize wv.alloc (.cells #[.int .i64 (scmp s t), .int .i64 (icmp n n2), .int .i64 (icmp k k2)] 3) = wn at *
  conv => arg 4; whnf
  conv => arg 4; arg 1; whnf
  refine pt_eff (by rfl) (fun K hK => ?_)
  go_wp2_with fail
  refine (or_any _ _ 3 _ hA).mono ?_
  rintro en wm ⟨rfl, hbn⟩
  refine hK _ _ hbn ?_
  clear hK K
  have hbw := hbw.trans (hbn.mono hbw.size)
  conv => arg 4; whnf
  conv => arg 4; arg 1; whnf
  refine pt_free (by rfl) (fun K hK => ?_)
  go_big_quiet_op
  first | (refine hK _ ?_; clear hK K) | (refine ⟨_, fun _ _ => rfl, hK _ ?_⟩; clear hK K)
  refine pt_nil ?_
  go_wp2
  go_ret
  exact ⟨by rw [HP.out]; rfl, hbw⟩
end Go.Proofs.YtgminjlnnpaefaaGreatDoor
