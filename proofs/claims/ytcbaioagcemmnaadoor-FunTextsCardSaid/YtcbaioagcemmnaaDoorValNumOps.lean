/- The walks of val's four operators. -/
import Derived.Test.YtcbaioagcemmnaaDoorValTwo
import Derived.Test.YtcbaioagcemmnaaDoorValPlain
import Derived.Test.YtcbaioagcemmnaaDoorPlanT
namespace Go.Proofs.YtcbaioagcemmnaaDoor
open Go.RowKit Go.Maps
theorem load_int (p : Addr) (v : Value) (W : World) (h : W.cell? p = some v) : (Instr.loadAt 3 (.pointer (some p))).run Tryd.prog W = .ok v W := by simp [go_sem, h]
theorem zf2 {w1 : World} {g : Nat} {a b : Value} {t : TypeId} (z : w1.heap[g]? = some (.cells #[a, b] t (0, 0))) : w1.cell? ⟨g, 0, none⟩ = some a ∧ w1.cell? ⟨g, 1, none⟩ = some b := ⟨by simp [World.cell?, z], by simp [World.cell?, z]⟩
theorem add_ok (w : World) (x y : Int) (hx : InR x) (hy : InR y) : Calls Tryd.prog 53 #[.agg #[.int .i64 x, .int .i64 y]] w fun e w' =>
    e = .returned (.tuple #[.int .i64 (wrap64 (x + y)), .bool (decide (InR (x + y)))]) ∧ Below w.heap.size w w' := by
  rw [← sum_ok hx hy]; exact add_any w x y
set_option maxRecDepth 100000 in
theorem sub_ok (w : World) (x y : Int) (hx : InR x) (hy : InR y) : Calls Tryd.prog 54 #[.agg #[.int .i64 x, .int .i64 y]] w fun e w' =>
    e = .returned (.tuple #[.int .i64 (wrap64 (x - y)), .bool (decide (InR (x - y)))]) ∧ Below w.heap.size w w' := by
  rw [← dif_ok hx hy]
  clear hx hy
  go_enter Tryd.func54, Tryd.ntmps54
  go_wp2
  go_quiet (fail)
  go_wp2
  go_ret2
  exact ⟨rfl, below_drewN ((Below.refl _ _).alloc (Nat.le_refl _) _) _⟩
set_option maxRecDepth 100000 in
theorem mul_ok (w : World) (x y : Int) (hx : InR x) (hy : InR y) : Calls Tryd.prog 55 #[.agg #[.int .i64 x, .int .i64 y]] w fun e w' =>
    e = .returned (.tuple #[.int .i64 (wrap64 (x * y)), .bool (decide (InR (x * y)))]) ∧ Below w.heap.size w w' := by
  by_cases hz : x = 0 ∨ y = 0
  · have hz0 : x * y = 0 := by rcases hz with rfl | rfl <;> simp
    rw [hz0, show wrap64 0 = 0 from IntWalk.wrap64_in _ (by omega), show decide (InR 0) = true from rfl]
    rcases hz with rfl | rfl
    · go_enter Tryd.func55, Tryd.ntmps55
      go_wp2
      go_ret2
      exact ⟨rfl, (Below.refl _ _).alloc (Nat.le_refl _) _⟩
    · go_enter Tryd.func55, Tryd.ntmps55
      go_wp2
      all_goals (go_ret2; exact ⟨rfl, (Below.refl _ _).alloc (Nat.le_refl _) _⟩)
  · have hx0 : x ≠ 0 := fun e => hz (.inl e)
    have hy0 : y ≠ 0 := fun e => hz (.inr e)
    have hxd : decide (x = 0) = false := decide_eq_false hx0
    have hyd : decide (y = 0) = false := decide_eq_false hy0
    have hok := Lib.hid (prod_ok hx0 hy0 hx hy)
    clear hz hx hy
    go_enter Tryd.func55, Tryd.ntmps55
    go_wp2
    · exfalso
      rename_i h
      rcases h with h | h
      · exact hx0 (by simpa using h)
      · exact hy0 (by simpa using h)
    · obtain ⟨p, hp⟩ : ∃ p, wrap64 (x * y) = p := ⟨_, rfl⟩
      rw [hp] at hok
      obtain ⟨Q, hQ⟩ : ∃ Q, wrap64 (p.tdiv y) = Q := ⟨_, rfl⟩
      rw [hQ] at hok
      obtain ⟨W, hW⟩ : ∃ W, W = (w.alloc (.cells #[.int .i64 x, .int .i64 y] 74)) := ⟨_, rfl⟩
      have hs0 := heap_alloc_new w (.cells #[.int .i64 x, .int .i64 y] 74)
      have hX : W.heap[w.heap.size]? = some (.cells #[.int .i64 x, .int .i64 y] 74 (0, 0)) := by rw [hW]; exact hs0
      have hsW : W.heap.size = w.heap.size + 1 := by rw [hW]; simp
      have hbW : Below w.heap.size w W := by rw [hW]; exact (Below.refl _ _).alloc (Nat.le_refl _) _
      rw [← hW]
      clear hW hs0
      have hbw := hbW
      clear hbW hsW
      have HR : ∀ b : Bool, ((Q = x ∧ ¬ (y = -1 ∧ x = -9223372036854775808)) ↔ b = true) → Hid (Ending.returned (.tuple #[.int .i64 p, .bool (decide (InR (x * y)))]) = .returned (.tuple #[.int .i64 p, .bool b])) := fun b h => by
        have e : decide (InR (x * y)) = b := by rw [Bool.eq_iff_iff, decide_eq_true_iff]; exact hok.out.symm.trans h
        rw [e]; exact rfl
      have HM := hok
      clear hok hx0
      have HRR := Lib.hid HR
      clear HR
      rw [hp]
      by_cases h1 : Q = x
      · by_cases h2 : x = -1
        · have h3 : ¬ y = -9223372036854775808 := by rintro rfl; subst h2; rw [← hp] at hQ; rw [← hQ] at h1; revert h1; decide +kernel
          have h4 : ¬ x = -9223372036854775808 := by omega
          have hres := (HRR.out true (by simp [h1, h4])).out
          clear HRR HM
          have q1 : (Q == x) = true := by simpa using h1
          have q2 : (x == -1) = true := by simpa using h2
          have q3 : (y == -9223372036854775808) = false := by simpa using h3
          have q4 : (x == -9223372036854775808) = false := by simpa using h4
          by_cases h5 : y = -1
          · have q5 : (y == -1) = true := by simpa using h5
            clear h1 h2 h3 h4 h5
            refine wp_region_tree [] (.free 0 (.free 1 (.free 2 (.free 3 (.free 4 (.free 5 (.free 6 (.free 7 (.free 8 (.free 9 (.free 10 (.free 11 (.free 12 (.free 13 (.free 14 (.free 15 (.free 16 (.free 17 (.free 18 (.free 19 (.free 20 (.free 21 (.free 22 (.free 23 (.free 24 (.free 25 (.free 26 (.free 27 (.free 28 (.free 29 (.free 30 (.free 31 .nil)))))))))))))))))))))))))))))))) (by kernel_rfl) (by kernel_rfl) (fun _ _ d _ _ h => by cases d <;> exact h) ?_
            obtain ⟨c0, c1⟩ := zf2 hX
            have hbw := hbw.drew
            have c0 : W.drew.cell? ⟨w.heap.size, 0, none⟩ = _ := c0
            have c1 : W.drew.cell? ⟨w.heap.size, 1, none⟩ = _ := c1
            have hXl : w.heap.size < W.drew.heap.size := (Array.getElem?_eq_some_iff.1 hX).1
            generalize W.drew = wv at *
            conv => arg 4; whnf
            conv => arg 4; arg 1; whnf
            refine pt_free (by rfl) (fun K hK => ?_)
            go_big_quiet_op
            first | (refine hK _ ?_; clear hK K) | (refine ⟨_, fun _ _ => rfl, hK _ ?_⟩; clear hK K)
            conv => arg 4; whnf
            conv => arg 4; arg 1; whnf
            refine pt_free (by rfl) (fun K hK => ?_)
            go_big_quiet_op
            first | (refine hK _ ?_; clear hK K) | (refine ⟨_, fun _ _ => rfl, hK _ ?_⟩; clear hK K)
            conv => arg 4; whnf
            conv => arg 4; arg 1; whnf
            refine pt_free (by rfl) (fun K hK => ?_)
            go_big_quiet_op
            first | (refine hK _ ?_; clear hK K) | (refine ⟨_, fun _ _ => rfl, hK _ ?_⟩; clear hK K)
            conv => arg 4; whnf
            conv => arg 4; arg 1; whnf
            refine pt_load (fun W h => load_int _ _ W h) (p := ⟨w.heap.size, 1, none⟩) c1 hXl (by rfl) rfl rfl ?_
            simp only [Act.put, List.setIfInBounds_toArray, List.set_cons_zero, List.set_cons_succ]
            conv => arg 4; whnf
            conv => arg 4; arg 1; whnf
            refine pt_free (by rfl) (fun K hK => ?_)
            go_big_quiet_op
            first | (refine hK _ ?_; clear hK K) | (refine ⟨_, fun _ _ => rfl, hK _ ?_⟩; clear hK K)
            conv => arg 4; whnf
            conv => arg 4; arg 1; whnf
            refine pt_free (by rfl) (fun K hK => ?_)
            go_big_quiet_op
            first | (refine hK _ ?_; clear hK K) | (refine ⟨_, fun _ _ => rfl, hK _ ?_⟩; clear hK K)
            conv => arg 4; whnf
            conv => arg 4; arg 1; whnf
            refine pt_load (fun W h => load_int _ _ W h) (p := ⟨w.heap.size, 0, none⟩) c0 hXl (by rfl) rfl rfl ?_
            simp only [Act.put, List.setIfInBounds_toArray, List.set_cons_zero, List.set_cons_succ]
            conv => arg 4; whnf
            conv => arg 4; arg 1; whnf
            refine pt_free (by rfl) (fun K hK => ?_)
            go_big_quiet_op
            first | (refine hK _ ?_; clear hK K) | (refine ⟨_, fun _ _ => rfl, hK _ ?_⟩; clear hK K)
            conv => arg 4; whnf
            conv => arg 4; arg 1; whnf
            refine pt_free (by rfl) (fun K hK => ?_)
            go_big_quiet_op
            first | (refine hK _ ?_; clear hK K) | (refine ⟨_, fun _ _ => rfl, hK _ ?_⟩; clear hK K)
            conv => arg 4; whnf
            conv => arg 4; arg 1; whnf
            refine pt_free (by rfl) (fun K hK => ?_)
            go_big_quiet_op
            first | (refine hK _ ?_; clear hK K) | (refine ⟨_, fun _ _ => rfl, hK _ ?_⟩; clear hK K)
            conv => arg 4; whnf
            conv => arg 4; arg 1; whnf
            refine pt_load (fun W h => load_int _ _ W h) (p := ⟨w.heap.size, 0, none⟩) c0 hXl (by rfl) rfl rfl ?_
            simp only [Act.put, List.setIfInBounds_toArray, List.set_cons_zero, List.set_cons_succ]
            conv => arg 4; whnf
            conv => arg 4; arg 1; whnf
            refine pt_free (by rfl) (fun K hK => ?_)
            go_big_quiet_op
            first | (refine hK _ ?_; clear hK K) | (refine ⟨_, fun _ _ => rfl, hK _ ?_⟩; clear hK K)
            conv => arg 4; whnf
            conv => arg 4; arg 1; whnf
            refine pt_free (by rfl) (fun K hK => ?_)
            go_big_quiet_op
            first | (refine hK _ ?_; clear hK K) | (refine ⟨_, fun _ _ => rfl, hK _ ?_⟩; clear hK K)
            conv => arg 4; whnf
            conv => arg 4; arg 1; whnf
            refine pt_free (by rfl) (fun K hK => ?_)
            go_big_quiet_op
            first | (refine hK _ ?_; clear hK K) | (refine ⟨_, fun _ _ => rfl, hK _ ?_⟩; clear hK K)
            conv => arg 4; whnf
            conv => arg 4; arg 1; whnf
            refine pt_load (fun W h => load_int _ _ W h) (p := ⟨w.heap.size, 1, none⟩) c1 hXl (by rfl) rfl rfl ?_
            simp only [Act.put, List.setIfInBounds_toArray, List.set_cons_zero, List.set_cons_succ]
            conv => arg 4; whnf
            conv => arg 4; arg 1; whnf
            refine pt_free (by rfl) (fun K hK => ?_)
            go_big_quiet_op
            first | (refine hK _ ?_; clear hK K) | (refine ⟨_, fun _ _ => rfl, hK _ ?_⟩; clear hK K)
            conv => arg 4; whnf
            conv => arg 4; arg 1; whnf
            refine pt_free (by rfl) (fun K hK => ?_)
            go_big_quiet_op
            first | (refine hK _ ?_; clear hK K) | (refine ⟨_, fun _ _ => rfl, hK _ ?_⟩; clear hK K)
            conv => arg 4; whnf
            conv => arg 4; arg 1; whnf
            refine pt_free (by rfl) (fun K hK => ?_)
            go_big_quiet_op
            first | (refine hK _ ?_; clear hK K) | (refine ⟨_, fun _ _ => rfl, hK _ ?_⟩; clear hK K)
            conv => arg 4; whnf
            conv => arg 4; arg 1; whnf
            refine pt_free (by rfl) (fun K hK => ?_)
            go_big_quiet_op
            first | (refine hK _ ?_; clear hK K) | (refine ⟨_, fun _ _ => rfl, hK _ ?_⟩; clear hK K)
            conv => arg 4; whnf
            conv => arg 4; arg 1; whnf
            refine pt_free (by rfl) (fun K hK => ?_)
            go_big_quiet_op
            first | (refine hK _ ?_; clear hK K) | (refine ⟨_, fun _ _ => rfl, hK _ ?_⟩; clear hK K)
            conv => arg 4; whnf
            conv => arg 4; arg 1; whnf
            refine pt_free (by rfl) (fun K hK => ?_)
            go_big_quiet_op
            first | (refine hK _ ?_; clear hK K) | (refine ⟨_, fun _ _ => rfl, hK _ ?_⟩; clear hK K)
            conv => arg 4; whnf
            conv => arg 4; arg 1; whnf
            refine pt_load (fun W h => load_int _ _ W h) (p := ⟨w.heap.size, 1, none⟩) c1 hXl (by rfl) rfl rfl ?_
            simp only [Act.put, List.setIfInBounds_toArray, List.set_cons_zero, List.set_cons_succ]
            conv => arg 4; whnf
            conv => arg 4; arg 1; whnf
            refine pt_free (by rfl) (fun K hK => ?_)
            go_big_quiet_op
            first | (refine hK _ ?_; clear hK K) | (refine ⟨_, fun _ _ => rfl, hK _ ?_⟩; clear hK K)
            conv => arg 4; whnf
            conv => arg 4; arg 1; whnf
            refine pt_free (by rfl) (fun K hK => ?_)
            go_big_quiet_op
            first | (refine hK _ ?_; clear hK K) | (refine ⟨_, fun _ _ => rfl, hK _ ?_⟩; clear hK K)
            conv => arg 4; whnf
            conv => arg 4; arg 1; whnf
            refine pt_free (by rfl) (fun K hK => ?_)
            go_big_quiet_op
            first | (refine hK _ ?_; clear hK K) | (refine ⟨_, fun _ _ => rfl, hK _ ?_⟩; clear hK K)
            conv => arg 4; whnf
            conv => arg 4; arg 1; whnf
            refine pt_load (fun W h => load_int _ _ W h) (p := ⟨w.heap.size, 0, none⟩) c0 hXl (by rfl) rfl rfl ?_
            simp only [Act.put, List.setIfInBounds_toArray, List.set_cons_zero, List.set_cons_succ]
            conv => arg 4; whnf
            conv => arg 4; arg 1; whnf
            refine pt_free (by rfl) (fun K hK => ?_)
            go_big_quiet_op
            first | (refine hK _ ?_; clear hK K) | (refine ⟨_, fun _ _ => rfl, hK _ ?_⟩; clear hK K)
            conv => arg 4; whnf
            conv => arg 4; arg 1; whnf
            refine pt_free (by rfl) (fun K hK => ?_)
            go_big_quiet_op
            first | (refine hK _ ?_; clear hK K) | (refine ⟨_, fun _ _ => rfl, hK _ ?_⟩; clear hK K)
            conv => arg 4; whnf
            conv => arg 4; arg 1; whnf
            refine pt_free (by rfl) (fun K hK => ?_)
            go_big_quiet_op
            first | (refine hK _ ?_; clear hK K) | (refine ⟨_, fun _ _ => rfl, hK _ ?_⟩; clear hK K)
            conv => arg 4; whnf
            conv => arg 4; arg 1; whnf
            refine pt_free (by rfl) (fun K hK => ?_)
            go_big_quiet_op
            first | (refine hK _ ?_; clear hK K) | (refine ⟨_, fun _ _ => rfl, hK _ ?_⟩; clear hK K)
            conv => arg 4; whnf
            conv => arg 4; arg 1; whnf
            refine pt_free (by rfl) (fun K hK => ?_)
            go_big_quiet_op
            first | (refine hK _ ?_; clear hK K) | (refine ⟨_, fun _ _ => rfl, hK _ ?_⟩; clear hK K)
            conv => arg 4; whnf
            conv => arg 4; arg 1; whnf
            refine pt_free (by rfl) (fun K hK => ?_)
            go_big_quiet_op
            first | (refine hK _ ?_; clear hK K) | (refine ⟨_, fun _ _ => rfl, hK _ ?_⟩; clear hK K)
            refine pt_nil ?_
            go_wp2
            refine bodyPost_ret (v := .tuple #[.int .i64 p, .bool true]) ?_ rfl ⟨by rw [hp, hres], hbw⟩
            simp [results, Tryd.f55, go_sem]
          · have q5 : (y == -1) = false := by simpa using h5
            clear h1 h2 h3 h4 h5
            refine wp_region_tree [] (.free 0 (.free 1 (.free 2 (.free 3 (.free 4 (.free 5 (.free 6 (.free 7 (.free 8 (.free 9 (.free 10 (.free 11 (.free 12 (.free 13 (.free 14 (.free 15 (.free 16 (.free 17 (.free 18 (.free 19 (.free 20 (.free 21 (.free 22 (.free 23 (.free 24 (.free 25 (.free 26 (.free 27 (.free 28 (.free 29 (.free 30 (.free 31 .nil)))))))))))))))))))))))))))))))) (by kernel_rfl) (by kernel_rfl) (fun _ _ d _ _ h => by cases d <;> exact h) ?_
            obtain ⟨c0, c1⟩ := zf2 hX
            have hbw := hbw.drew
            have c0 : W.drew.cell? ⟨w.heap.size, 0, none⟩ = _ := c0
            have c1 : W.drew.cell? ⟨w.heap.size, 1, none⟩ = _ := c1
            have hXl : w.heap.size < W.drew.heap.size := (Array.getElem?_eq_some_iff.1 hX).1
            generalize W.drew = wv at *
            conv => arg 4; whnf
            conv => arg 4; arg 1; whnf
            refine pt_free (by rfl) (fun K hK => ?_)
            go_big_quiet_op
            first | (refine hK _ ?_; clear hK K) | (refine ⟨_, fun _ _ => rfl, hK _ ?_⟩; clear hK K)
            conv => arg 4; whnf
            conv => arg 4; arg 1; whnf
            refine pt_free (by rfl) (fun K hK => ?_)
            go_big_quiet_op
            first | (refine hK _ ?_; clear hK K) | (refine ⟨_, fun _ _ => rfl, hK _ ?_⟩; clear hK K)
            conv => arg 4; whnf
            conv => arg 4; arg 1; whnf
            refine pt_free (by rfl) (fun K hK => ?_)
            go_big_quiet_op
            first | (refine hK _ ?_; clear hK K) | (refine ⟨_, fun _ _ => rfl, hK _ ?_⟩; clear hK K)
            conv => arg 4; whnf
            conv => arg 4; arg 1; whnf
            refine pt_load (fun W h => load_int _ _ W h) (p := ⟨w.heap.size, 1, none⟩) c1 hXl (by rfl) rfl rfl ?_
            simp only [Act.put, List.setIfInBounds_toArray, List.set_cons_zero, List.set_cons_succ]
            conv => arg 4; whnf
            conv => arg 4; arg 1; whnf
            refine pt_free (by rfl) (fun K hK => ?_)
            go_big_quiet_op
            first | (refine hK _ ?_; clear hK K) | (refine ⟨_, fun _ _ => rfl, hK _ ?_⟩; clear hK K)
            conv => arg 4; whnf
            conv => arg 4; arg 1; whnf
            refine pt_free (by rfl) (fun K hK => ?_)
            go_big_quiet_op
            first | (refine hK _ ?_; clear hK K) | (refine ⟨_, fun _ _ => rfl, hK _ ?_⟩; clear hK K)
            conv => arg 4; whnf
            conv => arg 4; arg 1; whnf
            refine pt_load (fun W h => load_int _ _ W h) (p := ⟨w.heap.size, 0, none⟩) c0 hXl (by rfl) rfl rfl ?_
            simp only [Act.put, List.setIfInBounds_toArray, List.set_cons_zero, List.set_cons_succ]
            conv => arg 4; whnf
            conv => arg 4; arg 1; whnf
            refine pt_free (by rfl) (fun K hK => ?_)
            go_big_quiet_op
            first | (refine hK _ ?_; clear hK K) | (refine ⟨_, fun _ _ => rfl, hK _ ?_⟩; clear hK K)
            conv => arg 4; whnf
            conv => arg 4; arg 1; whnf
            refine pt_free (by rfl) (fun K hK => ?_)
            go_big_quiet_op
            first | (refine hK _ ?_; clear hK K) | (refine ⟨_, fun _ _ => rfl, hK _ ?_⟩; clear hK K)
            conv => arg 4; whnf
            conv => arg 4; arg 1; whnf
            refine pt_free (by rfl) (fun K hK => ?_)
            go_big_quiet_op
            first | (refine hK _ ?_; clear hK K) | (refine ⟨_, fun _ _ => rfl, hK _ ?_⟩; clear hK K)
            conv => arg 4; whnf
            conv => arg 4; arg 1; whnf
            refine pt_load (fun W h => load_int _ _ W h) (p := ⟨w.heap.size, 0, none⟩) c0 hXl (by rfl) rfl rfl ?_
            simp only [Act.put, List.setIfInBounds_toArray, List.set_cons_zero, List.set_cons_succ]
            conv => arg 4; whnf
            conv => arg 4; arg 1; whnf
            refine pt_free (by rfl) (fun K hK => ?_)
            go_big_quiet_op
            first | (refine hK _ ?_; clear hK K) | (refine ⟨_, fun _ _ => rfl, hK _ ?_⟩; clear hK K)
            conv => arg 4; whnf
            conv => arg 4; arg 1; whnf
            refine pt_free (by rfl) (fun K hK => ?_)
            go_big_quiet_op
            first | (refine hK _ ?_; clear hK K) | (refine ⟨_, fun _ _ => rfl, hK _ ?_⟩; clear hK K)
            conv => arg 4; whnf
            conv => arg 4; arg 1; whnf
            refine pt_free (by rfl) (fun K hK => ?_)
            go_big_quiet_op
            first | (refine hK _ ?_; clear hK K) | (refine ⟨_, fun _ _ => rfl, hK _ ?_⟩; clear hK K)
            conv => arg 4; whnf
            conv => arg 4; arg 1; whnf
            refine pt_load (fun W h => load_int _ _ W h) (p := ⟨w.heap.size, 1, none⟩) c1 hXl (by rfl) rfl rfl ?_
            simp only [Act.put, List.setIfInBounds_toArray, List.set_cons_zero, List.set_cons_succ]
            conv => arg 4; whnf
            conv => arg 4; arg 1; whnf
            refine pt_free (by rfl) (fun K hK => ?_)
            go_big_quiet_op
            first | (refine hK _ ?_; clear hK K) | (refine ⟨_, fun _ _ => rfl, hK _ ?_⟩; clear hK K)
            conv => arg 4; whnf
            conv => arg 4; arg 1; whnf
            refine pt_free (by rfl) (fun K hK => ?_)
            go_big_quiet_op
            first | (refine hK _ ?_; clear hK K) | (refine ⟨_, fun _ _ => rfl, hK _ ?_⟩; clear hK K)
            conv => arg 4; whnf
            conv => arg 4; arg 1; whnf
            refine pt_free (by rfl) (fun K hK => ?_)
            go_big_quiet_op
            first | (refine hK _ ?_; clear hK K) | (refine ⟨_, fun _ _ => rfl, hK _ ?_⟩; clear hK K)
            conv => arg 4; whnf
            conv => arg 4; arg 1; whnf
            refine pt_free (by rfl) (fun K hK => ?_)
            go_big_quiet_op
            first | (refine hK _ ?_; clear hK K) | (refine ⟨_, fun _ _ => rfl, hK _ ?_⟩; clear hK K)
            conv => arg 4; whnf
            conv => arg 4; arg 1; whnf
            refine pt_free (by rfl) (fun K hK => ?_)
            go_big_quiet_op
            first | (refine hK _ ?_; clear hK K) | (refine ⟨_, fun _ _ => rfl, hK _ ?_⟩; clear hK K)
            conv => arg 4; whnf
            conv => arg 4; arg 1; whnf
            refine pt_free (by rfl) (fun K hK => ?_)
            go_big_quiet_op
            first | (refine hK _ ?_; clear hK K) | (refine ⟨_, fun _ _ => rfl, hK _ ?_⟩; clear hK K)
            conv => arg 4; whnf
            conv => arg 4; arg 1; whnf
            refine pt_load (fun W h => load_int _ _ W h) (p := ⟨w.heap.size, 1, none⟩) c1 hXl (by rfl) rfl rfl ?_
            simp only [Act.put, List.setIfInBounds_toArray, List.set_cons_zero, List.set_cons_succ]
            conv => arg 4; whnf
            conv => arg 4; arg 1; whnf
            refine pt_free (by rfl) (fun K hK => ?_)
            go_big_quiet_op
            first | (refine hK _ ?_; clear hK K) | (refine ⟨_, fun _ _ => rfl, hK _ ?_⟩; clear hK K)
            conv => arg 4; whnf
            conv => arg 4; arg 1; whnf
            refine pt_free (by rfl) (fun K hK => ?_)
            go_big_quiet_op
            first | (refine hK _ ?_; clear hK K) | (refine ⟨_, fun _ _ => rfl, hK _ ?_⟩; clear hK K)
            conv => arg 4; whnf
            conv => arg 4; arg 1; whnf
            refine pt_free_skip (by rfl) ?_
            simp only [Act.put, List.setIfInBounds_toArray, List.set_cons_zero, List.set_cons_succ]
            conv => arg 4; whnf
            conv => arg 4; arg 1; whnf
            refine pt_free_skip (by rfl) ?_
            simp only [Act.put, List.setIfInBounds_toArray, List.set_cons_zero, List.set_cons_succ]
            conv => arg 4; whnf
            conv => arg 4; arg 1; whnf
            refine pt_free_skip (by rfl) ?_
            simp only [Act.put, List.setIfInBounds_toArray, List.set_cons_zero, List.set_cons_succ]
            conv => arg 4; whnf
            conv => arg 4; arg 1; whnf
            refine pt_free (by rfl) (fun K hK => ?_)
            go_big_quiet_op
            first | (refine hK _ ?_; clear hK K) | (refine ⟨_, fun _ _ => rfl, hK _ ?_⟩; clear hK K)
            conv => arg 4; whnf
            conv => arg 4; arg 1; whnf
            refine pt_free (by rfl) (fun K hK => ?_)
            go_big_quiet_op
            first | (refine hK _ ?_; clear hK K) | (refine ⟨_, fun _ _ => rfl, hK _ ?_⟩; clear hK K)
            conv => arg 4; whnf
            conv => arg 4; arg 1; whnf
            refine pt_free (by rfl) (fun K hK => ?_)
            go_big_quiet_op
            first | (refine hK _ ?_; clear hK K) | (refine ⟨_, fun _ _ => rfl, hK _ ?_⟩; clear hK K)
            conv => arg 4; whnf
            conv => arg 4; arg 1; whnf
            refine pt_free (by rfl) (fun K hK => ?_)
            go_big_quiet_op
            first | (refine hK _ ?_; clear hK K) | (refine ⟨_, fun _ _ => rfl, hK _ ?_⟩; clear hK K)
            conv => arg 4; whnf
            conv => arg 4; arg 1; whnf
            refine pt_free (by rfl) (fun K hK => ?_)
            go_big_quiet_op
            first | (refine hK _ ?_; clear hK K) | (refine ⟨_, fun _ _ => rfl, hK _ ?_⟩; clear hK K)
            refine pt_nil ?_
            go_wp2
            refine bodyPost_ret (v := .tuple #[.int .i64 p, .bool true]) ?_ rfl ⟨by rw [hp, hres], hbw⟩
            simp [results, Tryd.f55, go_sem]
        · have q1 : (Q == x) = true := by simpa using h1
          have q2 : (x == -1) = false := by simpa using h2
          by_cases h5 : y = -1
          · have q5 : (y == -1) = true := by simpa using h5
            by_cases h6 : x = -9223372036854775808
            · have q6 : (x == -9223372036854775808) = true := by simpa using h6
              have hres := (HRR.out false (by simp [h1, h5, h6])).out
              clear HRR HM h1 h2 h5 h6
              refine wp_region_tree [] (.free 0 (.free 1 (.free 2 (.free 3 (.free 4 (.free 5 (.free 6 (.free 7 (.free 8 (.free 9 (.free 10 (.free 11 (.free 12 (.free 13 (.free 14 (.free 15 (.free 16 (.free 17 (.free 18 (.free 19 (.free 20 (.free 21 (.free 22 (.free 23 (.free 24 (.free 25 (.free 26 (.free 27 (.free 28 (.free 29 (.free 30 (.free 31 .nil)))))))))))))))))))))))))))))))) (by kernel_rfl) (by kernel_rfl) (fun _ _ d _ _ h => by cases d <;> exact h) ?_
              obtain ⟨c0, c1⟩ := zf2 hX
              have hbw := hbw.drew
              have c0 : W.drew.cell? ⟨w.heap.size, 0, none⟩ = _ := c0
              have c1 : W.drew.cell? ⟨w.heap.size, 1, none⟩ = _ := c1
              have hXl : w.heap.size < W.drew.heap.size := (Array.getElem?_eq_some_iff.1 hX).1
              generalize W.drew = wv at *
              conv => arg 4; whnf
              conv => arg 4; arg 1; whnf
              refine pt_free (by rfl) (fun K hK => ?_)
              go_big_quiet_op
              first | (refine hK _ ?_; clear hK K) | (refine ⟨_, fun _ _ => rfl, hK _ ?_⟩; clear hK K)
              conv => arg 4; whnf
              conv => arg 4; arg 1; whnf
              refine pt_free (by rfl) (fun K hK => ?_)
              go_big_quiet_op
              first | (refine hK _ ?_; clear hK K) | (refine ⟨_, fun _ _ => rfl, hK _ ?_⟩; clear hK K)
              conv => arg 4; whnf
              conv => arg 4; arg 1; whnf
              refine pt_free (by rfl) (fun K hK => ?_)
              go_big_quiet_op
              first | (refine hK _ ?_; clear hK K) | (refine ⟨_, fun _ _ => rfl, hK _ ?_⟩; clear hK K)
              conv => arg 4; whnf
              conv => arg 4; arg 1; whnf
              refine pt_load (fun W h => load_int _ _ W h) (p := ⟨w.heap.size, 1, none⟩) c1 hXl (by rfl) rfl rfl ?_
              simp only [Act.put, List.setIfInBounds_toArray, List.set_cons_zero, List.set_cons_succ]
              conv => arg 4; whnf
              conv => arg 4; arg 1; whnf
              refine pt_free (by rfl) (fun K hK => ?_)
              go_big_quiet_op
              first | (refine hK _ ?_; clear hK K) | (refine ⟨_, fun _ _ => rfl, hK _ ?_⟩; clear hK K)
              conv => arg 4; whnf
              conv => arg 4; arg 1; whnf
              refine pt_free (by rfl) (fun K hK => ?_)
              go_big_quiet_op
              first | (refine hK _ ?_; clear hK K) | (refine ⟨_, fun _ _ => rfl, hK _ ?_⟩; clear hK K)
              conv => arg 4; whnf
              conv => arg 4; arg 1; whnf
              refine pt_load (fun W h => load_int _ _ W h) (p := ⟨w.heap.size, 0, none⟩) c0 hXl (by rfl) rfl rfl ?_
              simp only [Act.put, List.setIfInBounds_toArray, List.set_cons_zero, List.set_cons_succ]
              conv => arg 4; whnf
              conv => arg 4; arg 1; whnf
              refine pt_free (by rfl) (fun K hK => ?_)
              go_big_quiet_op
              first | (refine hK _ ?_; clear hK K) | (refine ⟨_, fun _ _ => rfl, hK _ ?_⟩; clear hK K)
              conv => arg 4; whnf
              conv => arg 4; arg 1; whnf
              refine pt_free (by rfl) (fun K hK => ?_)
              go_big_quiet_op
              first | (refine hK _ ?_; clear hK K) | (refine ⟨_, fun _ _ => rfl, hK _ ?_⟩; clear hK K)
              conv => arg 4; whnf
              conv => arg 4; arg 1; whnf
              refine pt_free (by rfl) (fun K hK => ?_)
              go_big_quiet_op
              first | (refine hK _ ?_; clear hK K) | (refine ⟨_, fun _ _ => rfl, hK _ ?_⟩; clear hK K)
              conv => arg 4; whnf
              conv => arg 4; arg 1; whnf
              refine pt_load (fun W h => load_int _ _ W h) (p := ⟨w.heap.size, 0, none⟩) c0 hXl (by rfl) rfl rfl ?_
              simp only [Act.put, List.setIfInBounds_toArray, List.set_cons_zero, List.set_cons_succ]
              conv => arg 4; whnf
              conv => arg 4; arg 1; whnf
              refine pt_free (by rfl) (fun K hK => ?_)
              go_big_quiet_op
              first | (refine hK _ ?_; clear hK K) | (refine ⟨_, fun _ _ => rfl, hK _ ?_⟩; clear hK K)
              conv => arg 4; whnf
              conv => arg 4; arg 1; whnf
              refine pt_free (by rfl) (fun K hK => ?_)
              go_big_quiet_op
              first | (refine hK _ ?_; clear hK K) | (refine ⟨_, fun _ _ => rfl, hK _ ?_⟩; clear hK K)
              conv => arg 4; whnf
              conv => arg 4; arg 1; whnf
              refine pt_free_skip (by rfl) ?_
              simp only [Act.put, List.setIfInBounds_toArray, List.set_cons_zero, List.set_cons_succ]
              conv => arg 4; whnf
              conv => arg 4; arg 1; whnf
              refine pt_free_skip (by rfl) ?_
              simp only [Act.put, List.setIfInBounds_toArray, List.set_cons_zero, List.set_cons_succ]
              conv => arg 4; whnf
              conv => arg 4; arg 1; whnf
              refine pt_free_skip (by rfl) ?_
              simp only [Act.put, List.setIfInBounds_toArray, List.set_cons_zero, List.set_cons_succ]
              conv => arg 4; whnf
              conv => arg 4; arg 1; whnf
              refine pt_free (by rfl) (fun K hK => ?_)
              go_big_quiet_op
              first | (refine hK _ ?_; clear hK K) | (refine ⟨_, fun _ _ => rfl, hK _ ?_⟩; clear hK K)
              conv => arg 4; whnf
              conv => arg 4; arg 1; whnf
              refine pt_free (by rfl) (fun K hK => ?_)
              go_big_quiet_op
              first | (refine hK _ ?_; clear hK K) | (refine ⟨_, fun _ _ => rfl, hK _ ?_⟩; clear hK K)
              conv => arg 4; whnf
              conv => arg 4; arg 1; whnf
              refine pt_free (by rfl) (fun K hK => ?_)
              go_big_quiet_op
              first | (refine hK _ ?_; clear hK K) | (refine ⟨_, fun _ _ => rfl, hK _ ?_⟩; clear hK K)
              conv => arg 4; whnf
              conv => arg 4; arg 1; whnf
              refine pt_free (by rfl) (fun K hK => ?_)
              go_big_quiet_op
              first | (refine hK _ ?_; clear hK K) | (refine ⟨_, fun _ _ => rfl, hK _ ?_⟩; clear hK K)
              conv => arg 4; whnf
              conv => arg 4; arg 1; whnf
              refine pt_free (by rfl) (fun K hK => ?_)
              go_big_quiet_op
              first | (refine hK _ ?_; clear hK K) | (refine ⟨_, fun _ _ => rfl, hK _ ?_⟩; clear hK K)
              conv => arg 4; whnf
              conv => arg 4; arg 1; whnf
              refine pt_load (fun W h => load_int _ _ W h) (p := ⟨w.heap.size, 1, none⟩) c1 hXl (by rfl) rfl rfl ?_
              simp only [Act.put, List.setIfInBounds_toArray, List.set_cons_zero, List.set_cons_succ]
              conv => arg 4; whnf
              conv => arg 4; arg 1; whnf
              refine pt_free (by rfl) (fun K hK => ?_)
              go_big_quiet_op
              first | (refine hK _ ?_; clear hK K) | (refine ⟨_, fun _ _ => rfl, hK _ ?_⟩; clear hK K)
              conv => arg 4; whnf
              conv => arg 4; arg 1; whnf
              refine pt_free (by rfl) (fun K hK => ?_)
              go_big_quiet_op
              first | (refine hK _ ?_; clear hK K) | (refine ⟨_, fun _ _ => rfl, hK _ ?_⟩; clear hK K)
              conv => arg 4; whnf
              conv => arg 4; arg 1; whnf
              refine pt_free (by rfl) (fun K hK => ?_)
              go_big_quiet_op
              first | (refine hK _ ?_; clear hK K) | (refine ⟨_, fun _ _ => rfl, hK _ ?_⟩; clear hK K)
              conv => arg 4; whnf
              conv => arg 4; arg 1; whnf
              refine pt_load (fun W h => load_int _ _ W h) (p := ⟨w.heap.size, 0, none⟩) c0 hXl (by rfl) rfl rfl ?_
              simp only [Act.put, List.setIfInBounds_toArray, List.set_cons_zero, List.set_cons_succ]
              conv => arg 4; whnf
              conv => arg 4; arg 1; whnf
              refine pt_free (by rfl) (fun K hK => ?_)
              go_big_quiet_op
              first | (refine hK _ ?_; clear hK K) | (refine ⟨_, fun _ _ => rfl, hK _ ?_⟩; clear hK K)
              conv => arg 4; whnf
              conv => arg 4; arg 1; whnf
              refine pt_free (by rfl) (fun K hK => ?_)
              go_big_quiet_op
              first | (refine hK _ ?_; clear hK K) | (refine ⟨_, fun _ _ => rfl, hK _ ?_⟩; clear hK K)
              conv => arg 4; whnf
              conv => arg 4; arg 1; whnf
              refine pt_free (by rfl) (fun K hK => ?_)
              go_big_quiet_op
              first | (refine hK _ ?_; clear hK K) | (refine ⟨_, fun _ _ => rfl, hK _ ?_⟩; clear hK K)
              conv => arg 4; whnf
              conv => arg 4; arg 1; whnf
              refine pt_free (by rfl) (fun K hK => ?_)
              go_big_quiet_op
              first | (refine hK _ ?_; clear hK K) | (refine ⟨_, fun _ _ => rfl, hK _ ?_⟩; clear hK K)
              conv => arg 4; whnf
              conv => arg 4; arg 1; whnf
              refine pt_free (by rfl) (fun K hK => ?_)
              go_big_quiet_op
              first | (refine hK _ ?_; clear hK K) | (refine ⟨_, fun _ _ => rfl, hK _ ?_⟩; clear hK K)
              conv => arg 4; whnf
              conv => arg 4; arg 1; whnf
              refine pt_free (by rfl) (fun K hK => ?_)
              go_big_quiet_op
              first | (refine hK _ ?_; clear hK K) | (refine ⟨_, fun _ _ => rfl, hK _ ?_⟩; clear hK K)
              refine pt_nil ?_
              go_wp2
              refine bodyPost_ret (v := .tuple #[.int .i64 p, .bool false]) ?_ rfl ⟨by rw [hp, hres], hbw⟩
              simp [results, Tryd.f55, go_sem]
            · have q6 : (x == -9223372036854775808) = false := by simpa using h6
              have hres := (HRR.out true (by simp [h1, h5, h6])).out
              clear HRR HM h1 h2 h5 h6
              refine wp_region_tree [] (.free 0 (.free 1 (.free 2 (.free 3 (.free 4 (.free 5 (.free 6 (.free 7 (.free 8 (.free 9 (.free 10 (.free 11 (.free 12 (.free 13 (.free 14 (.free 15 (.free 16 (.free 17 (.free 18 (.free 19 (.free 20 (.free 21 (.free 22 (.free 23 (.free 24 (.free 25 (.free 26 (.free 27 (.free 28 (.free 29 (.free 30 (.free 31 .nil)))))))))))))))))))))))))))))))) (by kernel_rfl) (by kernel_rfl) (fun _ _ d _ _ h => by cases d <;> exact h) ?_
              obtain ⟨c0, c1⟩ := zf2 hX
              have hbw := hbw.drew
              have c0 : W.drew.cell? ⟨w.heap.size, 0, none⟩ = _ := c0
              have c1 : W.drew.cell? ⟨w.heap.size, 1, none⟩ = _ := c1
              have hXl : w.heap.size < W.drew.heap.size := (Array.getElem?_eq_some_iff.1 hX).1
              generalize W.drew = wv at *
              conv => arg 4; whnf
              conv => arg 4; arg 1; whnf
              refine pt_free (by rfl) (fun K hK => ?_)
              go_big_quiet_op
              first | (refine hK _ ?_; clear hK K) | (refine ⟨_, fun _ _ => rfl, hK _ ?_⟩; clear hK K)
              conv => arg 4; whnf
              conv => arg 4; arg 1; whnf
              refine pt_free (by rfl) (fun K hK => ?_)
              go_big_quiet_op
              first | (refine hK _ ?_; clear hK K) | (refine ⟨_, fun _ _ => rfl, hK _ ?_⟩; clear hK K)
              conv => arg 4; whnf
              conv => arg 4; arg 1; whnf
              refine pt_free (by rfl) (fun K hK => ?_)
              go_big_quiet_op
              first | (refine hK _ ?_; clear hK K) | (refine ⟨_, fun _ _ => rfl, hK _ ?_⟩; clear hK K)
              conv => arg 4; whnf
              conv => arg 4; arg 1; whnf
              refine pt_load (fun W h => load_int _ _ W h) (p := ⟨w.heap.size, 1, none⟩) c1 hXl (by rfl) rfl rfl ?_
              simp only [Act.put, List.setIfInBounds_toArray, List.set_cons_zero, List.set_cons_succ]
              conv => arg 4; whnf
              conv => arg 4; arg 1; whnf
              refine pt_free (by rfl) (fun K hK => ?_)
              go_big_quiet_op
              first | (refine hK _ ?_; clear hK K) | (refine ⟨_, fun _ _ => rfl, hK _ ?_⟩; clear hK K)
              conv => arg 4; whnf
              conv => arg 4; arg 1; whnf
              refine pt_free (by rfl) (fun K hK => ?_)
              go_big_quiet_op
              first | (refine hK _ ?_; clear hK K) | (refine ⟨_, fun _ _ => rfl, hK _ ?_⟩; clear hK K)
              conv => arg 4; whnf
              conv => arg 4; arg 1; whnf
              refine pt_load (fun W h => load_int _ _ W h) (p := ⟨w.heap.size, 0, none⟩) c0 hXl (by rfl) rfl rfl ?_
              simp only [Act.put, List.setIfInBounds_toArray, List.set_cons_zero, List.set_cons_succ]
              conv => arg 4; whnf
              conv => arg 4; arg 1; whnf
              refine pt_free (by rfl) (fun K hK => ?_)
              go_big_quiet_op
              first | (refine hK _ ?_; clear hK K) | (refine ⟨_, fun _ _ => rfl, hK _ ?_⟩; clear hK K)
              conv => arg 4; whnf
              conv => arg 4; arg 1; whnf
              refine pt_free (by rfl) (fun K hK => ?_)
              go_big_quiet_op
              first | (refine hK _ ?_; clear hK K) | (refine ⟨_, fun _ _ => rfl, hK _ ?_⟩; clear hK K)
              conv => arg 4; whnf
              conv => arg 4; arg 1; whnf
              refine pt_free (by rfl) (fun K hK => ?_)
              go_big_quiet_op
              first | (refine hK _ ?_; clear hK K) | (refine ⟨_, fun _ _ => rfl, hK _ ?_⟩; clear hK K)
              conv => arg 4; whnf
              conv => arg 4; arg 1; whnf
              refine pt_load (fun W h => load_int _ _ W h) (p := ⟨w.heap.size, 0, none⟩) c0 hXl (by rfl) rfl rfl ?_
              simp only [Act.put, List.setIfInBounds_toArray, List.set_cons_zero, List.set_cons_succ]
              conv => arg 4; whnf
              conv => arg 4; arg 1; whnf
              refine pt_free (by rfl) (fun K hK => ?_)
              go_big_quiet_op
              first | (refine hK _ ?_; clear hK K) | (refine ⟨_, fun _ _ => rfl, hK _ ?_⟩; clear hK K)
              conv => arg 4; whnf
              conv => arg 4; arg 1; whnf
              refine pt_free (by rfl) (fun K hK => ?_)
              go_big_quiet_op
              first | (refine hK _ ?_; clear hK K) | (refine ⟨_, fun _ _ => rfl, hK _ ?_⟩; clear hK K)
              conv => arg 4; whnf
              conv => arg 4; arg 1; whnf
              refine pt_free_skip (by rfl) ?_
              simp only [Act.put, List.setIfInBounds_toArray, List.set_cons_zero, List.set_cons_succ]
              conv => arg 4; whnf
              conv => arg 4; arg 1; whnf
              refine pt_free_skip (by rfl) ?_
              simp only [Act.put, List.setIfInBounds_toArray, List.set_cons_zero, List.set_cons_succ]
              conv => arg 4; whnf
              conv => arg 4; arg 1; whnf
              refine pt_free_skip (by rfl) ?_
              simp only [Act.put, List.setIfInBounds_toArray, List.set_cons_zero, List.set_cons_succ]
              conv => arg 4; whnf
              conv => arg 4; arg 1; whnf
              refine pt_free (by rfl) (fun K hK => ?_)
              go_big_quiet_op
              first | (refine hK _ ?_; clear hK K) | (refine ⟨_, fun _ _ => rfl, hK _ ?_⟩; clear hK K)
              conv => arg 4; whnf
              conv => arg 4; arg 1; whnf
              refine pt_free (by rfl) (fun K hK => ?_)
              go_big_quiet_op
              first | (refine hK _ ?_; clear hK K) | (refine ⟨_, fun _ _ => rfl, hK _ ?_⟩; clear hK K)
              conv => arg 4; whnf
              conv => arg 4; arg 1; whnf
              refine pt_free (by rfl) (fun K hK => ?_)
              go_big_quiet_op
              first | (refine hK _ ?_; clear hK K) | (refine ⟨_, fun _ _ => rfl, hK _ ?_⟩; clear hK K)
              conv => arg 4; whnf
              conv => arg 4; arg 1; whnf
              refine pt_free (by rfl) (fun K hK => ?_)
              go_big_quiet_op
              first | (refine hK _ ?_; clear hK K) | (refine ⟨_, fun _ _ => rfl, hK _ ?_⟩; clear hK K)
              conv => arg 4; whnf
              conv => arg 4; arg 1; whnf
              refine pt_free (by rfl) (fun K hK => ?_)
              go_big_quiet_op
              first | (refine hK _ ?_; clear hK K) | (refine ⟨_, fun _ _ => rfl, hK _ ?_⟩; clear hK K)
              conv => arg 4; whnf
              conv => arg 4; arg 1; whnf
              refine pt_load (fun W h => load_int _ _ W h) (p := ⟨w.heap.size, 1, none⟩) c1 hXl (by rfl) rfl rfl ?_
              simp only [Act.put, List.setIfInBounds_toArray, List.set_cons_zero, List.set_cons_succ]
              conv => arg 4; whnf
              conv => arg 4; arg 1; whnf
              refine pt_free (by rfl) (fun K hK => ?_)
              go_big_quiet_op
              first | (refine hK _ ?_; clear hK K) | (refine ⟨_, fun _ _ => rfl, hK _ ?_⟩; clear hK K)
              conv => arg 4; whnf
              conv => arg 4; arg 1; whnf
              refine pt_free (by rfl) (fun K hK => ?_)
              go_big_quiet_op
              first | (refine hK _ ?_; clear hK K) | (refine ⟨_, fun _ _ => rfl, hK _ ?_⟩; clear hK K)
              conv => arg 4; whnf
              conv => arg 4; arg 1; whnf
              refine pt_free (by rfl) (fun K hK => ?_)
              go_big_quiet_op
              first | (refine hK _ ?_; clear hK K) | (refine ⟨_, fun _ _ => rfl, hK _ ?_⟩; clear hK K)
              conv => arg 4; whnf
              conv => arg 4; arg 1; whnf
              refine pt_load (fun W h => load_int _ _ W h) (p := ⟨w.heap.size, 0, none⟩) c0 hXl (by rfl) rfl rfl ?_
              simp only [Act.put, List.setIfInBounds_toArray, List.set_cons_zero, List.set_cons_succ]
              conv => arg 4; whnf
              conv => arg 4; arg 1; whnf
              refine pt_free (by rfl) (fun K hK => ?_)
              go_big_quiet_op
              first | (refine hK _ ?_; clear hK K) | (refine ⟨_, fun _ _ => rfl, hK _ ?_⟩; clear hK K)
              conv => arg 4; whnf
              conv => arg 4; arg 1; whnf
              refine pt_free (by rfl) (fun K hK => ?_)
              go_big_quiet_op
              first | (refine hK _ ?_; clear hK K) | (refine ⟨_, fun _ _ => rfl, hK _ ?_⟩; clear hK K)
              conv => arg 4; whnf
              conv => arg 4; arg 1; whnf
              refine pt_free (by rfl) (fun K hK => ?_)
              go_big_quiet_op
              first | (refine hK _ ?_; clear hK K) | (refine ⟨_, fun _ _ => rfl, hK _ ?_⟩; clear hK K)
              conv => arg 4; whnf
              conv => arg 4; arg 1; whnf
              refine pt_free (by rfl) (fun K hK => ?_)
              go_big_quiet_op
              first | (refine hK _ ?_; clear hK K) | (refine ⟨_, fun _ _ => rfl, hK _ ?_⟩; clear hK K)
              conv => arg 4; whnf
              conv => arg 4; arg 1; whnf
              refine pt_free (by rfl) (fun K hK => ?_)
              go_big_quiet_op
              first | (refine hK _ ?_; clear hK K) | (refine ⟨_, fun _ _ => rfl, hK _ ?_⟩; clear hK K)
              conv => arg 4; whnf
              conv => arg 4; arg 1; whnf
              refine pt_free (by rfl) (fun K hK => ?_)
              go_big_quiet_op
              first | (refine hK _ ?_; clear hK K) | (refine ⟨_, fun _ _ => rfl, hK _ ?_⟩; clear hK K)
              refine pt_nil ?_
              go_wp2
              refine bodyPost_ret (v := .tuple #[.int .i64 p, .bool true]) ?_ rfl ⟨by rw [hp, hres], hbw⟩
              simp [results, Tryd.f55, go_sem]
          · have q5 : (y == -1) = false := by simpa using h5
            have hres := (HRR.out true (by simp [h1, h5])).out
            clear HRR HM h1 h2 h5
            refine wp_region_tree [] (.free 0 (.free 1 (.free 2 (.free 3 (.free 4 (.free 5 (.free 6 (.free 7 (.free 8 (.free 9 (.free 10 (.free 11 (.free 12 (.free 13 (.free 14 (.free 15 (.free 16 (.free 17 (.free 18 (.free 19 (.free 20 (.free 21 (.free 22 (.free 23 (.free 24 (.free 25 (.free 26 (.free 27 (.free 28 (.free 29 (.free 30 (.free 31 .nil)))))))))))))))))))))))))))))))) (by kernel_rfl) (by kernel_rfl) (fun _ _ d _ _ h => by cases d <;> exact h) ?_
            obtain ⟨c0, c1⟩ := zf2 hX
            have hbw := hbw.drew
            have c0 : W.drew.cell? ⟨w.heap.size, 0, none⟩ = _ := c0
            have c1 : W.drew.cell? ⟨w.heap.size, 1, none⟩ = _ := c1
            have hXl : w.heap.size < W.drew.heap.size := (Array.getElem?_eq_some_iff.1 hX).1
            generalize W.drew = wv at *
            conv => arg 4; whnf
            conv => arg 4; arg 1; whnf
            refine pt_free (by rfl) (fun K hK => ?_)
            go_big_quiet_op
            first | (refine hK _ ?_; clear hK K) | (refine ⟨_, fun _ _ => rfl, hK _ ?_⟩; clear hK K)
            conv => arg 4; whnf
            conv => arg 4; arg 1; whnf
            refine pt_free (by rfl) (fun K hK => ?_)
            go_big_quiet_op
            first | (refine hK _ ?_; clear hK K) | (refine ⟨_, fun _ _ => rfl, hK _ ?_⟩; clear hK K)
            conv => arg 4; whnf
            conv => arg 4; arg 1; whnf
            refine pt_free (by rfl) (fun K hK => ?_)
            go_big_quiet_op
            first | (refine hK _ ?_; clear hK K) | (refine ⟨_, fun _ _ => rfl, hK _ ?_⟩; clear hK K)
            conv => arg 4; whnf
            conv => arg 4; arg 1; whnf
            refine pt_load (fun W h => load_int _ _ W h) (p := ⟨w.heap.size, 1, none⟩) c1 hXl (by rfl) rfl rfl ?_
            simp only [Act.put, List.setIfInBounds_toArray, List.set_cons_zero, List.set_cons_succ]
            conv => arg 4; whnf
            conv => arg 4; arg 1; whnf
            refine pt_free (by rfl) (fun K hK => ?_)
            go_big_quiet_op
            first | (refine hK _ ?_; clear hK K) | (refine ⟨_, fun _ _ => rfl, hK _ ?_⟩; clear hK K)
            conv => arg 4; whnf
            conv => arg 4; arg 1; whnf
            refine pt_free (by rfl) (fun K hK => ?_)
            go_big_quiet_op
            first | (refine hK _ ?_; clear hK K) | (refine ⟨_, fun _ _ => rfl, hK _ ?_⟩; clear hK K)
            conv => arg 4; whnf
            conv => arg 4; arg 1; whnf
            refine pt_load (fun W h => load_int _ _ W h) (p := ⟨w.heap.size, 0, none⟩) c0 hXl (by rfl) rfl rfl ?_
            simp only [Act.put, List.setIfInBounds_toArray, List.set_cons_zero, List.set_cons_succ]
            conv => arg 4; whnf
            conv => arg 4; arg 1; whnf
            refine pt_free (by rfl) (fun K hK => ?_)
            go_big_quiet_op
            first | (refine hK _ ?_; clear hK K) | (refine ⟨_, fun _ _ => rfl, hK _ ?_⟩; clear hK K)
            conv => arg 4; whnf
            conv => arg 4; arg 1; whnf
            refine pt_free (by rfl) (fun K hK => ?_)
            go_big_quiet_op
            first | (refine hK _ ?_; clear hK K) | (refine ⟨_, fun _ _ => rfl, hK _ ?_⟩; clear hK K)
            conv => arg 4; whnf
            conv => arg 4; arg 1; whnf
            refine pt_free (by rfl) (fun K hK => ?_)
            go_big_quiet_op
            first | (refine hK _ ?_; clear hK K) | (refine ⟨_, fun _ _ => rfl, hK _ ?_⟩; clear hK K)
            conv => arg 4; whnf
            conv => arg 4; arg 1; whnf
            refine pt_load (fun W h => load_int _ _ W h) (p := ⟨w.heap.size, 0, none⟩) c0 hXl (by rfl) rfl rfl ?_
            simp only [Act.put, List.setIfInBounds_toArray, List.set_cons_zero, List.set_cons_succ]
            conv => arg 4; whnf
            conv => arg 4; arg 1; whnf
            refine pt_free (by rfl) (fun K hK => ?_)
            go_big_quiet_op
            first | (refine hK _ ?_; clear hK K) | (refine ⟨_, fun _ _ => rfl, hK _ ?_⟩; clear hK K)
            conv => arg 4; whnf
            conv => arg 4; arg 1; whnf
            refine pt_free (by rfl) (fun K hK => ?_)
            go_big_quiet_op
            first | (refine hK _ ?_; clear hK K) | (refine ⟨_, fun _ _ => rfl, hK _ ?_⟩; clear hK K)
            conv => arg 4; whnf
            conv => arg 4; arg 1; whnf
            refine pt_free_skip (by rfl) ?_
            simp only [Act.put, List.setIfInBounds_toArray, List.set_cons_zero, List.set_cons_succ]
            conv => arg 4; whnf
            conv => arg 4; arg 1; whnf
            refine pt_free_skip (by rfl) ?_
            simp only [Act.put, List.setIfInBounds_toArray, List.set_cons_zero, List.set_cons_succ]
            conv => arg 4; whnf
            conv => arg 4; arg 1; whnf
            refine pt_free_skip (by rfl) ?_
            simp only [Act.put, List.setIfInBounds_toArray, List.set_cons_zero, List.set_cons_succ]
            conv => arg 4; whnf
            conv => arg 4; arg 1; whnf
            refine pt_free (by rfl) (fun K hK => ?_)
            go_big_quiet_op
            first | (refine hK _ ?_; clear hK K) | (refine ⟨_, fun _ _ => rfl, hK _ ?_⟩; clear hK K)
            conv => arg 4; whnf
            conv => arg 4; arg 1; whnf
            refine pt_free (by rfl) (fun K hK => ?_)
            go_big_quiet_op
            first | (refine hK _ ?_; clear hK K) | (refine ⟨_, fun _ _ => rfl, hK _ ?_⟩; clear hK K)
            conv => arg 4; whnf
            conv => arg 4; arg 1; whnf
            refine pt_free (by rfl) (fun K hK => ?_)
            go_big_quiet_op
            first | (refine hK _ ?_; clear hK K) | (refine ⟨_, fun _ _ => rfl, hK _ ?_⟩; clear hK K)
            conv => arg 4; whnf
            conv => arg 4; arg 1; whnf
            refine pt_free (by rfl) (fun K hK => ?_)
            go_big_quiet_op
            first | (refine hK _ ?_; clear hK K) | (refine ⟨_, fun _ _ => rfl, hK _ ?_⟩; clear hK K)
            conv => arg 4; whnf
            conv => arg 4; arg 1; whnf
            refine pt_free (by rfl) (fun K hK => ?_)
            go_big_quiet_op
            first | (refine hK _ ?_; clear hK K) | (refine ⟨_, fun _ _ => rfl, hK _ ?_⟩; clear hK K)
            conv => arg 4; whnf
            conv => arg 4; arg 1; whnf
            refine pt_load (fun W h => load_int _ _ W h) (p := ⟨w.heap.size, 1, none⟩) c1 hXl (by rfl) rfl rfl ?_
            simp only [Act.put, List.setIfInBounds_toArray, List.set_cons_zero, List.set_cons_succ]
            conv => arg 4; whnf
            conv => arg 4; arg 1; whnf
            refine pt_free (by rfl) (fun K hK => ?_)
            go_big_quiet_op
            first | (refine hK _ ?_; clear hK K) | (refine ⟨_, fun _ _ => rfl, hK _ ?_⟩; clear hK K)
            conv => arg 4; whnf
            conv => arg 4; arg 1; whnf
            refine pt_free (by rfl) (fun K hK => ?_)
            go_big_quiet_op
            first | (refine hK _ ?_; clear hK K) | (refine ⟨_, fun _ _ => rfl, hK _ ?_⟩; clear hK K)
            conv => arg 4; whnf
            conv => arg 4; arg 1; whnf
            refine pt_free_skip (by rfl) ?_
            simp only [Act.put, List.setIfInBounds_toArray, List.set_cons_zero, List.set_cons_succ]
            conv => arg 4; whnf
            conv => arg 4; arg 1; whnf
            refine pt_free_skip (by rfl) ?_
            simp only [Act.put, List.setIfInBounds_toArray, List.set_cons_zero, List.set_cons_succ]
            conv => arg 4; whnf
            conv => arg 4; arg 1; whnf
            refine pt_free_skip (by rfl) ?_
            simp only [Act.put, List.setIfInBounds_toArray, List.set_cons_zero, List.set_cons_succ]
            conv => arg 4; whnf
            conv => arg 4; arg 1; whnf
            refine pt_free (by rfl) (fun K hK => ?_)
            go_big_quiet_op
            first | (refine hK _ ?_; clear hK K) | (refine ⟨_, fun _ _ => rfl, hK _ ?_⟩; clear hK K)
            conv => arg 4; whnf
            conv => arg 4; arg 1; whnf
            refine pt_free (by rfl) (fun K hK => ?_)
            go_big_quiet_op
            first | (refine hK _ ?_; clear hK K) | (refine ⟨_, fun _ _ => rfl, hK _ ?_⟩; clear hK K)
            conv => arg 4; whnf
            conv => arg 4; arg 1; whnf
            refine pt_free (by rfl) (fun K hK => ?_)
            go_big_quiet_op
            first | (refine hK _ ?_; clear hK K) | (refine ⟨_, fun _ _ => rfl, hK _ ?_⟩; clear hK K)
            conv => arg 4; whnf
            conv => arg 4; arg 1; whnf
            refine pt_free (by rfl) (fun K hK => ?_)
            go_big_quiet_op
            first | (refine hK _ ?_; clear hK K) | (refine ⟨_, fun _ _ => rfl, hK _ ?_⟩; clear hK K)
            conv => arg 4; whnf
            conv => arg 4; arg 1; whnf
            refine pt_free (by rfl) (fun K hK => ?_)
            go_big_quiet_op
            first | (refine hK _ ?_; clear hK K) | (refine ⟨_, fun _ _ => rfl, hK _ ?_⟩; clear hK K)
            refine pt_nil ?_
            go_wp2
            refine bodyPost_ret (v := .tuple #[.int .i64 p, .bool true]) ?_ rfl ⟨by rw [hp, hres], hbw⟩
            simp [results, Tryd.f55, go_sem]
      · have q1 : (Q == x) = false := by simpa using h1
        have hres := (HRR.out false (by simp [h1])).out
        clear HRR HM h1
        refine wp_region_tree [] (.free 0 (.free 1 (.free 2 (.free 3 (.free 4 (.free 5 (.free 6 (.free 7 (.free 8 (.free 9 (.free 10 (.free 11 (.free 12 (.free 13 (.free 14 (.free 15 (.free 16 (.free 17 (.free 18 (.free 19 (.free 20 (.free 21 (.free 22 (.free 23 (.free 24 (.free 25 (.free 26 (.free 27 (.free 28 (.free 29 (.free 30 (.free 31 .nil)))))))))))))))))))))))))))))))) (by kernel_rfl) (by kernel_rfl) (fun _ _ d _ _ h => by cases d <;> exact h) ?_
        obtain ⟨c0, c1⟩ := zf2 hX
        have hbw := hbw.drew
        have c0 : W.drew.cell? ⟨w.heap.size, 0, none⟩ = _ := c0
        have c1 : W.drew.cell? ⟨w.heap.size, 1, none⟩ = _ := c1
        have hXl : w.heap.size < W.drew.heap.size := (Array.getElem?_eq_some_iff.1 hX).1
        generalize W.drew = wv at *
        conv => arg 4; whnf
        conv => arg 4; arg 1; whnf
        refine pt_free (by rfl) (fun K hK => ?_)
        go_big_quiet_op
        first | (refine hK _ ?_; clear hK K) | (refine ⟨_, fun _ _ => rfl, hK _ ?_⟩; clear hK K)
        conv => arg 4; whnf
        conv => arg 4; arg 1; whnf
        refine pt_free (by rfl) (fun K hK => ?_)
        go_big_quiet_op
        first | (refine hK _ ?_; clear hK K) | (refine ⟨_, fun _ _ => rfl, hK _ ?_⟩; clear hK K)
        conv => arg 4; whnf
        conv => arg 4; arg 1; whnf
        refine pt_free (by rfl) (fun K hK => ?_)
        go_big_quiet_op
        first | (refine hK _ ?_; clear hK K) | (refine ⟨_, fun _ _ => rfl, hK _ ?_⟩; clear hK K)
        conv => arg 4; whnf
        conv => arg 4; arg 1; whnf
        refine pt_load (fun W h => load_int _ _ W h) (p := ⟨w.heap.size, 1, none⟩) c1 hXl (by rfl) rfl rfl ?_
        simp only [Act.put, List.setIfInBounds_toArray, List.set_cons_zero, List.set_cons_succ]
        conv => arg 4; whnf
        conv => arg 4; arg 1; whnf
        refine pt_free (by rfl) (fun K hK => ?_)
        go_big_quiet_op
        first | (refine hK _ ?_; clear hK K) | (refine ⟨_, fun _ _ => rfl, hK _ ?_⟩; clear hK K)
        conv => arg 4; whnf
        conv => arg 4; arg 1; whnf
        refine pt_free (by rfl) (fun K hK => ?_)
        go_big_quiet_op
        first | (refine hK _ ?_; clear hK K) | (refine ⟨_, fun _ _ => rfl, hK _ ?_⟩; clear hK K)
        conv => arg 4; whnf
        conv => arg 4; arg 1; whnf
        refine pt_load (fun W h => load_int _ _ W h) (p := ⟨w.heap.size, 0, none⟩) c0 hXl (by rfl) rfl rfl ?_
        simp only [Act.put, List.setIfInBounds_toArray, List.set_cons_zero, List.set_cons_succ]
        conv => arg 4; whnf
        conv => arg 4; arg 1; whnf
        refine pt_free (by rfl) (fun K hK => ?_)
        go_big_quiet_op
        first | (refine hK _ ?_; clear hK K) | (refine ⟨_, fun _ _ => rfl, hK _ ?_⟩; clear hK K)
        conv => arg 4; whnf
        conv => arg 4; arg 1; whnf
        refine pt_free (by rfl) (fun K hK => ?_)
        go_big_quiet_op
        first | (refine hK _ ?_; clear hK K) | (refine ⟨_, fun _ _ => rfl, hK _ ?_⟩; clear hK K)
        conv => arg 4; whnf
        conv => arg 4; arg 1; whnf
        refine pt_free_skip (by rfl) ?_
        simp only [Act.put, List.setIfInBounds_toArray, List.set_cons_zero, List.set_cons_succ]
        conv => arg 4; whnf
        conv => arg 4; arg 1; whnf
        refine pt_free_skip (by rfl) ?_
        simp only [Act.put, List.setIfInBounds_toArray, List.set_cons_zero, List.set_cons_succ]
        conv => arg 4; whnf
        conv => arg 4; arg 1; whnf
        refine pt_free_skip (by rfl) ?_
        simp only [Act.put, List.setIfInBounds_toArray, List.set_cons_zero, List.set_cons_succ]
        conv => arg 4; whnf
        conv => arg 4; arg 1; whnf
        refine pt_free_skip (by rfl) ?_
        simp only [Act.put, List.setIfInBounds_toArray, List.set_cons_zero, List.set_cons_succ]
        conv => arg 4; whnf
        conv => arg 4; arg 1; whnf
        refine pt_free_skip (by rfl) ?_
        simp only [Act.put, List.setIfInBounds_toArray, List.set_cons_zero, List.set_cons_succ]
        conv => arg 4; whnf
        conv => arg 4; arg 1; whnf
        refine pt_free_skip (by rfl) ?_
        simp only [Act.put, List.setIfInBounds_toArray, List.set_cons_zero, List.set_cons_succ]
        conv => arg 4; whnf
        conv => arg 4; arg 1; whnf
        refine pt_free_skip (by rfl) ?_
        simp only [Act.put, List.setIfInBounds_toArray, List.set_cons_zero, List.set_cons_succ]
        conv => arg 4; whnf
        conv => arg 4; arg 1; whnf
        refine pt_free_skip (by rfl) ?_
        simp only [Act.put, List.setIfInBounds_toArray, List.set_cons_zero, List.set_cons_succ]
        conv => arg 4; whnf
        conv => arg 4; arg 1; whnf
        refine pt_free_skip (by rfl) ?_
        simp only [Act.put, List.setIfInBounds_toArray, List.set_cons_zero, List.set_cons_succ]
        conv => arg 4; whnf
        conv => arg 4; arg 1; whnf
        refine pt_free (by rfl) (fun K hK => ?_)
        go_big_quiet_op
        first | (refine hK _ ?_; clear hK K) | (refine ⟨_, fun _ _ => rfl, hK _ ?_⟩; clear hK K)
        conv => arg 4; whnf
        conv => arg 4; arg 1; whnf
        refine pt_free (by rfl) (fun K hK => ?_)
        go_big_quiet_op
        first | (refine hK _ ?_; clear hK K) | (refine ⟨_, fun _ _ => rfl, hK _ ?_⟩; clear hK K)
        conv => arg 4; whnf
        conv => arg 4; arg 1; whnf
        refine pt_free_skip (by rfl) ?_
        simp only [Act.put, List.setIfInBounds_toArray, List.set_cons_zero, List.set_cons_succ]
        conv => arg 4; whnf
        conv => arg 4; arg 1; whnf
        refine pt_free_skip (by rfl) ?_
        simp only [Act.put, List.setIfInBounds_toArray, List.set_cons_zero, List.set_cons_succ]
        conv => arg 4; whnf
        conv => arg 4; arg 1; whnf
        refine pt_free_skip (by rfl) ?_
        simp only [Act.put, List.setIfInBounds_toArray, List.set_cons_zero, List.set_cons_succ]
        conv => arg 4; whnf
        conv => arg 4; arg 1; whnf
        refine pt_free_skip (by rfl) ?_
        simp only [Act.put, List.setIfInBounds_toArray, List.set_cons_zero, List.set_cons_succ]
        conv => arg 4; whnf
        conv => arg 4; arg 1; whnf
        refine pt_free_skip (by rfl) ?_
        simp only [Act.put, List.setIfInBounds_toArray, List.set_cons_zero, List.set_cons_succ]
        conv => arg 4; whnf
        conv => arg 4; arg 1; whnf
        refine pt_free_skip (by rfl) ?_
        simp only [Act.put, List.setIfInBounds_toArray, List.set_cons_zero, List.set_cons_succ]
        conv => arg 4; whnf
        conv => arg 4; arg 1; whnf
        refine pt_free_skip (by rfl) ?_
        simp only [Act.put, List.setIfInBounds_toArray, List.set_cons_zero, List.set_cons_succ]
        conv => arg 4; whnf
        conv => arg 4; arg 1; whnf
        refine pt_free_skip (by rfl) ?_
        simp only [Act.put, List.setIfInBounds_toArray, List.set_cons_zero, List.set_cons_succ]
        conv => arg 4; whnf
        conv => arg 4; arg 1; whnf
        refine pt_free_skip (by rfl) ?_
        simp only [Act.put, List.setIfInBounds_toArray, List.set_cons_zero, List.set_cons_succ]
        conv => arg 4; whnf
        conv => arg 4; arg 1; whnf
        refine pt_free (by rfl) (fun K hK => ?_)
        go_big_quiet_op
        first | (refine hK _ ?_; clear hK K) | (refine ⟨_, fun _ _ => rfl, hK _ ?_⟩; clear hK K)
        conv => arg 4; whnf
        conv => arg 4; arg 1; whnf
        refine pt_free (by rfl) (fun K hK => ?_)
        go_big_quiet_op
        first | (refine hK _ ?_; clear hK K) | (refine ⟨_, fun _ _ => rfl, hK _ ?_⟩; clear hK K)
        conv => arg 4; whnf
        conv => arg 4; arg 1; whnf
        refine pt_free (by rfl) (fun K hK => ?_)
        go_big_quiet_op
        first | (refine hK _ ?_; clear hK K) | (refine ⟨_, fun _ _ => rfl, hK _ ?_⟩; clear hK K)
        refine pt_nil ?_
        go_wp2
        refine bodyPost_ret (v := .tuple #[.int .i64 p, .bool false]) ?_ rfl ⟨by rw [hp, hres], hbw⟩
        simp [results, Tryd.f55, go_sem]
set_option maxRecDepth 100000 in
theorem div_ok (w : World) (x y : Int) (hx : InR x) (hy : y ≠ 0) : Calls Tryd.prog 56 #[.agg #[.int .i64 x, .int .i64 y]] w fun e w' =>
    e = .returned (.tuple #[.int .i64 (if InR (x.tdiv y) then x.tdiv y else 0), .bool (decide (InR (x.tdiv y)))]) ∧ Below w.heap.size w w' := by
  have hyd : decide (y = 0) = false := decide_eq_false hy
  by_cases hz : x = -9223372036854775808 ∧ y = -1
  · obtain ⟨rfl, rfl⟩ := hz
    rw [if_neg quo_out, decide_eq_false quo_out]
    go_enter Tryd.func56, Tryd.ntmps56
    go_wp2
    go_ret2
    exact ⟨rfl, (Below.refl _ _).alloc (Nat.le_refl _) _⟩
  · have hr := quo_rng hx hy hz
    have hw := wrap_in hr
    rw [if_pos hr, decide_eq_true hr]
    have HZ := Lib.hid hz
    clear hz hx
    generalize hq : x.tdiv y = q at *
    go_enter Tryd.func56, Tryd.ntmps56
    go_wp2
    · exfalso
      rename_i h1 h2
      exact HZ.out ⟨h1, by simpa using h2⟩
    · rename_i h1 h2
      refine bodyPost_ret (v := .tuple #[.int .i64 q, .bool true]) ?_ rfl ⟨rfl, (Below.refl _ _).alloc (Nat.le_refl _) _⟩
      have e : wrap64 (-Int.tdiv 9223372036854775808 y) = q := by rw [← Int.neg_tdiv, ← hw, ← hq, h1]
      simp [results, Tryd.f56, go_sem, e]
    · refine bodyPost_ret (v := .tuple #[.int .i64 q, .bool true]) ?_ rfl ⟨rfl, (Below.refl _ _).alloc (Nat.le_refl _) _⟩
      simp [results, Tryd.f56, go_sem, hw]
end Go.Proofs.YtcbaioagcemmnaaDoor
