/- The document's small functions of values: no, num, truth, Int, Truth, plus, times, MayVal, Neg. Written by refsmallgen.py. -/
import Derived.Test.YtejpfpklgkcagaaDoorValSpec
namespace Go.Proofs.YtejpfpklgkcagaaDoor
open Go.RowKit Go.Maps
set_option maxRecDepth 100000 in
set_option maxHeartbeats 1000000 in
theorem no_any (w : World) (n : Int) : Calls Tryd.prog 28 #[.int .i64 n] w fun e w' => e = .returned (.agg #[.int .i64 4, .int .i64 n, .string ⟨#[]⟩]) ∧ Below w.heap.size w w' := by
  go_enter Tryd.func28, Tryd.ntmps28
  go_wp2
  refine bodyPost_ret (v := .agg #[.int .i64 4, .int .i64 n, .string ⟨#[]⟩]) ?_ rfl ⟨rfl, (Below.refl _ _).alloc (Nat.le_refl _) _⟩
  simp [results, Tryd.f28, go_sem]
set_option maxRecDepth 100000 in
set_option maxHeartbeats 1000000 in
theorem rnum_any (w : World) (n : Int) : Calls Tryd.prog 34 #[.int .i64 n] w fun e w' => e = .returned (.agg #[.int .i64 1, .int .i64 n, .string ⟨#[]⟩]) ∧ Below w.heap.size w w' := by
  go_enter Tryd.func34, Tryd.ntmps34
  go_wp2
  refine bodyPost_ret (v := .agg #[.int .i64 1, .int .i64 n, .string ⟨#[]⟩]) ?_ rfl ⟨rfl, (Below.refl _ _).alloc (Nat.le_refl _) _⟩
  simp [results, Tryd.f34, go_sem]
set_option maxRecDepth 100000 in
set_option maxHeartbeats 1000000 in
theorem rtruth_any (w : World) (b : Bool) : Calls Tryd.prog 31 #[.bool b] w fun e w' => e = .returned (.agg #[.int .i64 3, .int .i64 (bN b), .string ⟨#[]⟩]) ∧ Below w.heap.size w w' := by
  cases b
  · go_enter Tryd.func31, Tryd.ntmps31
    go_wp2
    refine bodyPost_ret (v := .agg #[.int .i64 3, .int .i64 0, .string ⟨#[]⟩]) ?_ rfl ⟨rfl, (Below.refl _ _).alloc (Nat.le_refl _) _⟩
    simp [results, Tryd.f31, go_sem]
  · go_enter Tryd.func31, Tryd.ntmps31
    go_wp2
    refine bodyPost_ret (v := .agg #[.int .i64 3, .int .i64 1, .string ⟨#[]⟩]) ?_ rfl ⟨rfl, (Below.refl _ _).alloc (Nat.le_refl _) _⟩
    simp [results, Tryd.f31, go_sem]
set_option maxRecDepth 100000 in
set_option maxHeartbeats 1000000 in
theorem rInt_any (w : World) (k n : Int) (s : ByteArray) : Calls Tryd.prog 19 #[.agg #[.int .i64 k, .int .i64 n, .string s]] w fun e w' => e = .returned (.tuple #[.int .i64 (if isNum (k, n, s) then n else 0), .bool (decide (isNum (k, n, s)))]) ∧ Below w.heap.size w w' := by
  by_cases h : k = 0 ∨ k = 1
  · have h2 : isNum (k, n, s) := h
    rw [if_pos h2, decide_eq_true h2]
    rcases h with rfl | rfl
    all_goals
      clear h2
      go_enter Tryd.func19, Tryd.ntmps19
      go_wp2
      go_ret2
      exact ⟨rfl, (Below.refl _ _).alloc (Nat.le_refl _) _⟩
  · have h2 : ¬ isNum (k, n, s) := h
    rw [if_neg h2, decide_eq_false h2]
    have k0 : (k == 0) = false := by rw [beq_eq_false_iff_ne]; omega
    have k0' : decide (k = 0) = false := by rw [decide_eq_false_iff_not]; omega
    have k1 : (k == 1) = false := by rw [beq_eq_false_iff_ne]; omega
    have k1' : decide (k = 1) = false := by rw [decide_eq_false_iff_not]; omega
    clear h h2
    go_enter Tryd.func19, Tryd.ntmps19
    go_wp2
    go_ret2
    exact ⟨rfl, (Below.refl _ _).alloc (Nat.le_refl _) _⟩
def vtruth (x : V3) : Bool × Bool := if x.1 = 0 ∨ x.1 = 1 ∨ x.1 = 3 then (x.2.1 != 0, true) else (false, false)
set_option maxRecDepth 100000 in
set_option maxHeartbeats 1000000 in
theorem rTruth_any (w : World) (k n : Int) (s : ByteArray) : Calls Tryd.prog 17 #[.agg #[.int .i64 k, .int .i64 n, .string s]] w fun e w' => e = .returned (.tuple #[.bool (vtruth (k, n, s)).1, .bool (vtruth (k, n, s)).2]) ∧ Below w.heap.size w w' := by
  by_cases h : k = 0 ∨ k = 1 ∨ k = 3
  · rw [show vtruth (k, n, s) = (n != 0, true) from if_pos h]
    rcases h with rfl | rfl | rfl
    all_goals
      go_enter Tryd.func17, Tryd.ntmps17
      go_wp2
      go_ret2
      exact ⟨rfl, (Below.refl _ _).alloc (Nat.le_refl _) _⟩
  · rw [show vtruth (k, n, s) = (false, false) from if_neg h]
    have k0 : (k == 0) = false := by rw [beq_eq_false_iff_ne]; omega
    have k0' : decide (k = 0) = false := by rw [decide_eq_false_iff_not]; omega
    have k1 : (k == 1) = false := by rw [beq_eq_false_iff_ne]; omega
    have k1' : decide (k = 1) = false := by rw [decide_eq_false_iff_not]; omega
    have k3 : (k == 3) = false := by rw [beq_eq_false_iff_ne]; omega
    have k3' : decide (k = 3) = false := by rw [decide_eq_false_iff_not]; omega
    clear h
    go_enter Tryd.func17, Tryd.ntmps17
    go_wp2
    go_ret2
    exact ⟨rfl, (Below.refl _ _).alloc (Nat.le_refl _) _⟩
set_option maxRecDepth 100000 in
set_option maxHeartbeats 1000000 in
theorem truth_any (w : World) (k n : Int) (s : ByteArray) (hm : mayV (k, n, s)) : Calls Tryd.prog 16 #[.agg #[.int .i64 k, .int .i64 n, .string s]] w fun e w' => e = .returned (.tuple #[.bool (vtruth (k, n, s)).1, .bool (vtruth (k, n, s)).2]) ∧ Below w.heap.size w w' := by
  by_cases h : k = 0 ∨ k = 1 ∨ k = 3
  · rw [show vtruth (k, n, s) = (n != 0, true) from if_pos h]
    rcases h with rfl | rfl | rfl
    · have hn : n = 0 := by rcases hm with ⟨_, h, _⟩ | ⟨h, _⟩ | ⟨h, _⟩ | ⟨h, _⟩ | ⟨h, _⟩ <;> first | exact h | exact absurd h (by simp)
      clear hm
      subst hn
      go_enter Tryd.func16, Tryd.ntmps16
      go_wp2
      go_ret2
      exact ⟨rfl, (Below.refl _ _).alloc (Nat.le_refl _) _⟩
    · clear hm
      go_enter Tryd.func16, Tryd.ntmps16
      go_wp2
      go_ret2
      exact ⟨rfl, (Below.refl _ _).alloc (Nat.le_refl _) _⟩
    · have hn : n = 0 ∨ n = 1 := by rcases hm with ⟨h, _⟩ | ⟨h, _⟩ | ⟨h, _⟩ | ⟨_, _, h⟩ | ⟨h, _⟩ <;> first | exact h | exact absurd h (by simp)
      clear hm
      rcases hn with rfl | rfl
      all_goals
        go_enter Tryd.func16, Tryd.ntmps16
        go_wp2
        go_ret2
        exact ⟨rfl, (Below.refl _ _).alloc (Nat.le_refl _) _⟩
  · rw [show vtruth (k, n, s) = (false, false) from if_neg h]
    have k0 : (k == 0) = false := by rw [beq_eq_false_iff_ne]; omega
    have k0' : decide (k = 0) = false := by rw [decide_eq_false_iff_not]; omega
    have k1 : (k == 1) = false := by rw [beq_eq_false_iff_ne]; omega
    have k1' : decide (k = 1) = false := by rw [decide_eq_false_iff_not]; omega
    have k3 : (k == 3) = false := by rw [beq_eq_false_iff_ne]; omega
    have k3' : decide (k = 3) = false := by rw [decide_eq_false_iff_not]; omega
    clear h hm
    go_enter Tryd.func16, Tryd.ntmps16
    go_wp2
    go_ret2
    exact ⟨rfl, (Below.refl _ _).alloc (Nat.le_refl _) _⟩
set_option maxRecDepth 100000 in
set_option maxHeartbeats 1000000 in
theorem plus_any (w : World) (x y : Int) (hx : InR x) (hy : InR y) : Calls Tryd.prog 44 #[.int .i64 x, .int .i64 y] w fun e w' => e = .returned (.tuple #[.int .i64 (wrap64 (x + y)), .bool (decide (InR (x + y)))]) ∧ Below w.heap.size w w' := by
  rw [← sum_ok' hx hy]
  clear hx hy
  go_enter Tryd.func44, Tryd.ntmps44
  go_wp2
  go_ret2
  exact ⟨rfl, Below.refl _ _⟩
set_option maxRecDepth 100000 in
set_option maxHeartbeats 1000000 in
theorem times_any (w : World) (x y : Int) (hx : InR x) (hy : InR y) : Calls Tryd.prog 45 #[.int .i64 x, .int .i64 y] w fun e w' => e = .returned (.tuple #[.int .i64 (wrap64 (x * y)), .bool (decide (InR (x * y)))]) ∧ Below w.heap.size w w' := by
  by_cases h0 : x = 0 ∨ y = 0
  · have hz : x * y = 0 := by rcases h0 with rfl | rfl <;> simp
    rw [hz, show wrap64 0 = 0 from IntWalk.wrap64_in _ (by omega), show decide (InR 0) = true by decide]
    clear hz hx hy
    by_cases h1 : x = 0
    · subst h1
      clear h0
      go_enter Tryd.func45, Tryd.ntmps45
      go_wp2
      go_ret2
      exact ⟨rfl, Below.refl _ _⟩
    · have h2 : y = 0 := by omega
      subst h2
      have f1 : (x == 0) = false := by simpa using h1
      have f1' : decide (x = 0) = false := by simpa using h1
      clear h0 h1
      go_enter Tryd.func45, Tryd.ntmps45
      go_wp2
      go_ret2
      exact ⟨rfl, Below.refl _ _⟩
  · have hp := prod_ok (x := x) (y := y) (by omega) (by omega) hx hy
    have hx0 : x ≠ 0 := by omega
    have hy0 : y ≠ 0 := by omega
    have f1 : (x == 0) = false := by simpa using hx0
    have f1' : decide (x = 0) = false := by simpa using hx0
    have f2 : (y == 0) = false := by simpa using hy0
    have f2' : decide (y = 0) = false := by simpa using hy0
    obtain ⟨p, hpp⟩ : ∃ p, wrap64 (x * y) = p := ⟨_, rfl⟩
    rw [hpp] at hp ⊢
    obtain ⟨Q, hQ⟩ : ∃ Q, wrap64 (p.tdiv y) = Q := ⟨_, rfl⟩
    rw [hQ] at hp
    clear h0 hx0 hx hy
    by_cases h1 : Q = x
    · by_cases h2 : y = -1
      · by_cases h3 : x = (-9223372036854775808)
        · rw [decide_eq_false (p := InR (x * y)) fun h => (hp.2 h).2 ⟨h2, h3⟩]
          have f3 : (Q == x) = true := by simpa using h1
          have f3' : decide (Q = x) = true := by simpa using h1
          have f4 : (y == (-1)) = true := by simpa using h2
          have f4' : decide (y = (-1)) = true := by simpa using h2
          have f5 : (x == (-9223372036854775808)) = true := by simpa using h3
          have f5' : decide (x = (-9223372036854775808)) = true := by simpa using h3
          clear hp h1 h2 h3 hy0
          go_enter Tryd.func45, Tryd.ntmps45
          go_wp2
          · simp_all
          · refine bodyPost_ret (v := .tuple #[.int .i64 p, .bool false]) ?_ rfl ⟨rfl, Below.refl _ _⟩
            simp [results, Tryd.f45, go_sem]
        · rw [decide_eq_true (p := InR (x * y)) (hp.1 ⟨h1, fun h => h3 h.2⟩)]
          have f3 : (Q == x) = true := by simpa using h1
          have f3' : decide (Q = x) = true := by simpa using h1
          have f4 : (y == (-1)) = true := by simpa using h2
          have f4' : decide (y = (-1)) = true := by simpa using h2
          have f5 : (x == (-9223372036854775808)) = false := by simpa using h3
          have f5' : decide (x = (-9223372036854775808)) = false := by simpa using h3
          clear hp h1 h2 h3 hy0
          go_enter Tryd.func45, Tryd.ntmps45
          go_wp2
          · simp_all
          · refine bodyPost_ret (v := .tuple #[.int .i64 p, .bool true]) ?_ rfl ⟨rfl, Below.refl _ _⟩
            simp [results, Tryd.f45, go_sem]
      · rw [decide_eq_true (p := InR (x * y)) (hp.1 ⟨h1, fun h => h2 h.1⟩)]
        have f3 : (Q == x) = true := by simpa using h1
        have f3' : decide (Q = x) = true := by simpa using h1
        have f4 : (y == (-1)) = false := by simpa using h2
        have f4' : decide (y = (-1)) = false := by simpa using h2
        clear hp h1 h2 hy0
        go_enter Tryd.func45, Tryd.ntmps45
        go_wp2
        · simp_all
        · refine bodyPost_ret (v := .tuple #[.int .i64 p, .bool true]) ?_ rfl ⟨rfl, Below.refl _ _⟩
          simp [results, Tryd.f45, go_sem]
    · rw [decide_eq_false (p := InR (x * y)) fun h => h1 (hp.2 h).1]
      have f3 : (Q == x) = false := by simpa using h1
      have f3' : decide (Q = x) = false := by simpa using h1
      clear hp h1 hy0
      go_enter Tryd.func45, Tryd.ntmps45
      go_wp2
      · simp_all
      · refine bodyPost_ret (v := .tuple #[.int .i64 p, .bool false]) ?_ rfl ⟨rfl, Below.refl _ _⟩
        simp [results, Tryd.f45, go_sem]
theorem isEmpty_no (s : ByteArray) : s.toList.isEmpty = decide (s = noB) := by
  by_cases h : s = noB
  · subst h; decide +kernel
  · rw [decide_eq_false h, List.isEmpty_eq_false_iff]
    exact fun e => h (toList_inj (e.trans (by decide +kernel)))
theorem toNil (s : ByteArray) : s.toList = [] ↔ s = noB := ⟨fun h => toList_inj (h.trans (by decide +kernel)), fun h => by rw [h]; decide +kernel⟩
set_option maxRecDepth 100000 in
set_option maxHeartbeats 1000000 in
theorem may_0 (w : World) (n : Int) (s : ByteArray) : Calls Tryd.prog 14 #[.agg #[.int .i64 0, .int .i64 n, .string s]] w fun e w' => e = .returned (.bool (decide (mayV (0, n, s)))) ∧ Below w.heap.size w w' := by
  rw [show decide (mayV (0, n, s)) = decide (n = 0 ∧ s = noB) by simp [mayV]]
  go_enter Tryd.func14, Tryd.ntmps14
  go_wp2
  all_goals (go_ret; refine ⟨congrArg (fun b => Ending.returned (.bool b)) ?_, (Below.refl _ _).alloc (Nat.le_refl _) _⟩)
  all_goals ((try simp only [isEmpty_no] at *); (try simp only [toNil] at *))
  all_goals first | (simp_all; done) | (rw [Bool.eq_iff_iff]; simp_all; done) | (rw [Bool.eq_iff_iff]; simp_all; omega)
set_option maxRecDepth 100000 in
set_option maxHeartbeats 1000000 in
theorem may_1 (w : World) (n : Int) (s : ByteArray) : Calls Tryd.prog 14 #[.agg #[.int .i64 1, .int .i64 n, .string s]] w fun e w' => e = .returned (.bool (decide (mayV (1, n, s)))) ∧ Below w.heap.size w w' := by
  rw [show decide (mayV (1, n, s)) = decide (s = noB) by simp [mayV]]
  go_enter Tryd.func14, Tryd.ntmps14
  go_wp2
  all_goals (go_ret; refine ⟨congrArg (fun b => Ending.returned (.bool b)) ?_, (Below.refl _ _).alloc (Nat.le_refl _) _⟩)
  all_goals ((try simp only [isEmpty_no] at *); (try simp only [toNil] at *))
  all_goals first | (simp_all; done) | (rw [Bool.eq_iff_iff]; simp_all; done) | (rw [Bool.eq_iff_iff]; simp_all; omega)
set_option maxRecDepth 100000 in
set_option maxHeartbeats 1000000 in
theorem may_2 (w : World) (n : Int) (s : ByteArray) : Calls Tryd.prog 14 #[.agg #[.int .i64 2, .int .i64 n, .string s]] w fun e w' => e = .returned (.bool (decide (mayV (2, n, s)))) ∧ Below w.heap.size w w' := by
  rw [show decide (mayV (2, n, s)) = decide (n = 0 ∧ s.size ≤ 200) by simp [mayV]]
  go_enter Tryd.func14, Tryd.ntmps14
  go_wp2
  all_goals (go_ret; refine ⟨congrArg (fun b => Ending.returned (.bool b)) ?_, (Below.refl _ _).alloc (Nat.le_refl _) _⟩)
  all_goals ((try simp only [isEmpty_no] at *); (try simp only [toNil] at *))
  all_goals first | (simp_all; done) | (rw [Bool.eq_iff_iff]; simp_all; done) | (rw [Bool.eq_iff_iff]; simp_all; omega)
set_option maxRecDepth 100000 in
set_option maxHeartbeats 1000000 in
theorem may_3 (w : World) (n : Int) (s : ByteArray) : Calls Tryd.prog 14 #[.agg #[.int .i64 3, .int .i64 n, .string s]] w fun e w' => e = .returned (.bool (decide (mayV (3, n, s)))) ∧ Below w.heap.size w w' := by
  rw [show decide (mayV (3, n, s)) = decide (s = noB ∧ (n = 0 ∨ n = 1)) by simp [mayV]]
  go_enter Tryd.func14, Tryd.ntmps14
  go_wp2
  all_goals (go_ret; refine ⟨congrArg (fun b => Ending.returned (.bool b)) ?_, (Below.refl _ _).alloc (Nat.le_refl _) _⟩)
  all_goals ((try simp only [isEmpty_no] at *); (try simp only [toNil] at *))
  all_goals first | (simp_all; done) | (rw [Bool.eq_iff_iff]; simp_all; done) | (rw [Bool.eq_iff_iff]; simp_all; omega)
set_option maxRecDepth 100000 in
set_option maxHeartbeats 1000000 in
theorem may_4 (w : World) (n : Int) (s : ByteArray) : Calls Tryd.prog 14 #[.agg #[.int .i64 4, .int .i64 n, .string s]] w fun e w' => e = .returned (.bool (decide (mayV (4, n, s)))) ∧ Below w.heap.size w w' := by
  rw [show decide (mayV (4, n, s)) = decide (s = noB ∧ 1 ≤ n ∧ n ≤ 6) by simp [mayV]]
  go_enter Tryd.func14, Tryd.ntmps14
  go_wp2
  all_goals (go_ret; refine ⟨congrArg (fun b => Ending.returned (.bool b)) ?_, (Below.refl _ _).alloc (Nat.le_refl _) _⟩)
  all_goals ((try simp only [isEmpty_no] at *); (try simp only [toNil] at *))
  all_goals first | (simp_all; done) | (rw [Bool.eq_iff_iff]; simp_all; done) | (rw [Bool.eq_iff_iff]; simp_all; omega)
set_option maxRecDepth 100000 in
set_option maxHeartbeats 1000000 in
theorem may_else (w : World) (k n : Int) (s : ByteArray) (h : k < 0 ∨ 4 < k) : Calls Tryd.prog 14 #[.agg #[.int .i64 k, .int .i64 n, .string s]] w fun e w' => e = .returned (.bool false) ∧ Below w.heap.size w w' := by
  have k0 : (k == 0) = false := by rw [beq_eq_false_iff_ne]; omega
  have k0' : decide (k = 0) = false := by rw [decide_eq_false_iff_not]; omega
  have k1 : (k == 1) = false := by rw [beq_eq_false_iff_ne]; omega
  have k1' : decide (k = 1) = false := by rw [decide_eq_false_iff_not]; omega
  have k2 : (k == 2) = false := by rw [beq_eq_false_iff_ne]; omega
  have k2' : decide (k = 2) = false := by rw [decide_eq_false_iff_not]; omega
  have k3 : (k == 3) = false := by rw [beq_eq_false_iff_ne]; omega
  have k3' : decide (k = 3) = false := by rw [decide_eq_false_iff_not]; omega
  have k4 : (k == 4) = false := by rw [beq_eq_false_iff_ne]; omega
  have k4' : decide (k = 4) = false := by rw [decide_eq_false_iff_not]; omega
  clear h
  go_enter Tryd.func14, Tryd.ntmps14
  go_wp2
  go_ret
  exact ⟨rfl, (Below.refl _ _).alloc (Nat.le_refl _) _⟩
theorem may_any (w : World) (k n : Int) (s : ByteArray) : Calls Tryd.prog 14 #[.agg #[.int .i64 k, .int .i64 n, .string s]] w fun e w' => e = .returned (.bool (decide (mayV (k, n, s)))) ∧ Below w.heap.size w w' := by
  by_cases h : k < 0 ∨ 4 < k
  · rw [show decide (mayV (k, n, s)) = false from decide_eq_false (by rintro (⟨h1, _⟩ | ⟨h1, _⟩ | ⟨h1, _⟩ | ⟨h1, _⟩ | ⟨h1, _⟩) <;> (simp only at h1; omega))]
    exact may_else w k n s h
  · rcases (show k = 0 ∨ k = 1 ∨ k = 2 ∨ k = 3 ∨ k = 4 by omega) with rfl | rfl | rfl | rfl | rfl
    · exact may_0 w n s
    · exact may_1 w n s
    · exact may_2 w n s
    · exact may_3 w n s
    · exact may_4 w n s
end Go.Proofs.YtejpfpklgkcagaaDoor
