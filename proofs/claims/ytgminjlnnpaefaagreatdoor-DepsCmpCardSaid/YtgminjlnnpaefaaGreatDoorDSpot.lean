/- chequerref7's CmpSpot. -/
import Derived.Test.YtgminjlnnpaefaaGreatDoorDCmp
namespace Go.Proofs.YtgminjlnnpaefaaGreatDoor
open Go.RowKit
theorem sp1 {s t : ByteArray} (h : Op.bytesLess s.toList t.toList = true) (n k n2 k2 : Int) : spcmp (s, n, k) (t, n2, k2) = -1 := by simp [spcmp, lex, scmp_lt h]
theorem sp2 {s t : ByteArray} (h : Op.bytesLess t.toList s.toList = true) (n k n2 k2 : Int) : spcmp (s, n, k) (t, n2, k2) = 1 := by simp [spcmp, lex, scmp_gt h]
theorem sp3 (s : ByteArray) {n n2 : Int} (h : n < n2) (k k2 : Int) : spcmp (s, n, k) (s, n2, k2) = -1 := by simp [spcmp, lex, scmp_eq, icmp_lt h]
theorem sp4 (s : ByteArray) {n n2 : Int} (h : n2 < n) (k k2 : Int) : spcmp (s, n, k) (s, n2, k2) = 1 := by simp [spcmp, lex, scmp_eq, icmp_gt h]
theorem sp5 (s : ByteArray) (n : Int) {k k2 : Int} (h : k < k2) : spcmp (s, n, k) (s, n, k2) = -1 := by simp [spcmp, lex, scmp_eq, icmp_eq (Int.le_refl n) (Int.le_refl n), icmp_lt h]
theorem sp6 (s : ByteArray) (n : Int) {k k2 : Int} (h : k2 < k) : spcmp (s, n, k) (s, n, k2) = 1 := by simp [spcmp, lex, scmp_eq, icmp_eq (Int.le_refl n) (Int.le_refl n), icmp_gt h]
theorem sp7 (s : ByteArray) (n k : Int) : spcmp (s, n, k) (s, n, k) = 0 := by simp [spcmp, lex, scmp_eq, icmp_eq (Int.le_refl n) (Int.le_refl n), icmp_eq (Int.le_refl k) (Int.le_refl k)]
theorem bel2 (w : World) (a b : Obj) : Below w.heap.size w ((w.alloc a).alloc b) := ((Below.refl _ _).alloc (Nat.le_refl _) _).alloc (by simp) _
set_option maxRecDepth 100000 in
set_option maxHeartbeats 2000000 in
theorem rc1 (w : World) (s t : ByteArray) (n k n2 k2 : Int) (h : Op.bytesLess s.toList t.toList = true) :
    Calls Tryz.prog 6 #[.agg #[.string s, .int .i64 n, .int .i64 k], .agg #[.string t, .int .i64 n2, .int .i64 k2]] w fun e w' => e = .returned (.int .i64 (-1)) ∧ Below w.heap.size w w' := by
  have hne : ¬ s.toList = t.toList := fun e => by rw [e, bl_irrefl] at h; cases h
  go_enter Tryz.func6, Tryz.ntmps6
  go_wp2
  all_goals first
    | (refine bodyPost_ret (v := .int .i64 (-1)) (by simp [results, Tryz.f6, go_sem]; done) rfl ⟨rfl, bel2 _ _ _⟩; done)
    | (exfalso; simp_all; done)
    | (exfalso; omega)
set_option maxRecDepth 100000 in
set_option maxHeartbeats 2000000 in
theorem rc2 (w : World) (s t : ByteArray) (n k n2 k2 : Int) (h : Op.bytesLess t.toList s.toList = true) :
    Calls Tryz.prog 6 #[.agg #[.string s, .int .i64 n, .int .i64 k], .agg #[.string t, .int .i64 n2, .int .i64 k2]] w fun e w' => e = .returned (.int .i64 (1)) ∧ Below w.heap.size w w' := by
  have hne : ¬ s.toList = t.toList := fun e => by rw [e, bl_irrefl] at h; cases h
  have h2 : Op.bytesLess s.toList t.toList = false := bl_asymm _ _ h
  go_enter Tryz.func6, Tryz.ntmps6
  go_wp2
  all_goals first
    | (refine bodyPost_ret (v := .int .i64 (1)) (by simp [results, Tryz.f6, go_sem]; done) rfl ⟨rfl, bel2 _ _ _⟩; done)
    | (exfalso; simp_all; done)
    | (exfalso; omega)
set_option maxRecDepth 100000 in
set_option maxHeartbeats 2000000 in
theorem rc3 (w : World) (s : ByteArray) (n k n2 k2 : Int) (h : n < n2) :
    Calls Tryz.prog 6 #[.agg #[.string s, .int .i64 n, .int .i64 k], .agg #[.string s, .int .i64 n2, .int .i64 k2]] w fun e w' => e = .returned (.int .i64 (-1)) ∧ Below w.heap.size w w' := by
  have h2 : Op.bytesLess s.toList s.toList = false := bl_irrefl _
  have hne : ¬ n = n2 := by omega
  go_enter Tryz.func6, Tryz.ntmps6
  go_wp2
  all_goals first
    | (refine bodyPost_ret (v := .int .i64 (-1)) (by simp [results, Tryz.f6, go_sem]; done) rfl ⟨rfl, bel2 _ _ _⟩; done)
    | (exfalso; simp_all; done)
    | (exfalso; omega)
set_option maxRecDepth 100000 in
set_option maxHeartbeats 2000000 in
theorem rc4 (w : World) (s : ByteArray) (n k n2 k2 : Int) (h : n2 < n) :
    Calls Tryz.prog 6 #[.agg #[.string s, .int .i64 n, .int .i64 k], .agg #[.string s, .int .i64 n2, .int .i64 k2]] w fun e w' => e = .returned (.int .i64 (1)) ∧ Below w.heap.size w w' := by
  have h2 : Op.bytesLess s.toList s.toList = false := bl_irrefl _
  have hne : ¬ n = n2 := by omega
  have hnl : ¬ n < n2 := by omega
  go_enter Tryz.func6, Tryz.ntmps6
  go_wp2
  all_goals first
    | (refine bodyPost_ret (v := .int .i64 (1)) (by simp [results, Tryz.f6, go_sem]; done) rfl ⟨rfl, bel2 _ _ _⟩; done)
    | (exfalso; simp_all; done)
    | (exfalso; omega)
set_option maxRecDepth 100000 in
set_option maxHeartbeats 2000000 in
theorem rc5 (w : World) (s : ByteArray) (n k k2 : Int) (h : k < k2) :
    Calls Tryz.prog 6 #[.agg #[.string s, .int .i64 n, .int .i64 k], .agg #[.string s, .int .i64 n, .int .i64 k2]] w fun e w' => e = .returned (.int .i64 (-1)) ∧ Below w.heap.size w w' := by
  have h2 : Op.bytesLess s.toList s.toList = false := bl_irrefl _
  have hne : ¬ k = k2 := by omega
  have hnl : ¬ n < n := by omega
  go_enter Tryz.func6, Tryz.ntmps6
  go_wp2
  all_goals first
    | (refine bodyPost_ret (v := .int .i64 (-1)) (by simp [results, Tryz.f6, go_sem]; done) rfl ⟨rfl, bel2 _ _ _⟩; done)
    | (exfalso; simp_all; done)
    | (exfalso; omega)
set_option maxRecDepth 100000 in
set_option maxHeartbeats 2000000 in
theorem rc6 (w : World) (s : ByteArray) (n k k2 : Int) (h : k2 < k) :
    Calls Tryz.prog 6 #[.agg #[.string s, .int .i64 n, .int .i64 k], .agg #[.string s, .int .i64 n, .int .i64 k2]] w fun e w' => e = .returned (.int .i64 (1)) ∧ Below w.heap.size w w' := by
  have h2 : Op.bytesLess s.toList s.toList = false := bl_irrefl _
  have hne : ¬ k = k2 := by omega
  have hnk : ¬ k < k2 := by omega
  have hnl : ¬ n < n := by omega
  go_enter Tryz.func6, Tryz.ntmps6
  go_wp2
  all_goals first
    | (refine bodyPost_ret (v := .int .i64 (1)) (by simp [results, Tryz.f6, go_sem]; done) rfl ⟨rfl, bel2 _ _ _⟩; done)
    | (exfalso; simp_all; done)
    | (exfalso; omega)
set_option maxRecDepth 100000 in
set_option maxHeartbeats 2000000 in
theorem rc7 (w : World) (s : ByteArray) (n k : Int)  :
    Calls Tryz.prog 6 #[.agg #[.string s, .int .i64 n, .int .i64 k], .agg #[.string s, .int .i64 n, .int .i64 k]] w fun e w' => e = .returned (.int .i64 (0)) ∧ Below w.heap.size w w' := by
  go_enter Tryz.func6, Tryz.ntmps6
  go_wp2
  all_goals first
    | (refine bodyPost_ret (v := .int .i64 (0)) (by simp [results, Tryz.f6, go_sem]; done) rfl ⟨rfl, bel2 _ _ _⟩; done)
    | (exfalso; simp_all; done)
    | (exfalso; omega)
theorem rcmp_any (w : World) (s t : ByteArray) (n k n2 k2 : Int) :
    Calls Tryz.prog 6 #[.agg #[.string s, .int .i64 n, .int .i64 k], .agg #[.string t, .int .i64 n2, .int .i64 k2]] w fun e w' => e = .returned (.int .i64 (spcmp (s, n, k) (t, n2, k2))) ∧ Below w.heap.size w w' := by
  rcases three s t with h | rfl | h
  · rw [sp1 h]; exact rc1 w s t n k n2 k2 h
  · by_cases h1 : n < n2
    · rw [sp3 s h1]; exact rc3 w s n k n2 k2 h1
    · by_cases h2 : n2 < n
      · rw [sp4 s h2]; exact rc4 w s n k n2 k2 h2
      · obtain rfl : n = n2 := by omega
        by_cases h3 : k < k2
        · rw [sp5 s n h3]; exact rc5 w s n k k2 h3
        · by_cases h4 : k2 < k
          · rw [sp6 s n h4]; exact rc6 w s n k k2 h4
          · obtain rfl : k = k2 := by omega
            rw [sp7]; exact rc7 w s n k
  · rw [sp2 h]; exact rc2 w s t n k n2 k2 h
end Go.Proofs.YtgminjlnnpaefaaGreatDoor
