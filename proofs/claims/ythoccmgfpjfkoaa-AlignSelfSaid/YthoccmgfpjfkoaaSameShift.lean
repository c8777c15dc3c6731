/- The walks of chequerref7.SameShift, chequerlaw16.may. -/
import Derived.Test.YthoccmgfpjfkoaaSheets
import Derived.Test.YthoccmgfpjfkoaaInts
namespace Go.Proofs.Ythoccmgfpjfkoaa
open Go.RowKit

set_option maxRecDepth 100000 in
set_option maxHeartbeats 1000000 in
theorem sameShift_any (w : World) (A B C D : Option Addr) (xs ys : List Int) (nm : ByteArray) (n m a b c d : Nat) (N M : Int) (hn : xs.length = n) (hm : ys.length = m) (hA : At1 vInt w A xs) (hB : At1 vInt w B ys) (hC : At1 vInt w C xs) (hD : At1 vInt w D ys) :
    Calls Try.prog 16 #[.agg #[.string nm, .slice A n a, .int .i64 N, .slice B m b, .int .i64 M, .bool false], .agg #[.string nm, .slice C n c, .int .i64 N, .slice D m d, .int .i64 M, .bool false]] w fun e w' => e = .returned (.bool true) ∧ Below w.heap.size w w' := by
  have HA := Lib.hid hA
  have HB := Lib.hid hB
  have HC := Lib.hid hC
  have HD := Lib.hid hD
  have HN := Lib.hid hn
  have HM := Lib.hid hm
  clear hA hB hC hD hn hm
  go_enter Try.func16, Try.ntmps16
  have hst := str_eq_true (rfl : nm = nm)
  go_wp2_with fail
  obtain ⟨W, hW⟩ : ∃ W, W = (w.alloc (.cells #[.string nm, .slice A n a, .int .i64 N, .slice B m b, .int .i64 M, .bool false] 42)).alloc (.cells #[.string nm, .slice C n c, .int .i64 N, .slice D m d, .int .i64 M, .bool false] 42) := ⟨_, rfl⟩
  have hs0 := heap_alloc_new w (.cells #[.string nm, .slice A n a, .int .i64 N, .slice B m b, .int .i64 M, .bool false] 42)
  have hs1 := heap_alloc_new (w.alloc (.cells #[.string nm, .slice A n a, .int .i64 N, .slice B m b, .int .i64 M, .bool false] 42)) (.cells #[.string nm, .slice C n c, .int .i64 N, .slice D m d, .int .i64 M, .bool false] 42)
  rw [World.size_alloc] at hs1
  have hS0 : W.heap[w.heap.size]? = some (.cells #[.string nm, .slice A n a, .int .i64 N, .slice B m b, .int .i64 M, .bool false] 42 (0, 0)) := by rw [hW]; exact (Below.heap_alloc _ _ _ (by simp)).trans hs0
  have hS1 : W.heap[w.heap.size + 1]? = some (.cells #[.string nm, .slice C n c, .int .i64 N, .slice D m d, .int .i64 M, .bool false] 42 (0, 0)) := by rw [hW]; exact hs1
  have hsW : W.heap.size = w.heap.size + 2 := by rw [hW]; simp
  have hbW : Below w.heap.size w W := by rw [hW]; exact ((Below.refl _ _).alloc (Nat.le_refl _) _).alloc (by simp) _
  rw [← hW]
  clear hW hs0 hs1
  refine (sameMap_any _ A C xs xs n n a c N HN.out HN.out (HA.out.below hbW) (HC.out.below hbW) rfl).mono ?_
  rintro e w1 ⟨rfl, hb1⟩
  obtain ⟨x0, x1, x2, x3, x4, x5, _⟩ := shift6 ((hb1.block w.heap.size (by omega)).trans hS0)
  obtain ⟨y0, y1, y2, y3, y4, y5, _⟩ := shift6 ((hb1.block (w.heap.size + 1) (by omega)).trans hS1)
  have hb2 := hbW.trans (hb1.mono hbW.size)
  go_wp2_with fail
  refine (sameMap_any _ B D ys ys m m b d M HM.out HM.out (HB.out.below hb2) (HD.out.below hb2) rfl).mono ?_
  rintro e w3 ⟨rfl, hb3⟩
  go_wp2
  go_ret
  exact ⟨rfl, hb2.trans (hb3.mono hb2.size)⟩

/-- what 'may' tells -/
def MayTell (rs : List SRow) (cols : Int) : Prop := 0 ≤ cols ∧ cols ≤ 12 ∧ rs.length ≤ 24 ∧ ∀ r ∈ rs, (r.l.length : Int) = cols
def MayPost (w : World) (rs : List SRow) (cols : Int) (e : Ending) (w' : World) : Prop := ∃ b, e = .returned (.bool b) ∧ (b = true → MayTell rs cols) ∧ Below w.heap.size w w'
set_option maxRecDepth 100000 in
set_option maxHeartbeats 1000000 in
theorem may_any (w : World) (A : Option Addr) (rs : List SRow) (c : Nat) (name : ByteArray) (cols : Int) (hA : Grid w A rs) :
    Calls Try.prog 13 #[.agg #[.string name, .int .i64 cols, .slice A rs.length c]] w (MayPost w rs cols) := by
  have HA := Lib.hid hA
  clear hA
  by_cases h0 : cols < 0
  · go_enter Try.func13, Try.ntmps13
    go_wp2
    go_ret
    exact ⟨false, rfl, by simp, (Below.refl _ _).alloc (Nat.le_refl _) _⟩
  by_cases h1 : 12 < cols
  · go_enter Try.func13, Try.ntmps13
    go_wp2
    go_ret
    exact ⟨false, rfl, by simp, (Below.refl _ _).alloc (Nat.le_refl _) _⟩
  by_cases h2 : 24 < rs.length
  · go_enter Try.func13, Try.ntmps13
    go_wp2
    go_ret
    exact ⟨false, rfl, by simp, (Below.refl _ _).alloc (Nat.le_refl _) _⟩
  have H0 : Hid (0 ≤ cols ∧ cols ≤ 12 ∧ rs.length ≤ 24) := ⟨by omega, by omega, by omega⟩
  go_enter Try.func13, Try.ntmps13
  go_wp2
  obtain ⟨W, hW⟩ : ∃ W, W = w.alloc (.cells #[.string name, .int .i64 cols, .slice A rs.length c] 24) := ⟨_, rfl⟩
  have hS : W.heap[w.heap.size]? = some (.cells #[.string name, .int .i64 cols, .slice A rs.length c] 24 (0, 0)) := by rw [hW]; exact heap_alloc_new w _
  have hsW : W.heap.size = w.heap.size + 1 := by rw [hW]; simp
  have hbW : Below w.heap.size w W := by rw [hW]; exact (Below.refl _ _).alloc (Nat.le_refl _) _
  have GA := Lib.hid (HA.out.below hbW)
  rw [← hW]
  clear hW HA
  go_loopw [3] (fun i wr => ∃ k : Nat, k ≤ rs.length ∧ i = .int .i64 k ∧ Hid (∀ r ∈ rs.take k, (r.l.length : Int) = cols) ∧ Below W.heap.size W wr) (fun i _ => rs.length - (intOf i).toNat)
  case atStart => exact ⟨0, Nat.zero_le _, rfl, by intro r hr; simp at hr, Below.refl _ _⟩
  case round =>
    obtain ⟨k, hk, rfl, hall, hb⟩ := hrel
    have hS1 := (hb.block w.heap.size (by omega)).trans hS
    obtain ⟨_, x1, x2⟩ := sheet3 hS1
    by_cases hlt : k < rs.length
    · obtain ⟨ad, rfl, hc⟩ := (GA.out.below hb).top.at_ hlt
      have hsn : Hid (rs.take (k + 1) = rs.take k ++ [rs[k]]) := take_snoc hlt
      generalize rs[k] = r at hc hsn
      obtain ⟨rA, rl, rc⟩ := r
      dsimp only [vRow] at hc
      have hkz : (k : Int) < (rs.length : Int) := by omega
      by_cases he : (rl.length : Int) = cols
      · go_wp2
        go_quiet (fail)
        go_wp2
        go_roundw
        case rel =>
          refine ⟨k + 1, by omega, by go_num, ?_, below_drewN hb _⟩
          intro r hr
          rw [hsn.out] at hr
          rcases List.mem_append.1 hr with hr | hr
          · exact hall.out r hr
          · rw [List.mem_singleton] at hr; subst hr; exact he
        case measure => first | (simp [intOf]; done) | (simp [intOf]; omega)
      · have hne : ((rl.length : Int) != cols) = true := by simp [bne_iff_ne]; exact he
        go_wp2
        go_quiet (fail)
        go_wp2
        go_ret
        exact ⟨false, rfl, by simp, hbW.trans ((below_drewN hb _).mono hbW.size)⟩
    · obtain rfl : k = rs.length := by omega
      rw [List.take_length] at hall
      go_wp2
      go_ret
      exact ⟨true, rfl, fun _ => ⟨H0.out.1, H0.out.2.1, H0.out.2.2, hall.out⟩, hbW.trans (hb.mono hbW.size)⟩
end Go.Proofs.Ythoccmgfpjfkoaa
