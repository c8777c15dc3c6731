/- The walk of chequerref1.Ints. -/
import Derived.Test.YthoccmgfpjfkoaaLcsB
namespace Go.Proofs.Ythoccmgfpjfkoaa
open Go.RowKit
theorem ints_any (w : World) (A B : Option Addr) (xs ys : List Int) (c d : Nat) (hA : At1 vInt w A xs) (hB : At1 vInt w B ys) :
    Calls Try.prog 28 #[.slice A xs.length c, .slice B ys.length d] w fun e w' => e = .returned (.bool (decide (xs = ys))) ∧ ∃ n, w' = w.drewN n := by
  obtain ⟨hx, hA⟩ := hA
  obtain ⟨hy, hB⟩ := hB
  by_cases hl : xs.length = ys.length
  · have hl' : ((xs.length : Int) != (ys.length : Int)) = false := by simp [hl]
    have HL := Lib.hid hl
    clear hl
    go_enter Try.func28, Try.ntmps28
    go_wp2
    go_loopw [5] (fun i wr => ∃ (k n : Nat), k ≤ xs.length ∧ i = .int .i64 k ∧ xs.take k = ys.take k ∧ wr = w.drewN n) (fun i _ => xs.length - (intOf i).toNat)
    case atStart => exact ⟨0, 0, Nat.zero_le _, rfl, rfl, rfl⟩
    case round =>
      obtain ⟨k, n, hk, rfl, hall, rfl⟩ := hrel
      by_cases hlt : k < xs.length
      · have hlt2 : k < ys.length := by rw [← HL.out]; exact hlt
        obtain ⟨ad, rfl, hc⟩ := hA (by omega)
        obtain ⟨bd, rfl, hd⟩ := hB (by omega)
        have hc1 := hc k _ (List.getElem?_eq_getElem hlt)
        have hd1 := hd k _ (List.getElem?_eq_getElem hlt2)
        clear hc hd hA hB
        have H := Lib.hid hall
        clear hall
        go_wp2
        go_quiet (fail)
        go_wp2
        · have hne : (xs[k] != ys[k]) = true := by assumption
          have hxy : xs ≠ ys := fun h => by subst h; simp at hne
          go_ret
          exact ⟨by simp [hxy], _, World.drewN_drewN _ _ _⟩
        · have he : (xs[k] != ys[k]) = false := by assumption
          go_roundw
          case rel => exact ⟨k + 1, n + nq, by omega, by go_num, (by rw [take_snoc hlt, take_snoc hlt2, H.out, (by simpa using he : xs[k] = ys[k])]), rfl⟩
          case measure => simp [intOf]; omega
      · go_wp2
        go_ret
        have hxy : xs = ys := by
          rw [List.take_of_length_le (by omega), List.take_of_length_le (by have := HL.out; omega)] at hall
          exact hall
        exact ⟨by simp [hxy], _, rfl⟩
  · have hl' : ((xs.length : Int) != (ys.length : Int)) = true := by simp; omega
    go_enter Try.func28, Try.ntmps28
    go_wp2
    go_ret
    have hne : xs ≠ ys := fun h => hl (by rw [h])
    exact ⟨by simp [hne], 0, rfl⟩

/-- two rows by their lengths -/
theorem ints_rd (w : World) (A B : Option Addr) (xs ys : List Int) (n m c d : Nat) (hn : xs.length = n) (hm : ys.length = m) (hA : At1 vInt w A xs) (hB : At1 vInt w B ys) :
    Calls Try.prog 28 #[.slice A n c, .slice B m d] w fun e w' => e = .returned (.bool (decide (xs = ys))) ∧ Below w.heap.size w w' := by
  subst hn hm
  refine (ints_any w A B xs ys c d hA hB).mono ?_
  rintro e w' ⟨rfl, n, rfl⟩
  exact ⟨rfl, below_of_drewN w n⟩

set_option maxRecDepth 100000 in
theorem sameMap_any (w : World) (A B : Option Addr) (xs ys : List Int) (n m c d : Nat) (N : Int) (hn : xs.length = n) (hm : ys.length = m) (hA : At1 vInt w A xs) (hB : At1 vInt w B ys) (hxy : xs = ys) :
    Calls Try.prog 9 #[.agg #[.slice A n c, .int .i64 N], .agg #[.slice B m d, .int .i64 N]] w fun e w' => e = .returned (.bool true) ∧ Below w.heap.size w w' := by
  have HA := Lib.hid hA
  have HB := Lib.hid hB
  clear hA hB
  go_enter Try.func9, Try.ntmps9
  go_wp2_with fail
  have hb : Below w.heap.size w ((w.alloc (.cells #[.slice A n c, .int .i64 N] 30)).alloc (.cells #[.slice B m d, .int .i64 N] 30)) := ((Below.refl _ _).alloc (Nat.le_refl _) _).alloc (by simp) _
  refine (ints_rd _ A B xs ys n m c d hn hm (HA.out.below hb) (HB.out.below hb)).mono ?_
  rintro e w2 ⟨rfl, hb2⟩
  rw [decide_eq_true hxy]
  go_wp2
  go_ret
  exact ⟨rfl, hb.trans (hb2.mono hb.size)⟩
end Go.Proofs.Ythoccmgfpjfkoaa
