/- cmp.Compare, cmp.Or. Its lines are those of XValCmp. -/
import Derived.Test.YtgminjlnnpaefaaGreatDoorChecked
import Derived.Test.YtgminjlnnpaefaaGreatDoorCmpPlain
import Derived.Lib.Hide
namespace Go.Proofs.YtgminjlnnpaefaaGreatDoor
open Go.RowKit
theorem icmp_lt {x y : Int} (h : x < y) : icmp x y = -1 := if_pos h
theorem icmp_gt {x y : Int} (h : y < x) : icmp x y = 1 := by unfold icmp; rw [if_neg (by omega), if_pos h]
theorem icmp_eq {x y : Int} (h1 : y ≤ x) (h2 : x ≤ y) : icmp x y = 0 := by unfold icmp; rw [if_neg (by omega), if_neg (by omega)]
set_option maxRecDepth 100000 in
theorem cmpInt_any (w : World) (x y : Int) :
    Calls Tryz.prog 12 #[.int .i64 x, .int .i64 y] w fun e w' => e = .returned (.int .i64 (icmp x y)) ∧ Below w.heap.size w w' := by
  go_enter Tryz.func12, Tryz.ntmps12
  go_wp2
  · rename_i h
    refine bodyPost_ret (v := .int .i64 (-1)) (by simp [results, Tryz.f12, go_sem]) rfl ⟨by rw [icmp_lt h], Below.refl _ _⟩
  · rename_i h
    refine bodyPost_ret (v := .int .i64 1) (by simp [results, Tryz.f12, go_sem]) rfl ⟨by rw [icmp_gt h], Below.refl _ _⟩
  · rename_i h1 h2
    refine bodyPost_ret (v := .int .i64 0) (by simp [results, Tryz.f12, go_sem]) rfl ⟨by rw [icmp_eq h1 h2], Below.refl _ _⟩
theorem gtrStr (x y : ByteArray) (w : World) : (binOp .gtr 9 (.string x) (.string y)).run Tryz.prog w = .ok (.bool (!(Op.bytesLess x.toList y.toList || x.toList == y.toList))) w := by simp [binOp, Op.stringOp, go_sem]
set_option maxRecDepth 100000 in
theorem cmpStr_any (w : World) (x y : ByteArray) :
    Calls Tryz.prog 11 #[.string x, .string y] w fun e w' => e = .returned (.int .i64 (scmp x y)) ∧ Below w.heap.size w w' := by
  have hg := gtrStr x y w
  rcases three x y with h | h | h
  · go_enter Tryz.func11, Tryz.ntmps11
    go_wp2
    refine bodyPost_ret (v := .int .i64 (-1)) (by simp [results, Tryz.f11, go_sem]) rfl ⟨by rw [scmp_lt h], Below.refl _ _⟩
  · subst h
    have h1 : Op.bytesLess x.toList x.toList = false := bl_irrefl _
    have h2 : (x.toList == x.toList) = true := str_eq_true rfl
    rw [h1, h2] at hg
    clear h2
    go_enter Tryz.func11, Tryz.ntmps11
    go_wp2
    refine bodyPost_ret (v := .int .i64 0) (by simp [results, Tryz.f11, go_sem]) rfl ⟨by rw [scmp_eq], Below.refl _ _⟩
  · have h1 : Op.bytesLess x.toList y.toList = false := bl_asymm _ _ h
    have h2 : (x.toList == y.toList) = false := str_eq_false fun e => by rw [e, bl_irrefl] at h; cases h
    rw [h1, h2] at hg
    clear h2
    go_enter Tryz.func11, Tryz.ntmps11
    go_wp2
    refine bodyPost_ret (v := .int .i64 1) (by simp [results, Tryz.f11, go_sem]) rfl ⟨by rw [scmp_gt h], Below.refl _ _⟩
theorem drop_first {c : List Int} {k : Nat} (hk : k < c.length) : firstOf (c.drop k) = if c[k] ≠ 0 then c[k] else firstOf (c.drop (k + 1)) := by
  rw [List.drop_eq_getElem_cons hk]; rfl
set_option maxRecDepth 100000 in
theorem or_any (w : World) (A : Option Addr) (cap : Nat) (c : List Int) (hA : At1 vInt w A c) :
    Calls Tryz.prog 10 #[.slice A c.length cap] w fun e w' => e = .returned (.int .i64 (firstOf c)) ∧ Below w.heap.size w w' := by
  have hm := hA.1
  go_enter Tryz.func10, Tryz.ntmps10
  go_wp2
  go_loopw [5, 8] (fun _ i wr => ∃ k : Nat, k ≤ c.length ∧ i = .int .i64 k ∧ Hid (firstOf c = firstOf (c.drop k)) ∧ w = wr) (fun _ i _ => c.length - (intOf i).toNat)
  case atStart => exact ⟨0, Nat.zero_le _, rfl, rfl, rfl⟩
  case round =>
    obtain ⟨k, hk, rfl, hd, rfl⟩ := hrel
    by_cases hlt : k < c.length
    · obtain ⟨ad, rfl, hcell⟩ := hA.at_ hlt
      have hd1 := hd.out
      rw [drop_first hlt] at hd1
      by_cases hz : c[k] = 0
      · have hd2 : Hid (firstOf c = firstOf (c.drop (k + 1))) := by rw [hd1, if_neg (by omega)]; exact rfl
        rw [hz] at hcell
        clear hd hd1 hz
        go_wp2
        go_roundw
        case rel => exact ⟨k + 1, by omega, by go_num, hd2, trivial⟩
        case measure => first | (simp [intOf]; done) | (simp [intOf]; omega)
      · rw [if_pos hz] at hd1
        have HD := Lib.hid hd1
        clear hd hd1
        go_wp2
        go_ret
        exact ⟨by rw [HD.out]; rfl, Below.refl _ _⟩
    · have hd1 := hd.out
      have e : c.drop k = [] := List.drop_eq_nil_of_le (by omega)
      rw [e] at hd1
      have HD := Lib.hid hd1
      clear hd hd1 e
      go_wp2
      go_ret
      exact ⟨by rw [HD.out]; rfl, Below.refl _ _⟩
end Go.Proofs.YtgminjlnnpaefaaGreatDoor
