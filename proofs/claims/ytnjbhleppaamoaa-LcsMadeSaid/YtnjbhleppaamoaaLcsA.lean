/- The walks of the small functions of the law: letters, dealt, great, r1.Ints. -/
import Derived.Test.YtnjbhleppaamoaaChecked
import Derived.Test.YtnjbhleppaamoaaMem
import Derived.Test.YtnjbhleppaamoaaLcsPlain
import Derived.WalkSpells
import Derived.WalkLawsBesides
import Derived.Deep.QuietTactic
import Derived.BigQuiet
import Derived.Lib.Hide
namespace Go.Proofs.Ytnjbhleppaamoaa
open Go.RowKit

theorem eStr : EInfo Try.prog 24 9 (.string ByteArray.empty) 1 16 := ⟨Try.underlying24, by kernel_rfl, rfl, by decide, by decide⟩

def letter (n : UInt8) : ByteArray := ⟨#[97 + n % 5]⟩
theorem letter_num (n : UInt8) : 97 + ((n.toNat : Int) % 5) = ((97 + n % 5 : UInt8).toNat : Int) := by
  have h : (97 + n % 5 : UInt8).toNat = 97 + n.toNat % 5 := by
    rw [UInt8.toNat_add, UInt8.toNat_mod]
    have : n.toNat % 5 < 5 := Nat.mod_lt _ (by omega)
    show (97 + n.toNat % 5) % 256 = _
    omega
  rw [h]; omega

set_option maxHeartbeats 400000 in
theorem letters_any (w : World) (A : Option Addr) (ns : List UInt8) (c : Nat) (hA : At1 vByte w A ns) (hr : ns.length ≤ 140737488351232 / 16) :
    Calls Try.prog 8 #[.slice A ns.length c] w fun e w' => ∃ v, e = .returned v ∧ w'.ownsRow w.heap.size 9 1 v ns.length (ns.map fun n => vStr (letter n)) ∧ Below w.heap.size w w' := by
  obtain ⟨hx, hA⟩ := hA
  go_enter Try.func8, Try.ntmps8
  go_wp2
  go_loopw [3, 4] (fun v i wr => ∃ k : Nat, k ≤ ns.length ∧ i = .int .i64 k ∧ wr.ownsRow w.heap.size 9 1 v k ((ns.take k).map fun n => vStr (letter n)) ∧ Below w.heap.size w wr) (fun _ i _ => ns.length - (intOf i).toNat)
  case atStart => exact ⟨0, Nat.zero_le _, rfl, World.ownsRow_nil _ _ _ _, Below.refl _ _⟩
  case round =>
    obtain ⟨k, hk, rfl, hown, hb⟩ := hrel
    by_cases hlt : k < ns.length
    · obtain ⟨ad, rfl, hc⟩ := hA (by omega)
      have hc1 := hc k _ (List.getElem?_eq_getElem hlt)
      have hc2 : wr.cell? (ad.add k) = some (.int .u8 (ns[k].toNat : Int)) := (hb.cell (World.block_lt_of_cell? w _ hc1)).trans hc1
      clear hc hc1
      have hcv := run_str1 (P := Try.prog) Try.underlying22 Try.underlying5 Try.underlying9 wr _ _ (letter_num ns[k])
      have H : Hid (At1 vByte w (some ad) ns) := ⟨hx, hA⟩
      clear hA
      have hw := hb.size
      go_wp2_with (at_builtin; go_loud (refine wpList_app1 eStr rfl rfl (hown.alloc _) rfl rfl (by first | rfl | simp) rfl (by omega) (by simp; omega) ?_); intro v' w' hown' hg' hk')
      have hb' := below_grown (hb.alloc hb.size _) (hown.alloc _) hg' (Nat.le_refl _) (by simp; omega)
      go_roundw
      case rel => exact ⟨k + 1, by omega, by go_num, by rw [map_take_snoc (fun n => vStr (letter n)) hlt]; exact hown', hb'⟩
      case measure => simp [intOf]; omega
    · go_wp2
      go_ret
      obtain rfl : k = ns.length := by omega
      rw [List.take_length] at hown
      exact ⟨_, rfl, hown, hb⟩
theorem ints_any (w : World) (A B : Option Addr) (xs ys : List Int) (c d : Nat) (hA : At1 vInt w A xs) (hB : At1 vInt w B ys) :
    Calls Try.prog 14 #[.slice A xs.length c, .slice B ys.length d] w fun e w' => e = .returned (.bool (decide (xs = ys))) ∧ ∃ n, w' = w.drewN n := by
  obtain ⟨hx, hA⟩ := hA
  obtain ⟨hy, hB⟩ := hB
  by_cases hl : xs.length = ys.length
  · have hl' : ((xs.length : Int) != (ys.length : Int)) = false := by simp [hl]
    have HL := Lib.hid hl
    clear hl
    go_enter Try.func14, Try.ntmps14
    go_wp2
    go_loopw [5] (fun i wr => ∃ (k n : Nat), k ≤ xs.length ∧ i = .int .i64 k ∧ xs.take k = ys.take k ∧ wr = w.drewN n) (fun i _ => xs.length - (intOf i).toNat)
    case atStart => exact ⟨0, 0, Nat.zero_le _, rfl, rfl, rfl⟩
    case round =>
      obtain ⟨k, n, hk, rfl, hall, rfl⟩ := hrel
      by_cases hlt : k < xs.length
      · have hlt2 : k < ys.length := by rw [← HL.out]; exact hlt
        obtain ⟨ad, rfl, hc⟩ := hA (by omega)
        obtain ⟨bd, rfl, hd⟩ := hB (by omega)
        have hc1 := hc k _ (List.getElem?_eq_getElem hlt)
        have hd1 := hd k _ (List.getElem?_eq_getElem hlt2)
        clear hc hd hA hB
        have H := Lib.hid hall
        clear hall
        go_wp2
        go_quiet (fail)
        go_wp2
        · have hne : (xs[k] != ys[k]) = true := by assumption
          have hxy : xs ≠ ys := fun h => by subst h; simp at hne
          go_ret
          exact ⟨by simp [hxy], _, World.drewN_drewN _ _ _⟩
        · have he : (xs[k] != ys[k]) = false := by assumption
          go_roundw
          case rel => exact ⟨k + 1, n + nq, by omega, by go_num, (by rw [take_snoc hlt, take_snoc hlt2, H.out, (by simpa using he : xs[k] = ys[k])]), rfl⟩
          case measure => simp [intOf]; omega
      · go_wp2
        go_ret
        have hxy : xs = ys := by
          rw [List.take_of_length_le (by omega), List.take_of_length_le (by have := HL.out; omega)] at hall
          exact hall
        exact ⟨by simp [hxy], _, rfl⟩
  · have hl' : ((xs.length : Int) != (ys.length : Int)) = true := by simp; omega
    go_enter Try.func14, Try.ntmps14
    go_wp2
    go_ret
    have hne : xs ≠ ys := fun h => hl (by rw [h])
    exact ⟨by simp [hne], 0, rfl⟩

set_option maxRecDepth 100000 in
theorem great_any (w : World) (A : Option Addr) (l : List ByteArray) (c : Nat) (hA : At1 vStr w A l) :
    Calls Try.prog 11 #[.slice A l.length c] w fun e w' => ∃ b, e = .returned (.bool b) ∧ ∃ n, w' = w.drewN n := by
  obtain ⟨hx, hA⟩ := hA
  go_enter Try.func11, Try.ntmps11
  go_wp2
  go_loopw [3] (fun i wr => ∃ (k n : Nat), k ≤ l.length ∧ i = .int .i64 k ∧ wr = w.drewN n) (fun i _ => l.length - (intOf i).toNat)
  case atStart => exact ⟨0, 0, Nat.zero_le _, rfl, rfl⟩
  case round =>
    obtain ⟨k, n, hk, rfl, rfl⟩ := hrel
    by_cases hlt : k < l.length
    · obtain ⟨ad, rfl, hc⟩ := hA (by omega)
      have hc1 : w.cell? (ad.add k) = some (.string l[k]) := hc k _ (List.getElem?_eq_getElem hlt)
      clear hc hA
      generalize l[k] = s at hc1
      by_cases h250 : k < 250
      · go_wp2
        · go_ret
          exact ⟨_, rfl, _, rfl⟩
        · go_roundw
          case rel => exact ⟨k + 1, n, by omega, by go_num, rfl⟩
          case measure => simp [intOf]; omega
      · go_wp2
        go_ret
        exact ⟨_, rfl, _, rfl⟩
    · go_wp2
      go_ret
      exact ⟨_, rfl, _, rfl⟩

end Go.Proofs.Ytnjbhleppaamoaa
