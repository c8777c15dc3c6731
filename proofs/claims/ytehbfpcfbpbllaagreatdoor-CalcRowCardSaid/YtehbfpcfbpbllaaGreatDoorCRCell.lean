/- cell.May, cell.Plain of a number's text. -/
import Derived.Test.YtehbfpcfbpbllaaGreatDoorCRAtoi
import Derived.Test.YtehbfpcfbpbllaaGreatDoorItoa
import Derived.Lib.AppendIntMem
import Derived.WalkSpells
namespace Go.Proofs.YtehbfpcfbpbllaaGreatDoor
open Go.RowKit
/-- the table that strconv reads -/
def Tab (w : World) : Prop := Lib.TabIs Tryz.prog w "internal/strconv.uint64pow10" .u64 Lib.pow10Tab
theorem Tab.on {w w' : World} (h : Tab w) (hb : Below w.heap.size w w') : Tab w' := Lib.tabBelow_of_tabIs h w' hb
def numS (n : Int) : ByteArray := ⟨(Lib.itoa n).toArray⟩
structure Small (n : Int) : Prop where
  lo : -100000000000000000 < n
  hi : n < 100000000000000000
theorem byte_of (l : List UInt8) (k : Nat) (h : k < (⟨l.toArray⟩ : ByteArray).size) : ∃ h', ((⟨l.toArray⟩ : ByteArray)[k]'h) = l[k]'h' := ⟨h, rfl⟩
theorem numText (n : Int) (h : Small n) : ∃ a, NumText (numS n) a := by
  unfold numS
  by_cases hn : 0 ≤ n
  · obtain ⟨m, rfl⟩ : ∃ m : Nat, n = m := ⟨n.toNat, by omega⟩
    rw [Lib.itoa_nonneg]
    have hl := dec_len17 (n := m) (by have := h.hi; omega)
    have hp := dec_pos m
    have hd := dec_digits m
    generalize Lib.decDigits m = l at *
    have hs : (⟨l.toArray⟩ : ByteArray).size = l.length := size_of (l := l) rfl
    have key : ∀ (k : Nat) (h : k < (⟨l.toArray⟩ : ByteArray).size), 48 ≤ (((⟨l.toArray⟩ : ByteArray)[k]'h : UInt8)).toNat ∧ (((⟨l.toArray⟩ : ByteArray)[k]'h : UInt8)).toNat ≤ 57 := fun k h => by
      obtain ⟨h', e⟩ := byte_of l k h
      rw [e]; exact hd _ (List.getElem_mem _)
    exact ⟨0, by omega, by omega, .inr ⟨rfl, fun h => by have := key 0 h; omega⟩, fun k h _ => key k h⟩
  · obtain ⟨m, hm, rfl⟩ : ∃ m : Nat, 1 ≤ m ∧ n = -(m : Int) := ⟨n.natAbs, by omega, by omega⟩
    rw [Lib.itoa_neg m hm]
    have hl := dec_len17 (n := m) (by have := h.lo; omega)
    have hp := dec_pos m
    have hd := dec_digits m
    generalize Lib.decDigits m = l at *
    have hs : (⟨(45 :: l).toArray⟩ : ByteArray).size = l.length + 1 := size_of (l := 45 :: l) rfl
    refine ⟨1, by omega, by omega, .inl ⟨rfl, fun h => ?_⟩, fun k h hk => ?_⟩
    · obtain ⟨h', e⟩ := byte_of (45 :: l) 0 h
      rw [e]; rfl
    · obtain ⟨h', e⟩ := byte_of (45 :: l) k h
      rw [e]
      obtain ⟨j, rfl⟩ : ∃ j, k = j + 1 := ⟨k - 1, by omega⟩
      rw [List.getElem_cons_succ]
      exact hd _ (List.getElem_mem _)
set_option maxRecDepth 100000 in
set_option maxHeartbeats 2000000 in
theorem may_num (w : World) (n : Int) (h : Small n) (ht : Tab w) : Calls Tryz.prog 30 #[.string (numS n)] w fun e w' => e = .returned (.bool true) ∧ Below w.heap.size w w' := by
  obtain ⟨a, T⟩ := numText n h
  have HN := Lib.hid (fun W => number_any W (numS n) a T n (fun W => atoi_itoa W n h.lo h.hi))
  have HI := Lib.hid (fun W (hW : Tab W) => itoa_any n (by have := h.lo; omega) (by have := h.hi; omega) W hW)
  have HT := Lib.hid ht
  have hp := T.pos
  have hsm := T.small
  have HHd := Lib.hid T.head
  have HDg := Lib.hid T.dig
  obtain ⟨s, hs⟩ : ∃ s, numS n = s := ⟨_, rfl⟩
  rw [hs] at HN hp hsm HHd HDg ⊢
  have HI2 : Hid (∀ W, Tab W → Calls Tryz.prog 21 #[.int .i64 n] W fun e w' => e = .returned (.string s) ∧ ∃ k os, w' = Sort.grow (W.drewN k) os) := Lib.hid (fun W hW => by have := HI.out W hW; rw [← hs]; exact this)
  have hem : s.toList.isEmpty = false := by
    rw [List.isEmpty_eq_false_iff, ByteArray.toList_eq]
    intro e
    have := size_of e
    rw [List.length_nil] at this
    omega
  have b0 : ∀ h, 45 ≤ (s[0]'h).toNat ∧ (s[0]'h).toNat ≤ 57 := fun h => by
    rcases HHd.out with ⟨_, h1⟩ | ⟨h1, _⟩
    · rw [h1 h]; omega
    · have := HDg.out 0 h (by omega); omega
  have h0 : 0 < s.size := by omega
  obtain ⟨y, hy⟩ : ∃ y : Nat, (s[0]'h0).toNat = y := ⟨_, rfl⟩
  have hb0 := b0 h0
  rw [hy] at hb0
  have q1 : ((y : Int) == 39) = false := beq_eq_false_iff_ne.2 (by omega)
  have q2 : ((y : Int) == 61) = false := beq_eq_false_iff_ne.2 (by omega)
  have q3 : decide ((y : Int) = 39) = false := decide_eq_false (by omega)
  have q4 : decide ((y : Int) = 61) = false := decide_eq_false (by omega)
  have qs : (s.toList == s.toList) = true := by simp
  clear hs hp HI T ht h b0 hb0
  go_enter Tryz.func30, Tryz.ntmps30
  go_wp2_with fail
  refine (HN.out _).mono ?_
  rintro e w1 ⟨rfl, hb⟩
  have ht1 := Lib.hid (HT.out.on hb)
  go_wp2_with fail
  refine (HI2.out _ ht1.out).mono ?_
  rintro e w2 ⟨rfl, k, os, rfl⟩
  have hb2 := hb.trans ((Lib.below_grow w1.heap.size w1 (Nat.le_refl _) k os).mono hb.size)
  go_wp2
  go_ret
  exact ⟨rfl, hb2⟩
theorem val3 {w1 : World} {g : Nat} {a b c : Value} {t : TypeId} (z : w1.heap[g]? = some (.cells #[a, b, c] t (0, 0))) :
    w1.cell? ⟨g, 0, none⟩ = some a ∧ w1.cell? ⟨g, 1, none⟩ = some b ∧ w1.cell? ⟨g, 2, none⟩ = some c ∧ w1.frozen? ⟨g, 0, none⟩ = false ∧ w1.frozen? ⟨g, 1, none⟩ = false ∧ w1.frozen? ⟨g, 2, none⟩ = false :=
  ⟨by simp [World.cell?, z], by simp [World.cell?, z], by simp [World.cell?, z], by simp [World.frozen?, z], by simp [World.frozen?, z], by simp [World.frozen?, z]⟩
set_option maxRecDepth 100000 in
theorem vnum_any (w : World) (n : Int) : Calls Tryz.prog 22 #[.int .i64 n] w fun e w' => e = .returned (.agg #[.int .i64 1, .int .i64 n, .string ⟨#[]⟩]) ∧ Below w.heap.size w w' := by
  go_enter Tryz.func22, Tryz.ntmps22
  go_wp2
  have hz := heap_alloc_new w (.cells #[.int .i64 1, .int .i64 n, .string ⟨#[]⟩] 38)
  have hb := (Below.refl w.heap.size w).alloc (Nat.le_refl _) (.cells #[.int .i64 1, .int .i64 n, .string ⟨#[]⟩] 38)
  generalize w.alloc (.cells #[.int .i64 1, .int .i64 n, .string ⟨#[]⟩] 38) = W at *
  obtain ⟨z0, z1, z2, _, _, _⟩ := val3 hz
  refine bodyPost_ret (v := .agg #[.int .i64 1, .int .i64 n, .string ⟨#[]⟩]) (by simp [results, Tryz.f22, go_sem, z0, z1, z2]) rfl ⟨rfl, hb⟩
set_option maxRecDepth 100000 in
set_option maxHeartbeats 2000000 in
theorem plain_num (w : World) (n : Int) (h : Small n) (ht : Tab w) : Calls Tryz.prog 11 #[.string (numS n)] w fun e w' => e = .returned (.agg #[.int .i64 1, .int .i64 n, .string ⟨#[]⟩]) ∧ Below w.heap.size w w' := by
  obtain ⟨a, T⟩ := numText n h
  have HN := Lib.hid (fun W => number_any W (numS n) a T n (fun W => atoi_itoa W n h.lo h.hi))
  have HI := Lib.hid (fun W (hW : Tab W) => itoa_any n (by have := h.lo; omega) (by have := h.hi; omega) W hW)
  have HT := Lib.hid ht
  have hp := T.pos
  have hsm := T.small
  have HHd := Lib.hid T.head
  have HDg := Lib.hid T.dig
  obtain ⟨s, hs⟩ : ∃ s, numS n = s := ⟨_, rfl⟩
  rw [hs] at HN hp hsm HHd HDg ⊢
  have HI2 : Hid (∀ W, Tab W → Calls Tryz.prog 21 #[.int .i64 n] W fun e w' => e = .returned (.string s) ∧ ∃ k os, w' = Sort.grow (W.drewN k) os) := Lib.hid (fun W hW => by have := HI.out W hW; rw [← hs]; exact this)
  have hem : s.toList.isEmpty = false := by
    rw [List.isEmpty_eq_false_iff, ByteArray.toList_eq]
    intro e
    have := size_of e
    rw [List.length_nil] at this
    omega
  have b0 : ∀ h, 45 ≤ (s[0]'h).toNat ∧ (s[0]'h).toNat ≤ 57 := fun h => by
    rcases HHd.out with ⟨_, h1⟩ | ⟨h1, _⟩
    · rw [h1 h]; omega
    · have := HDg.out 0 h (by omega); omega
  have h0 : 0 < s.size := by omega
  obtain ⟨y, hy⟩ : ∃ y : Nat, (s[0]'h0).toNat = y := ⟨_, rfl⟩
  have hb0 := b0 h0
  rw [hy] at hb0
  have q1 : ((y : Int) == 39) = false := beq_eq_false_iff_ne.2 (by omega)
  have q3 : decide ((y : Int) = 39) = false := decide_eq_false (by omega)
  have qs : (s.toList == s.toList) = true := by simp
  clear hs hp HI T ht h b0 hb0
  go_enter Tryz.func11, Tryz.ntmps11
  go_wp2_with fail
  refine (HN.out _).mono ?_
  rintro e w1 ⟨rfl, hb⟩
  have hbw := ((Below.refl w.heap.size w).alloc (Nat.le_refl _) (.cells #[.int .i64 0, .int .i64 0, .string ⟨#[]⟩] 38)).trans (hb.mono (by simp))
  have hz := (hb.block w.heap.size (by rw [World.size_alloc]; exact Nat.lt_succ_self _)).trans (heap_alloc_new w _)
  have ht1 := Lib.hid (HT.out.on hbw)
  have hlt := (Array.getElem?_eq_some_iff.1 hz).1
  clear hb
  go_wp2_with fail
  refine (HI2.out _ ht1.out).mono ?_
  rintro e w2 ⟨rfl, k, os, rfl⟩
  have hg := Lib.below_grow w1.heap.size w1 (Nat.le_refl _) k os
  have hb2 := hbw.trans (hg.mono hbw.size)
  have hz2 := (hg.block _ hlt).trans hz
  generalize Sort.grow (w1.drewN k) os = w2 at *
  obtain ⟨z0, z1, z2, z3, z4, z5⟩ := val3 hz2
  go_wp2_with fail
  refine (vnum_any w2 n).mono ?_
  rintro e w3 ⟨rfl, hb3⟩
  have hz3 := (hb3.block _ (Array.getElem?_eq_some_iff.1 hz2).1).trans hz2
  have hb4 := hb2.trans (hb3.mono hb2.size)
  clear z0 z1 z2 z3 z4 z5 hz2 hz hg
  obtain ⟨z0, z1, z2, z3, z4, z5⟩ := val3 hz3
  go_wp2
  have hs3 := (((hb4.setCell (p := ⟨w.heap.size, 0, none⟩) (Nat.le_refl _) (.int .i64 1)).setCell (p := ⟨w.heap.size, 1, none⟩) (Nat.le_refl _) (.int .i64 n)).setCell (p := ⟨w.heap.size, 2, none⟩) (Nat.le_refl _) (.string ⟨#[]⟩))
  have hf : (((w3.setCell ⟨w.heap.size, 0, none⟩ (.int .i64 1)).setCell ⟨w.heap.size, 1, none⟩ (.int .i64 n)).setCell ⟨w.heap.size, 2, none⟩ (.string ⟨#[]⟩)).heap[w.heap.size]? = some (.cells #[.int .i64 1, .int .i64 n, .string ⟨#[]⟩] 38 (0, 0)) := by simp [World.setCell, Array.getElem?_modify, hz3]
  generalize (((w3.setCell ⟨w.heap.size, 0, none⟩ (.int .i64 1)).setCell ⟨w.heap.size, 1, none⟩ (.int .i64 n)).setCell ⟨w.heap.size, 2, none⟩ (.string ⟨#[]⟩)) = W at *
  obtain ⟨y0, y1, y2, _, _, _⟩ := val3 hf
  refine bodyPost_ret (v := .agg #[.int .i64 1, .int .i64 n, .string ⟨#[]⟩]) (by simp [results, Tryz.f11, go_sem, y0, y1, y2]) rfl ⟨rfl, hs3⟩
end Go.Proofs.YtehbfpcfbpbllaaGreatDoor
