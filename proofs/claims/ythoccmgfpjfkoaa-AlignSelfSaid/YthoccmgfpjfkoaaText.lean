/- The walks of chequerref1.Col, chequerlaw10.text: what comes of it is short. Written by textgen.py. -/
import Derived.Test.YthoccmgfpjfkoaaGoneStep
namespace Go.Proofs.Ythoccmgfpjfkoaa
open Go.RowKit

def TextPost (w : World) (n : Nat) (e : Ending) (w' : World) : Prop := ∃ s : ByteArray, e = .returned (.string s) ∧ s.size ≤ n ∧ Below w.heap.size w w'
theorem byte_num {z : Int} (h0 : 0 ≤ z) (h1 : z < 256) : ∃ x : UInt8, z = (x.toNat : Int) := ⟨UInt8.ofNat z.toNat, by rw [Code.toNat_ofNat (by omega)]; omega⟩

set_option maxRecDepth 100000 in
theorem col_any (w : World) (n : Nat) (hn : n < 26) : Calls Try.prog 48 #[.int .i64 n] w (TextPost w 1) := by
  obtain ⟨x, hx⟩ := byte_num (z := 65 + (n : Int)) (by omega) (by omega)
  have hcv := run_str1 (P := Try.prog) Try.underlying46 Try.underlying5 Try.underlying9 w x _ hx
  clear hx
  go_enter Try.func48, Try.ntmps48
  go_wp2
  go_ret
  exact ⟨_, rfl, by simp [ByteArray.size], (Below.refl _ _).alloc (Nat.le_refl _) _⟩
theorem digits_short (w : World) (n : Nat) (z : Int) (hz : z = n) (hn : n < 1000) : Calls Try.prog 8 #[.int .i64 z] w (TextPost w 3) := by
  refine (digits_rd w n z hz hn).mono ?_
  rintro e w' ⟨rfl, hb⟩
  exact ⟨_, rfl, digits_size hn, hb⟩
theorem col_short (w : World) (n : Nat) (z : Int) (hz : z = n) (hn : n < 26) : Calls Try.prog 48 #[.int .i64 z] w (TextPost w 1) := by
  subst hz
  exact col_any w n hn

set_option maxRecDepth 100000 in
set_option maxHeartbeats 4000000 in
theorem text_any (w : World) (n : Nat) (hn : n < 256) : Calls Try.prog 38 #[.int .i64 n] w (TextPost w 40) := by
  obtain ⟨q, hq⟩ : ∃ q : Nat, q = n / 13 := ⟨_, rfl⟩
  have hq1 : (n : Int) / 13 = (q : Int) := by omega
  have hq2 : q < 20 := by omega
  obtain ⟨r, hr⟩ : ∃ r : Nat, r = n % 13 := ⟨_, rfl⟩
  have hr1 : (n : Int) % 13 = (r : Int) := by omega
  have hr2 : r < 13 := by omega
  clear hq hr
  rcases (show r = 0 ∨ r = 1 ∨ r = 2 ∨ r = 3 ∨ r = 4 ∨ r = 5 ∨ r = 6 ∨ r = 7 ∨ r = 8 ∨ r = 9 ∨ r = 10 ∨ r = 11 ∨ r = 12 by omega) with rfl | rfl | rfl | rfl | rfl | rfl | rfl | rfl | rfl | rfl | rfl | rfl | rfl
  · as_aux_lemma =>
    go_enter Try.func38, Try.ntmps38
    go_wp2
    go_ret
    exact ⟨_, rfl, by decide, Below.refl _ _⟩
  · as_aux_lemma =>
    go_enter Try.func38, Try.ntmps38
    go_wp2
    go_ret
    exact ⟨_, rfl, by decide, Below.refl _ _⟩
  · as_aux_lemma =>
    go_enter Try.func38, Try.ntmps38
    go_wp2
    go_ret
    exact ⟨_, rfl, by decide, Below.refl _ _⟩
  · as_aux_lemma =>
    obtain ⟨m, hm, hml⟩ : ∃ m : Nat, (q : Int) % 9 = (m : Int) ∧ m < 9 := ⟨q % 9, by omega, by omega⟩
    go_enter Try.func38, Try.ntmps38
    go_wp2_with fail
    refine (digits_short w (m) _ (by omega) (by omega)).mono ?_
    rintro e w1 ⟨s, rfl, hs, hb⟩
    go_wp2
    go_ret
    exact ⟨_, rfl, by omega, hb⟩
  · as_aux_lemma =>
    obtain ⟨m, hm, hml⟩ : ∃ m : Nat, (q : Int) % 9 = (m : Int) ∧ m < 9 := ⟨q % 9, by omega, by omega⟩
    go_enter Try.func38, Try.ntmps38
    go_wp2_with fail
    refine (digits_short w (m) _ (by omega) (by omega)).mono ?_
    rintro e w1 ⟨s, rfl, hs, hb⟩
    go_wp2
    go_ret
    exact ⟨_, rfl, by omega, hb⟩
  · as_aux_lemma =>
    obtain ⟨m, hm, hml⟩ : ∃ m : Nat, (q : Int) % 5 = (m : Int) ∧ m < 5 := ⟨q % 5, by omega, by omega⟩
    obtain ⟨x, hx⟩ := byte_num (z := 97 + (m : Int)) (by omega) (by omega)
    have hcv := run_str1 (P := Try.prog) Try.underlying46 Try.underlying5 Try.underlying9 w x _ hx
    clear hx
    go_enter Try.func38, Try.ntmps38
    go_wp2
    go_ret
    exact ⟨_, rfl, by simp [ByteArray.size], (Below.refl _ _).alloc (Nat.le_refl _) _⟩
  · as_aux_lemma =>
    obtain ⟨m, hm, hml⟩ : ∃ m : Nat, (q : Int) % 5 = (m : Int) ∧ m < 5 := ⟨q % 5, by omega, by omega⟩
    go_enter Try.func38, Try.ntmps38
    go_wp2_with fail
    refine (digits_short w (1 + m) _ (by omega) (by omega)).mono ?_
    rintro e w1 ⟨s, rfl, hs, hb⟩
    have hc1 : ¬ (9223372036854775807 < 2 + s.size) := by omega
    go_wp2
    go_ret
    have e1 : (⟨#[61, 65]⟩ : ByteArray).size = 2 := rfl
    exact ⟨_, rfl, by rw [ByteArray.size_append]; omega, hb⟩
  · as_aux_lemma =>
    obtain ⟨m, hm, hml⟩ : ∃ m : Nat, (q : Int) % 4 = (m : Int) ∧ m < 4 := ⟨q % 4, by omega, by omega⟩
    go_enter Try.func38, Try.ntmps38
    go_wp2_with fail
    refine (digits_short w (1 + m) _ (by omega) (by omega)).mono ?_
    rintro e w1 ⟨s, rfl, hs, hb⟩
    have hc1 : ¬ (9223372036854775807 < 2 + s.size) := by omega
    have hc2 : ¬ (9223372036854775807 < 2 + s.size + 2) := by omega
    go_wp2
    go_ret
    have e1 : (⟨#[61, 66]⟩ : ByteArray).size = 2 := rfl
    have e2 : (⟨#[43, 49]⟩ : ByteArray).size = 2 := rfl
    exact ⟨_, rfl, by rw [ByteArray.size_append, ByteArray.size_append]; omega, hb⟩
  · as_aux_lemma =>
    obtain ⟨m, hm, hml⟩ : ∃ m : Nat, (q : Int) % 5 = (m : Int) ∧ m < 5 := ⟨q % 5, by omega, by omega⟩
    go_enter Try.func38, Try.ntmps38
    go_wp2_with fail
    refine (digits_short w (1 + m) _ (by omega) (by omega)).mono ?_
    rintro e w1 ⟨s, rfl, hs, hb⟩
    have hc1 : ¬ (9223372036854775807 < 9 + s.size) := by omega
    have hc2 : ¬ (9223372036854775807 < 9 + s.size + 1) := by omega
    go_wp2
    go_ret
    have e1 : (⟨#[61, 83, 85, 77, 40, 65, 49, 58, 66]⟩ : ByteArray).size = 9 := rfl
    have e2 : (⟨#[41]⟩ : ByteArray).size = 1 := rfl
    exact ⟨_, rfl, by rw [ByteArray.size_append, ByteArray.size_append]; omega, hb⟩
  · as_aux_lemma =>
    obtain ⟨m, hm, hml⟩ : ∃ m : Nat, (q : Int) % 4 = (m : Int) ∧ m < 4 := ⟨q % 4, by omega, by omega⟩
    go_enter Try.func38, Try.ntmps38
    go_wp2_with fail
    refine (col_short w (m) _ (by omega) (by omega)).mono ?_
    rintro e w1 ⟨s, rfl, hs, hb⟩
    have hc1 : ¬ (9223372036854775807 < 3 + s.size) := by omega
    have hc2 : ¬ (9223372036854775807 < 3 + s.size + 3) := by omega
    go_wp2
    go_ret
    have e1 : (⟨#[61, 66, 33]⟩ : ByteArray).size = 3 := rfl
    have e2 : (⟨#[50, 42, 50]⟩ : ByteArray).size = 3 := rfl
    exact ⟨_, rfl, by rw [ByteArray.size_append, ByteArray.size_append]; omega, hb⟩
  · as_aux_lemma =>
    obtain ⟨m, hm, hml⟩ : ∃ m : Nat, (q : Int) % 4 = (m : Int) ∧ m < 4 := ⟨q % 4, by omega, by omega⟩
    go_enter Try.func38, Try.ntmps38
    go_wp2_with fail
    refine (digits_short w (1 + m) _ (by omega) (by omega)).mono ?_
    rintro e w1 ⟨s, rfl, hs, hb⟩
    have hc1 : ¬ (9223372036854775807 < 12 + s.size) := by omega
    have hc2 : ¬ (9223372036854775807 < 12 + s.size + 5) := by omega
    go_wp2
    go_ret
    have e1 : (⟨#[61, 73, 70, 40, 36, 65, 36, 49, 62, 50, 44, 67]⟩ : ByteArray).size = 12 := rfl
    have e2 : (⟨#[44, 34, 120, 34, 41]⟩ : ByteArray).size = 5 := rfl
    exact ⟨_, rfl, by rw [ByteArray.size_append, ByteArray.size_append]; omega, hb⟩
  · as_aux_lemma =>
    go_enter Try.func38, Try.ntmps38
    go_wp2
    go_ret
    exact ⟨_, rfl, by decide, Below.refl _ _⟩
  · as_aux_lemma =>
    obtain ⟨m, hm, hml⟩ : ∃ m : Nat, (q : Int) % 2 = (m : Int) ∧ m < 2 := ⟨q % 2, by omega, by omega⟩
    go_enter Try.func38, Try.ntmps38
    go_wp2_with fail
    refine (digits_short w (m) _ (by omega) (by omega)).mono ?_
    rintro e w1 ⟨s, rfl, hs, hb⟩
    have hc1 : ¬ (9223372036854775807 < 3 + s.size) := by omega
    go_wp2
    go_ret
    have e1 : (⟨#[61, 49, 47]⟩ : ByteArray).size = 3 := rfl
    exact ⟨_, rfl, by rw [ByteArray.size_append]; omega, hb⟩
end Go.Proofs.Ythoccmgfpjfkoaa
