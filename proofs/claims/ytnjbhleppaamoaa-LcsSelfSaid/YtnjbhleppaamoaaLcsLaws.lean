/- The walks of the four laws of layer 15: each returns true and writes nothing that was there. -/
import Derived.Test.YtnjbhleppaamoaaLcsC
import Derived.Deep.RegionHeld3
namespace Go.Proofs.Ytnjbhleppaamoaa
open Go.RowKit

theorem letters_rd (w : World) (A : Option Addr) (ns : List UInt8) (c : Nat) (hA : At1 vByte w A ns) (hr : ns.length ≤ 140737488351232 / 16) :
    Calls Try.prog 8 #[.slice A ns.length c] w fun e w' => ∃ B d, e = .returned (.slice B ns.length d) ∧ At1 vStr w' B (ns.map letter) ∧ ns.length ≤ d ∧ Below w.heap.size w w' := by
  refine (letters_any w A ns c hA hr).mono ?_
  rintro e w' ⟨v, rfl, h1, h2⟩
  obtain ⟨B, d, rfl, h3, _⟩ := own_form h1
  refine ⟨B, d, rfl, At1.of_own (n := ns.length) (by rw [List.map_map]; exact h1) (by have := hA.1; simpa using this), h3, h2⟩

theorem dealt_rd (w : World) (A B : Option Addr) (l : List ByteArray) (ns : List UInt8) (n c d : Nat) (hn : l.length = n) (hA : At1 vStr w A l) (hB : At1 vByte w B ns) (hl : l.length ≤ 40) (hn : ns.length ≤ 40) :
    Calls Try.prog 9 #[.slice A n c, .slice B ns.length d] w fun e w' => ∃ C f, e = .returned (.slice C (dealtTo l ns (max l.length ns.length)).length f) ∧ At1 vStr w' C (dealtTo l ns (max l.length ns.length)) ∧ Below w.heap.size w w' := by
  subst n
  refine (dealt_any w A B l ns c d hA hB hl hn).mono ?_
  rintro e w' ⟨v, rfl, h1, h2⟩
  obtain ⟨B, d, rfl, h3, _⟩ := own_form h1
  refine ⟨B, d, rfl, At1.of_own h1 ?_, h2⟩
  have := dealtTo_len l ns (max l.length ns.length)
  omega

def PairsRd (w : World) (l : List (Nat × Nat)) (e : Ending) (w' : World) : Prop :=
  ∃ A c B d, e = .returned (.tuple #[.slice A l.length c, .slice B l.length d]) ∧ At1 vInt w' A (l.map fun p => (p.1 : Int)) ∧ At1 vInt w' B (l.map fun p => (p.2 : Int)) ∧ Below w.heap.size w w'
theorem pairsRd_of {w : World} {l : List (Nat × Nat)} (hl : l.length ≤ 9223372036854775807) {e : Ending} {w' : World} (h : WalkPost w l e w') : PairsRd w l e w' := by
  obtain ⟨x, y, rfl, ⟨h1, h2, _⟩, hb⟩ := h
  obtain ⟨A, c, rfl, _, _⟩ := own_form h1
  obtain ⟨B, d, rfl, _, _⟩ := own_form h2
  exact ⟨A, c, B, d, rfl, At1.of_own (n := l.length) (by rw [List.map_map]; exact h1) (by simpa using hl), At1.of_own (n := l.length) (by rw [List.map_map]; exact h2) (by simpa using hl), hb⟩
theorem pairsOf_len (a b : List ByteArray) : (pairsOf a b).length ≤ 200 := by
  unfold pairsOf
  split
  · simp
  · rw [Lcs.W_length]
    have := Lcs.L_le_left a b
    omega
theorem pairs_rd (w : World) (A B : Option Addr) (a b : List ByteArray) (n m ca cb : Nat) (hn : a.length = n) (hm : b.length = m) (hA : At1 vStr w A a) (hB : At1 vStr w B b) :
    Calls Try.prog 12 #[.slice A n ca, .slice B m cb] w (PairsRd w (pairsOf a b)) := by
  subst hn hm
  exact (pairs_any w A B a b ca cb hA hB).mono fun _ _ h => pairsRd_of (by have := pairsOf_len a b; omega) h
theorem rpairs_rd (w : World) (A B : Option Addr) (a b : List ByteArray) (n m ca cb : Nat) (hn : a.length = n) (hm : b.length = m) (hA : At1 vStr w A a) (hB : At1 vStr w B b) :
    Calls Try.prog 13 #[.slice A n ca, .slice B m cb] w (PairsRd w (pairsOf a b)) := by
  subst hn hm
  exact (rpairs_any w A B a b ca cb hA hB).mono fun _ _ h => pairsRd_of (by have := pairsOf_len a b; omega) h
theorem long_rd (w : World) (A B : Option Addr) (a b : List ByteArray) (n m ca cb : Nat) (hn : a.length = n) (hm : b.length = m) (hA : At1 vStr w A a) (hB : At1 vStr w B b) :
    Calls Try.prog 10 #[.slice A n ca, .slice B m cb] w fun e w' => e = .returned (.int .i64 (longOf a b)) ∧ Below w.heap.size w w' := by
  subst hn hm
  exact long_all w A B a b ca cb hA hB
theorem rlong_rd (w : World) (A B : Option Addr) (a b : List ByteArray) (n m ca cb : Nat) (hn : a.length = n) (hm : b.length = m) (hA : At1 vStr w A a) (hB : At1 vStr w B b) :
    Calls Try.prog 15 #[.slice A n ca, .slice B m cb] w fun e w' => e = .returned (.int .i64 (longOf a b)) ∧ Below w.heap.size w w' := by
  subst hn hm
  exact rlong_all w A B a b ca cb hA hB
theorem ints_rd (w : World) (A B : Option Addr) (xs ys : List Int) (n m c d : Nat) (hn : xs.length = n) (hm : ys.length = m) (hA : At1 vInt w A xs) (hB : At1 vInt w B ys) (he : xs = ys) :
    Calls Try.prog 14 #[.slice A n c, .slice B m d] w fun e w' => e = .returned (.bool true) ∧ Below w.heap.size w w' := by
  subst hn hm
  refine (ints_any w A B xs ys c d hA hB).mono ?_
  rintro e w' ⟨rfl, n, rfl⟩
  exact ⟨by simp [he], below_of_drewN _ _⟩

set_option maxRecDepth 100000 in
theorem lcsAll_walk (w : World) (A : Option Addr) (a : List ByteArray) (ca : Nat) (B : Option Addr) (b : List ByteArray) (cb : Nat) (hA : At1 vStr w A a) (hB : At1 vStr w B b) :
    Calls Try.prog 4 #[.slice A a.length ca, .slice B b.length cb] w fun e w' => e = .returned (.bool true) ∧ Below w.heap.size w w' := by
  go_enter Try.func4, Try.ntmps4
  go_wp2_with fail
  refine (great_any w A a ca hA).mono ?_
  rintro e w1 ⟨g, rfl, n1, rfl⟩
  cases g
  · go_wp2_with fail
    refine (great_any _ B b cb (hB.drewN n1)).mono ?_
    rintro e w2 ⟨g, rfl, n2, rfl⟩
    rw [World.drewN_drewN]
    cases g
    · go_wp2_with fail
      refine (pairs_rd _ A B a b _ _ ca cb rfl rfl (hA.drewN _) (hB.drewN _)).mono ?_
      rintro e w3 ⟨X, cx, Y, cy, rfl, hX, hY, hb3⟩
      have hb := (below_of_drewN (B := w.heap.size) w (n1 + n2)).trans hb3
      have H3 := Lib.hid hb
      clear hb hb3
      go_wp2_with fail
      refine (rpairs_rd _ A B a b _ _ ca cb rfl rfl (hA.below H3.out) (hB.below H3.out)).mono ?_
      rintro e w4 ⟨P, cp, Q, cq, rfl, hP, hQ, hb4⟩
      have H4 := Lib.hid (H3.out.trans (hb4.mono H3.out.size))
      have hX4 := hX.below hb4
      have hY4 := hY.below hb4
      clear hX hY hb4
      go_wp2_with fail
      refine (ints_rd _ X P _ _ _ _ cx cp (by simp) (by simp) hX4 hP rfl).mono ?_
      rintro e w5 ⟨rfl, hb5⟩
      have H5 := Lib.hid (H4.out.trans (hb5.mono H4.out.size))
      have hY5 := hY4.below hb5
      have hQ5 := hQ.below hb5
      clear hb5 hX4 hY4 hP hQ
      go_wp2_with fail
      refine (ints_rd _ Y Q _ _ _ _ cy cq (by simp) (by simp) hY5 hQ5 rfl).mono ?_
      rintro e w6 ⟨rfl, hb6⟩
      have H6 := Lib.hid (H5.out.trans (hb6.mono H5.out.size))
      clear hb6 hY5 hQ5
      go_wp2_with fail
      refine (long_rd _ A B a b _ _ ca cb rfl rfl (hA.below H6.out) (hB.below H6.out)).mono ?_
      rintro e w7 ⟨rfl, hb7⟩
      have H7 := Lib.hid (H6.out.trans (hb7.mono H6.out.size))
      clear hb7
      go_wp2_with fail
      refine (rlong_rd _ A B a b _ _ ca cb rfl rfl (hA.below H7.out) (hB.below H7.out)).mono ?_
      rintro e w8 ⟨rfl, hb8⟩
      have H8 := Lib.hid (H7.out.trans (hb8.mono H7.out.size))
      clear hb8
      go_wp2_with fail
      refine (awake_any _).mono ?_
      rintro e w9 ⟨rfl, hb9⟩
      have H9 := Lib.hid (H8.out.trans (hb9.mono H8.out.size))
      clear hb9
      go_wp2
      go_ret
      exact ⟨rfl, H9.out⟩
    · go_wp2_with fail
      refine (awake_any _).mono ?_
      rintro e w3 ⟨rfl, hb3⟩
      go_wp2
      go_ret
      exact ⟨rfl, (below_of_drewN w (n1 + n2)).trans hb3⟩
  · go_wp2_with fail
    refine (awake_any _).mono ?_
    rintro e w3 ⟨rfl, hb3⟩
    go_wp2
    go_ret
    exact ⟨rfl, (below_of_drewN w n1).trans hb3⟩

end Go.Proofs.Ytnjbhleppaamoaa
