/- The walk of LcsWithin. -/
import Derived.Test.YtnjbhleppaamoaaLcsLaws
namespace Go.Proofs.Ytnjbhleppaamoaa
open Go.RowKit

theorem run_min2 {P : Program} (ts : Array TypeId) (t : TypeId) (k k' : IntKind) (x y : Int) (w : World) : (Builtin.min_ ts t #[.int k x, .int k' y]).run P w = .ok (.int k (min x y)) w := by
  rw [run_min_int2]
  congr 2
  split <;> omega

theorem longOf_comm (a b : List ByteArray) : longOf a b = longOf b a := by
  unfold longOf
  rw [Lcs.L_comm a b]
  by_cases h : 200 < a.length ∨ 200 < b.length
  · rw [if_pos h, if_pos (by omega)]
  · rw [if_neg h, if_neg (by omega)]

theorem dealt_sl (w : World) (A B : Option Addr) (l : List ByteArray) (ns : List UInt8) (n c d : Nat) (hn : l.length = n) (hA : At1 vStr w A l) (hB : At1 vByte w B ns) (hl : l.length ≤ 40) (hns : ns.length ≤ 40) :
    Calls Try.prog 9 #[.slice A n c, .slice B ns.length d] w fun e w' => ∃ C f a, e = .returned (.slice C a.length f) ∧ At1 vStr w' C a ∧ a.length ≤ 80 ∧ l.Sublist a ∧ Below w.heap.size w w' := by
  refine (dealt_rd w A B l ns n c d hn hA hB hl hns).mono ?_
  rintro e w' ⟨C, f, rfl, h1, h2⟩
  refine ⟨C, f, _, rfl, h1, ?_, ?_, h2⟩
  · have := dealtTo_len l ns (max l.length ns.length)
    omega
  · have := dealt_sub l ns (max l.length ns.length)
    rwa [List.take_of_length_le (by omega)] at this

/-- back to the law's end by awake -/
theorem awake_end {w w1 : World} (h : Hid (Below w.heap.size w w1)) : Calls Try.prog 7 #[] w1 fun e w' => e = .returned (.bool true) ∧ Hid (Below w.heap.size w w') := by
  refine (awake_any w1).mono ?_
  rintro e w' ⟨rfl, hb⟩
  exact ⟨rfl, h.out.trans (hb.mono h.out.size)⟩

set_option maxRecDepth 100000 in
set_option maxHeartbeats 1000000 in
theorem lcsWithin_walk (w : World) (A : Option Addr) (ns : List UInt8) (ca : Nat) (B : Option Addr) (xs : List UInt8) (cb : Nat) (C : Option Addr) (ys : List UInt8) (cc : Nat) (hA : At1 vByte w A ns) (hB : At1 vByte w B xs) (hC : At1 vByte w C ys) :
    Calls Try.prog 3 #[.slice A ns.length ca, .slice B xs.length cb, .slice C ys.length cc] w fun e w' => e = .returned (.bool true) ∧ Below w.heap.size w w' := by
  have H0 : Hid (Below w.heap.size w w) := Below.refl _ _
  by_cases h1 : 40 < ns.length
  · go_enter Try.func3, Try.ntmps3
    go_wp2_with fail
    refine (awake_end H0).mono ?_
    rintro e w3 ⟨rfl, hb3⟩
    go_wp2
    go_ret
    exact ⟨rfl, hb3.out⟩
  by_cases h2 : 40 < xs.length
  · go_enter Try.func3, Try.ntmps3
    go_wp2_with fail
    refine (awake_end H0).mono ?_
    rintro e w3 ⟨rfl, hb3⟩
    go_wp2
    go_ret
    exact ⟨rfl, hb3.out⟩
  by_cases h3 : 40 < ys.length
  · go_enter Try.func3, Try.ntmps3
    go_wp2_with fail
    refine (awake_end H0).mono ?_
    rintro e w3 ⟨rfl, hb3⟩
    go_wp2
    go_ret
    exact ⟨rfl, hb3.out⟩
  have hmin := @run_min2 Try.prog
  go_enter Try.func3, Try.ntmps3
  go_wp2_with fail
  refine (letters_rd w A ns ca hA (by omega)).mono ?_
  rintro e w1 ⟨D, d, rfl, hD, hd, hb1⟩
  have H1 := Lib.hid hb1
  clear hb1
  go_wp2_with fail
  refine (dealt_sl w1 D B (ns.map letter) xs _ _ _ (by simp) hD (hB.below H1.out) (by simp; omega) (by omega)).mono ?_
  rintro e w2 ⟨E, f, a, rfl, hE, l1, s1, hb2⟩
  have H2 := Lib.hid (H1.out.trans (hb2.mono H1.out.size))
  have hD2 := hD.below hb2
  clear hb2 hD
  go_wp2_with fail
  refine (dealt_sl w2 D C (ns.map letter) ys _ _ _ (by simp) hD2 (hC.below H2.out) (by simp; omega) (by omega)).mono ?_
  rintro e w3 ⟨F, g, b, rfl, hF, l2, s2, hb3⟩
  have H3 := Lib.hid (H2.out.trans (hb3.mono H2.out.size))
  have hE3 := hE.below hb3
  clear hb3 hD2 hE
  have hge := Lcs.L_ge_of_sublist a b _ s1 s2
  have hla := Lcs.L_le_left a b
  have hlb := Lcs.L_le_right a b
  have el : longOf a b = Lcs.L a b := by rw [longOf, if_neg (by omega)]
  rw [← el] at hge hla hlb
  simp only [List.length_map] at hge
  have hlong : ∀ W, At1 vStr W E a → At1 vStr W F b → Calls Try.prog 10 #[.slice E a.length f, .slice F b.length g] W fun e w' => e = .returned (.int .i64 (longOf a b)) ∧ Below W.heap.size W w' := fun W h1 h2 => long_rd W E F a b _ _ f g rfl rfl h1 h2
  have hlong2 : ∀ W, At1 vStr W E a → At1 vStr W F b → Calls Try.prog 10 #[.slice F b.length g, .slice E a.length f] W fun e w' => e = .returned (.int .i64 (longOf a b)) ∧ Below W.heap.size W w' := fun W h1 h2 => by
    rw [longOf_comm a b]; exact long_rd W F E b a _ _ g f rfl rfl h2 h1
  clear el s1 s2
  generalize longOf a b = n at *
  have HL := Lib.hid hlong
  have HL2 := Lib.hid hlong2
  clear hlong hlong2
  have q1 : (ns.length : Int) ≤ (n : Int) := by omega
  have q2 : (n : Int) ≤ min (a.length : Int) (b.length : Int) := by omega
  go_wp2_with fail
  refine (HL.out w3 hE3 hF).mono ?_
  rintro e w4 ⟨rfl, hb4⟩
  have H4 := Lib.hid (H3.out.trans (hb4.mono H3.out.size))
  have hE4 := hE3.below hb4
  have hF4 := hF.below hb4
  clear hb4
  go_wp2_with fail
  refine (HL2.out w4 hE4 hF4).mono ?_
  rintro e w5 ⟨rfl, hb5⟩
  have H5 := Lib.hid (H4.out.trans (hb5.mono H4.out.size))
  clear hb5
  go_wp2_with fail
  refine (awake_end H5).mono ?_
  rintro e w6 ⟨rfl, hb6⟩
  go_wp2
  go_ret
  exact ⟨rfl, hb6.out⟩

end Go.Proofs.Ytnjbhleppaamoaa
