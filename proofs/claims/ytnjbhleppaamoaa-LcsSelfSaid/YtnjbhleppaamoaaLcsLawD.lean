/- The walk of LcsSelf. -/
import Derived.Test.YtnjbhleppaamoaaLcsLawC
namespace Go.Proofs.Ytnjbhleppaamoaa
open Go.RowKit

/-- a letter and an x -/
def letterX (n : UInt8) : ByteArray := letter n ++ ⟨#[120]⟩
theorem letter_ne (m n : UInt8) : letter m ≠ letterX n := by
  intro h
  have h1 : (letter m).size = (letterX n).size := by rw [h]
  have h2 : (letterX n).size = 2 := by unfold letterX; rw [ByteArray.size_append]; rfl
  have h3 : (letter m).size = 1 := rfl
  omega
theorem pairs_self (a : List ByteArray) (h : a.length ≤ 200) : pairsOf a a = (List.range a.length).map fun j => (j, j) := by
  rw [pairsOf, if_neg (by omega), Lcs.W_self, List.range_eq_range']
theorem long_self_take (a : List ByteArray) (h : a.length ≤ 200) (k : Nat) (hk : k ≤ a.length) : longOf a (a.take k) = k := by
  rw [longOf, if_neg (by simp; omega)]
  have h1 := Lcs.L_ge_of_sublist a (a.take k) (a.take k) (List.take_sublist _ _) (List.Sublist.refl _)
  have h2 := Lcs.L_le_right a (a.take k)
  simp only [List.length_take] at h1 h2
  omega
theorem long_self_drop (a : List ByteArray) (h : a.length ≤ 200) (k : Nat) (hk : k ≤ a.length) : longOf (a.drop k) a = a.length - k := by
  rw [longOf, if_neg (by simp; omega)]
  have h1 := Lcs.L_ge_of_sublist (a.drop k) a (a.drop k) (List.Sublist.refl _) (List.drop_sublist _ _)
  have h2 := Lcs.L_le_left (a.drop k) a
  simp only [List.length_drop] at h1 h2
  omega
theorem long_x (ns : List UInt8) (h : ns.length ≤ 200) : longOf (ns.map letter) (ns.map letterX) = 0 := by
  rw [longOf, if_neg (by simp; omega)]
  refine Lcs.L_apart _ _ fun x hx y hy => ?_
  obtain ⟨m, _, rfl⟩ := List.mem_map.1 hx
  obtain ⟨n, _, rfl⟩ := List.mem_map.1 hy
  exact letter_ne m n

set_option maxRecDepth 100000 in
set_option maxHeartbeats 1000000 in
theorem lcsSelf_walk (w : World) (A : Option Addr) (ns : List UInt8) (ca : Nat) (n : Int) (hA : At1 vByte w A ns) (hn : (Lit.int .u8 n).wf = true) :
    Calls Try.prog 6 #[.slice A ns.length ca, .int .u8 n] w fun e w' => e = .returned (.bool true) ∧ Below w.heap.size w w' := by
  have H0 : Hid (Below w.heap.size w w) := Below.refl _ _
  have hn0 : 0 ≤ n ∧ n ≤ 255 := by simp [Lit.wf, IntKind.min, IntKind.max, IntKind.signed, IntKind.bits] at hn; omega
  obtain ⟨hn1, hn2⟩ := hn0
  clear hn
  by_cases h1 : 100 < ns.length
  · go_enter Try.func6, Try.ntmps6
    go_wp2_with fail
    refine (awake_end H0).mono ?_
    rintro e w3 ⟨rfl, hb3⟩
    go_wp2
    go_ret
    exact ⟨rfl, hb3.out⟩
  go_enter Try.func6, Try.ntmps6
  go_wp2_with fail
  refine (letters_rd w A ns ca hA (by omega)).mono ?_
  rintro e w1 ⟨D, d, rfl, hD, hd, hb1⟩
  have H1 := Lib.hid hb1
  clear hb1
  go_wp2
  go_loopw [6, 7] (fun v i wr => ∃ k : Nat, k ≤ ns.length ∧ i = .int .i64 k ∧ wr.ownsRow w1.heap.size 9 1 v k ((ns.take k).map fun n => vStr (letterX n)) ∧ Below w1.heap.size w1 wr) (fun _ i _ => ns.length - (intOf i).toNat)
  case atStart => exact ⟨0, Nat.zero_le _, rfl, World.ownsRow_nil _ _ _ _, Below.refl _ _⟩
  case round =>
    obtain ⟨k, hk, rfl, hown, hb⟩ := hrel
    have hsz := hb.size
    have HD := Lib.hid hD
    clear hD
    by_cases hlt : k < ns.length
    · as_aux_lemma =>
      obtain ⟨ad, rfl, hc⟩ := HD.out.2 (by simp; omega)
      have hl : (ns.map letter)[k]? = some (letter ns[k]) := by rw [List.getElem?_map, List.getElem?_eq_getElem hlt]; rfl
      have hc0 := hc k _ hl
      have hc1 : wr.cell? (ad.add k) = some (.string (letter ns[k])) := (hb.cell (World.block_lt_of_cell? _ _ hc0)).trans hc0
      have hadd := run_string_add_sum (P := Try.prog) (w := wr) (letter ns[k]) ⟨#[120]⟩ (by show 1 + 1 ≤ _; omega)
      clear hc hc0 hl
      generalize hs : letter ns[k] = s at hc1 hadd
      have HS := Lib.hid hs
      clear hs
      go_wp2_with (at_builtin; refine wpList_app1 eStr rfl rfl hown rfl rfl (by first | rfl | simp) rfl (by omega) (by first | omega | (simp; omega)) ?_; intro v1 w2 hown1 hg1 hk1)
      go_roundw
      case rel => exact ⟨k + 1, by omega, by go_num, by rw [map_take_snoc (fun n => vStr (letterX n)) hlt]; unfold letterX; rw [HS.out]; exact hown1, below_grown hb hown hg1 (Nat.le_refl _) hsz⟩
      case measure => first | (simp [intOf]; done) | (simp [intOf]; omega)
    · obtain rfl : k = ns.length := by omega
      rw [List.take_length] at hown
      obtain ⟨O, oc, rfl, _, _⟩ := own_form hown
      have hO : At1 vStr wr O (ns.map letterX) := At1.of_own (n := ns.length) (by rw [List.map_map]; exact hown) (by simp; omega)
      have H2 := Lib.hid (H1.out.trans (hb.mono H1.out.size))
      have hD2 := HD.out.below hb
      obtain ⟨a, ha⟩ : ∃ a, a = ns.map letter := ⟨_, rfl⟩
      have la := Lib.hid (show a.length = ns.length by rw [ha]; simp)
      have hx := long_x ns (by omega)
      rw [← ha] at hD2 hx
      clear ha hown hb HD
      have hkk : ∃ k : Nat, k ≤ ns.length ∧ n % ((ns.length : Int) + 1) = (k : Int) := by
        have e1 := Int.emod_nonneg n (show (ns.length : Int) + 1 ≠ 0 by omega)
        have e2 := Int.emod_lt_of_pos n (show (0 : Int) < (ns.length : Int) + 1 by omega)
        exact ⟨(n % ((ns.length : Int) + 1)).toNat, by omega, by omega⟩
      obtain ⟨k, hk0, hkn⟩ := hkk
      have hlens : a.length ≤ 200 := by rw [la.out]; omega
      have hl1 : ∀ W, At1 vStr W D a → At1 vStr W O (ns.map letterX) → Calls Try.prog 10 #[.slice D ns.length d, .slice O ns.length oc] W fun e w' => e = .returned (.int .i64 0) ∧ Below W.heap.size W w' := fun W h1 h2 => by
        have := long_rd W D O a (ns.map letterX) ns.length ns.length d oc la.out (by simp) h1 h2
        rwa [hx] at this
      have hl2 : ∀ W, At1 vStr W D a → Calls Try.prog 10 #[.slice D ns.length d, .slice D k d] W fun e w' => e = .returned (.int .i64 k) ∧ Below W.heap.size W w' := fun W h1 => by
        have := long_rd W D D a (a.take k) _ k d d la.out (by simp; rw [la.out]; omega) h1 (h1.take k)
        rwa [long_self_take a hlens k (by rw [la.out]; exact hk0)] at this
      have hl3 : ∀ W, At1 vStr W D a → Calls Try.prog 10 #[.slice (if d = k then D else D.map (·.add k)) (ns.length - k) (d - k), .slice D ns.length d] W fun e w' => e = .returned (.int .i64 ((ns.length : Int) - k)) ∧ Below W.heap.size W w' := fun W h1 => by
        have := long_rd W (if d = k then D else D.map (·.add k)) D (a.drop k) a (ns.length - k) ns.length (d - k) d (by simp; rw [la.out]) la.out (h1.cut (by rw [la.out]; exact hk0) (by rw [la.out]; exact hd)) h1
        rw [long_self_drop a hlens k (by rw [la.out]; exact hk0), la.out] at this
        rwa [show ((ns.length - k : Nat) : Int) = (ns.length : Int) - k from by omega] at this
      have HL1 := Lib.hid hl1
      have HL2 := Lib.hid hl2
      have HL3 := Lib.hid hl3
      obtain ⟨l, hl⟩ : ∃ l, l = pairsOf a a := ⟨_, rfl⟩
      have hll : l.length = ns.length := by rw [hl, pairs_self a hlens]; simpa using la.out
      have hli : ∀ i, i < l.length → l[i]? = some (i, i) := fun i hi => by
        rw [hl, pairs_self a hlens]
        rw [hl, pairs_self a hlens] at hi
        simp at hi
        simp [hi]
      have HLL := Lib.hid hll
      have HLI := Lib.hid hli
      have HPL := Lib.hid hl
      have hq1 : ((l.length : Int) == (ns.length : Int)) = true := by simp [hll]
      have hq2 : l.length ≤ 200 := by omega
      clear hl1 hl2 hl3 hx hll hli hl hlens
      go_wp2_with fail
      refine (pairs_rd wr D D a a _ _ d d la.out la.out hD2 hD2).mono ?_
      rw [← HPL.out]
      rintro e w2 ⟨X, cx, Y, cy, rfl, hX, hY, hb3⟩
      have H3 := Lib.hid (H2.out.trans (hb3.mono H2.out.size))
      have hD3 := hD2.below hb3
      have hO3 := hO.below hb3
      clear hb3 hD2 hO
      go_wp2
      go_loopw [11] (fun i wr => ∃ j : Nat, j ≤ l.length ∧ i = .int .i64 j ∧ w2 = wr) (fun i _ => l.length - (intOf i).toNat)
      case atStart => exact ⟨0, Nat.zero_le _, rfl, rfl⟩
      case round =>
        obtain ⟨j, hj, rfl, rfl⟩ := hrel
        by_cases hlt : j < l.length
        · as_aux_lemma =>
          obtain ⟨ax, rfl, hx⟩ := hX.2 (by simp; omega)
          obtain ⟨ay, rfl, hy⟩ := hY.2 (by simp; omega)
          have hji := HLI.out j hlt
          have c1 : w2.cell? (ax.add j) = some (.int .i64 j) := at_map (f := .int .i64) (g := fun z : Nat × Nat => (z.1 : Int)) hx hji
          have c2 : w2.cell? (ay.add j) = some (.int .i64 j) := at_map (f := .int .i64) (g := fun z : Nat × Nat => (z.2 : Int)) hy hji
          have hd1 : decide (l.length ≤ j) = false := by simp; omega
          clear hx hy hX hY hji
          go_wp2
          go_roundw
          case rel => exact ⟨j + 1, by omega, by go_num, trivial⟩
          case measure => first | (simp [intOf]; done) | (simp [intOf]; omega)
        · go_wp2_with fail
          refine (HL1.out _ hD3 hO3).mono ?_
          rintro e w3 ⟨rfl, hb4⟩
          have H4 := Lib.hid (H3.out.trans (hb4.mono H3.out.size))
          have hD4 := hD3.below hb4
          clear hb4
          go_wp2_with fail
          refine (HL2.out _ hD4).mono ?_
          rintro e w4 ⟨rfl, hb5⟩
          have H5 := Lib.hid (H4.out.trans (hb5.mono H4.out.size))
          have hD5 := hD4.below hb5
          clear hb5
          go_wp2_with fail
          · have he : d = k := by assumption
            have h3 := HL3.out _ hD5
            rw [if_pos he, he, Nat.sub_self] at h3
            refine h3.mono ?_
            rintro e w5 ⟨rfl, hb6⟩
            have H6 := Lib.hid (H5.out.trans (hb6.mono H5.out.size))
            clear hb6
            go_wp2_with fail
            refine (awake_end H6).mono ?_
            rintro e w6 ⟨rfl, hb7⟩
            go_wp2
            go_ret
            exact ⟨rfl, hb7.out⟩
          · have hne : ¬ d = k := by assumption
            have h3 := HL3.out _ hD5
            rw [if_neg hne] at h3
            refine h3.mono ?_
            rintro e w5 ⟨rfl, hb6⟩
            have H6 := Lib.hid (H5.out.trans (hb6.mono H5.out.size))
            clear hb6
            go_wp2_with fail
            refine (awake_end H6).mono ?_
            rintro e w6 ⟨rfl, hb7⟩
            go_wp2
            go_ret
            exact ⟨rfl, hb7.out⟩

end Go.Proofs.Ytnjbhleppaamoaa
