/- The walk of LcsMade. -/
import Derived.Test.YtnjbhleppaamoaaLcsLawB
namespace Go.Proofs.Ytnjbhleppaamoaa
open Go.RowKit

theorem pairs_long (a b : List ByteArray) : (pairsOf a b).length = longOf a b := by
  unfold pairsOf longOf
  split
  · rfl
  · exact Lcs.W_length _ _ _ _
theorem pairs_place {a b : List ByteArray} {i : Nat} (hi : i < (pairsOf a b).length) : ∃ p q s, (pairsOf a b)[i]? = some (p, q) ∧ p < a.length ∧ q < b.length ∧ a[p]? = some s ∧ b[q]? = some s := by
  have hm : (pairsOf a b)[i] ∈ pairsOf a b := List.getElem_mem hi
  have key : ∀ x, x ∈ pairsOf a b → x ∈ Lcs.W a b 0 0 := by
    intro x hx
    unfold pairsOf at hx
    split at hx
    · cases hx
    · exact hx
  have hm2 := key _ hm
  obtain ⟨_, _, s, h1, h2⟩ := Lcs.W_places a b 0 0 _ hm2
  simp only [Nat.sub_zero] at h1 h2
  exact ⟨_, _, s, List.getElem?_eq_getElem hi, (List.getElem?_eq_some_iff.1 h1).1, (List.getElem?_eq_some_iff.1 h2).1, h1, h2⟩
theorem pairs_rise {a b : List ByteArray} {i : Nat} {p q p' q' : Nat} (h : (pairsOf a b)[i]? = some (p, q)) (h' : (pairsOf a b)[i + 1]? = some (p', q')) : p < p' ∧ q < q' := by
  have hw : (pairsOf a b).Pairwise (fun p q => p.1 < q.1 ∧ p.2 < q.2) := by
    unfold pairsOf
    split
    · exact .nil
    · exact Lcs.W_rise _ _ _ _
  obtain ⟨h1, e1⟩ := List.getElem?_eq_some_iff.1 h
  obtain ⟨h2, e2⟩ := List.getElem?_eq_some_iff.1 h'
  have := List.pairwise_iff_getElem.1 hw i (i + 1) h1 h2 (by omega)
  rw [e1, e2] at this
  exact this

theorem at_map {α β : Type} {f : β → Value} {g : α → β} {w : World} {ad : Addr} {l : List α} {i : Nat} {x : α} (h : ∀ i y, (l.map g)[i]? = some y → w.cell? (ad.add i) = some (f y)) (hx : l[i]? = some x) : w.cell? (ad.add i) = some (f (g x)) :=
  h i _ (by rw [List.getElem?_map, hx]; rfl)

set_option maxRecDepth 100000 in
set_option maxHeartbeats 1000000 in
theorem lcsMade_walk (w : World) (A : Option Addr) (ns : List UInt8) (ca : Nat) (B : Option Addr) (ms : List UInt8) (cb : Nat) (hA : At1 vByte w A ns) (hB : At1 vByte w B ms) :
    Calls Try.prog 5 #[.slice A ns.length ca, .slice B ms.length cb] w fun e w' => e = .returned (.bool true) ∧ Below w.heap.size w w' := by
  have H0 : Hid (Below w.heap.size w w) := Below.refl _ _
  by_cases h1 : 60 < ns.length
  · go_enter Try.func5, Try.ntmps5
    go_wp2_with fail
    refine (awake_end H0).mono ?_
    rintro e w3 ⟨rfl, hb3⟩
    go_wp2
    go_ret
    exact ⟨rfl, hb3.out⟩
  by_cases h2 : 60 < ms.length
  · go_enter Try.func5, Try.ntmps5
    go_wp2_with fail
    refine (awake_end H0).mono ?_
    rintro e w3 ⟨rfl, hb3⟩
    go_wp2
    go_ret
    exact ⟨rfl, hb3.out⟩
  go_enter Try.func5, Try.ntmps5
  go_wp2_with fail
  refine (letters_rd w A ns ca hA (by omega)).mono ?_
  rintro e w1 ⟨D, d, rfl, hD, _, hb1⟩
  have H1 := Lib.hid hb1
  clear hb1
  go_wp2_with fail
  refine (letters_rd w1 B ms cb (hB.below H1.out) (by omega)).mono ?_
  rintro e w2 ⟨E, f, rfl, hE, _, hb2⟩
  have H2 := Lib.hid (H1.out.trans (hb2.mono H1.out.size))
  have hD2 := hD.below hb2
  clear hb2 hD
  obtain ⟨a, ha⟩ : ∃ a, a = ns.map letter := ⟨_, rfl⟩
  obtain ⟨b, hbb⟩ : ∃ b, b = ms.map letter := ⟨_, rfl⟩
  rw [← ha] at hD2
  rw [← hbb] at hE
  have la : a.length = ns.length := by rw [ha]; simp
  have lb : b.length = ms.length := by rw [hbb]; simp
  have LA := Lib.hid la
  have LB := Lib.hid lb
  clear ha hbb la lb
  obtain ⟨l, hl⟩ : ∃ l, l = pairsOf a b := ⟨_, rfl⟩
  have HL := Lib.hid hl
  have hlen : Hid (l.length = longOf a b) := by rw [hl]; exact pairs_long a b
  have hln : l.length ≤ 60 := by
    rw [hlen.out]
    unfold longOf
    have := Lcs.L_le_left a b
    have := LA.out
    split <;> omega
  clear hl
  go_wp2_with fail
  refine (pairs_rd w2 D E a b _ _ d f LA.out LB.out hD2 hE).mono ?_
  rw [← HL.out]
  rintro e w3 ⟨X, cx, Y, cy, rfl, hX, hY, hb3⟩
  have H3 := Lib.hid (H2.out.trans (hb3.mono H2.out.size))
  have hD3 := hD2.below hb3
  have hE3 := hE.below hb3
  clear hb3 hD2 hE
  go_wp2_with fail
  refine (rpairs_rd w3 D E a b _ _ d f LA.out LB.out hD3 hE3).mono ?_
  rw [← HL.out]
  rintro e w4 ⟨P, cp, Q, cq, rfl, hP, hQ, hb4⟩
  have H4 := Lib.hid (H3.out.trans (hb4.mono H3.out.size))
  have hD4 := hD3.below hb4
  have hE4 := hE3.below hb4
  have hX4 := hX.below hb4
  have hY4 := hY.below hb4
  clear hb4 hD3 hE3 hX hY
  go_wp2_with fail
  refine (ints_rd w4 X P _ _ _ _ cx cp (by simp) (by simp) hX4 hP rfl).mono ?_
  rintro e w5 ⟨rfl, hb5⟩
  have H5 := Lib.hid (H4.out.trans (hb5.mono H4.out.size))
  have hD5 := hD4.below hb5
  have hE5 := hE4.below hb5
  have hX5 := hX4.below hb5
  have hY5 := hY4.below hb5
  have hQ5 := hQ.below hb5
  clear hb5 hD4 hE4 hX4 hY4 hP hQ
  go_wp2_with fail
  refine (ints_rd w5 Y Q _ _ _ _ cy cq (by simp) (by simp) hY5 hQ5 rfl).mono ?_
  rintro e w6 ⟨rfl, hb6⟩
  have H6 := Lib.hid (H5.out.trans (hb6.mono H5.out.size))
  have hD6 := hD5.below hb6
  have hE6 := hE5.below hb6
  have hX6 := hX5.below hb6
  have hY6 := hY5.below hb6
  clear hb6 hD5 hE5 hX5 hY5 hQ5
  go_wp2_with fail
  refine (long_rd w6 D E a b _ _ d f LA.out LB.out hD6 hE6).mono ?_
  rw [← hlen.out]
  rintro e w7 ⟨rfl, hb7⟩
  have H7 := Lib.hid (H6.out.trans (hb7.mono H6.out.size))
  have hD7 := hD6.below hb7
  have hE7 := hE6.below hb7
  have hX7 := hX6.below hb7
  have hY7 := hY6.below hb7
  clear hb7 hD6 hE6 hX6 hY6
  go_wp2
  go_loopw [11] (fun i wr => ∃ (k n : Nat), k ≤ l.length ∧ i = .int .i64 k ∧ wr = w7.drewN n) (fun i _ => l.length - (intOf i).toNat)
  case atStart => exact ⟨0, 0, Nat.zero_le _, rfl, rfl⟩
  case round =>
    obtain ⟨k, n, hk, rfl, rfl⟩ := hrel
    by_cases hlt : k < l.length
    · obtain ⟨p, q, s, hpq, hp, hq, hs1, hs2⟩ := pairs_place (a := a) (b := b) (i := k) (by rw [← HL.out]; exact hlt)
      rw [← HL.out] at hpq
      rw [LA.out] at hp
      rw [LB.out] at hq
      obtain ⟨ax, rfl, hx⟩ := hX7.2 (by simp; omega)
      obtain ⟨ay, rfl, hy⟩ := hY7.2 (by simp; omega)
      obtain ⟨ad, rfl, hd⟩ := hD7.2 (by rw [LA.out]; omega)
      obtain ⟨ae, rfl, he⟩ := hE7.2 (by rw [LB.out]; omega)
      have cx : w7.cell? (ax.add k) = some (.int .i64 p) := at_map (f := .int .i64) (g := fun z : Nat × Nat => (z.1 : Int)) hx hpq
      have cy : w7.cell? (ay.add k) = some (.int .i64 q) := at_map (f := .int .i64) (g := fun z : Nat × Nat => (z.2 : Int)) hy hpq
      have cd : w7.cell? (ad.add p) = some (.string s) := hd p s hs1
      have ce : w7.cell? (ae.add q) = some (.string s) := he q s hs2
      have HPQ := Lib.hid hpq
      have HX := Lib.hid hX7
      have HY := Lib.hid hY7
      have HD := Lib.hid hD7
      have HE := Lib.hid hE7
      have HXc := Lib.hid hx
      have HYc := Lib.hid hy
      clear hpq hX7 hY7 hD7 hE7 hx hy hd he hs1 hs2
      have hdp : decide (ns.length ≤ p) = false := by simp; omega
      have hdq : decide (ms.length ≤ q) = false := by simp; omega
      by_cases hk0 : k = 0
      · as_aux_lemma =>
        subst hk0
        rw [add_zero_] at cx cy
        go_wp2
        go_quiet (fail)
        go_wp2
        go_roundw
        case rel => exact ⟨1, n + nq, by omega, by go_num, by simp⟩
        case measure => first | (simp [intOf]; done) | (simp [intOf]; omega)
      · as_aux_lemma =>
        obtain ⟨j, hj⟩ : ∃ j, k = j + 1 := ⟨k - 1, by omega⟩
        obtain ⟨p', q', s', hpq', hp', hq', _, _⟩ := pairs_place (a := a) (b := b) (i := j) (by rw [← HL.out]; omega)
        rw [← HL.out] at hpq'
        have hr := pairs_rise (a := a) (b := b) (by rw [← HL.out]; exact hpq') (by rw [← HL.out, ← hj]; exact HPQ.out)
        obtain ⟨hr1, hr2⟩ := hr
        have cx' : w7.cell? (ax.add j) = some (.int .i64 p') := at_map (f := .int .i64) (g := fun z : Nat × Nat => (z.1 : Int)) HXc.out hpq'
        have cy' : w7.cell? (ay.add j) = some (.int .i64 q') := at_map (f := .int .i64) (g := fun z : Nat × Nat => (z.2 : Int)) HYc.out hpq'
        clear hpq'
        have hj3 : j < l.length := by omega
        have hd1 : decide (p ≤ p') = false := by simp; omega
        have hd2 : decide (q ≤ q') = false := by simp; omega
        have hkp : 0 < k := by omega
        have hw1 : IntKind.i64.wrap ((k : Int) - 1) = (j : Int) := by rw [IntWalk.i64_in _ (by omega)]; omega
        have hw2 : (k : Int) - 1 = (j : Int) := by omega
        have HJ := Lib.hid hj
        clear hj hk0
        go_wp2
        go_quiet (fail)
        go_wp2
        go_roundw
        case rel => exact ⟨k + 1, n + nq, by omega, by go_num, by simp⟩
        case measure => first | (simp [intOf]; done) | (simp [intOf]; omega)
    · have H8 : Hid (Below w.heap.size w (w7.drewN n)) := below_drewN H7.out n
      go_wp2_with fail
      refine (awake_end H8).mono ?_
      rintro e w8 ⟨rfl, hb8⟩
      go_wp2
      go_ret
      exact ⟨rfl, hb8.out⟩

end Go.Proofs.Ytnjbhleppaamoaa
