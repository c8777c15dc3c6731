/- container/heap over the queue: up, down, Push, Pop. Written by pupgen.py. -/
import Derived.Test.YtfhgnolfhiffbaaPPush
namespace Go.Proofs.Ytfhgnolfhiffbaa
open Go.RowKit
def nd0 : Nd := (⟨#[]⟩, 0)
def lessL (L : List Nd) (i k : Nat) : Bool := decide (ndCmp (L.getD i nd0) (L.getD k nd0) < 0)
def swapL (L : List Nd) (i k : Nat) : List Nd := (L.set i (L.getD k nd0)).set k (L.getD i nd0)
theorem swapL_len (L : List Nd) (i k : Nat) : (swapL L i k).length = L.length := by simp [swapL]
def upL (L : List Nd) (j : Nat) : List Nd :=
  if j = 0 then L else if lessL L j ((j - 1) / 2) = true then upL (swapL L ((j - 1) / 2) j) ((j - 1) / 2) else L
termination_by j
decreasing_by omega
def downJ (L : List Nd) (i n : Nat) : Nat := if 2 * i + 1 + 1 < n ∧ lessL L (2 * i + 1 + 1) (2 * i + 1) = true then 2 * i + 1 + 1 else 2 * i + 1
def downL (L : List Nd) (i n : Nat) : List Nd :=
  if n ≤ 2 * i + 1 then L else if lessL L (downJ L i n) i = true then downL (swapL L i (downJ L i n)) (downJ L i n) n else L
termination_by n - i
decreasing_by
  have : 2 * i + 1 ≤ downJ L i n := by unfold downJ; split <;> omega
  omega
theorem upL_len (L : List Nd) (j : Nat) : (upL L j).length = L.length := by
  induction j using Nat.strongRecOn generalizing L with
  | ind j ih =>
    rw [upL]
    split
    · rfl
    · split
      · rw [ih _ (by omega), swapL_len]
      · rfl
theorem downL_len (n : Nat) : ∀ (m : Nat) (L : List Nd) (i : Nat), n - i ≤ m → (downL L i n).length = L.length := by
  intro m
  induction m with
  | zero =>
    intro L i h
    rw [downL, if_pos (by omega)]
  | succ m ih =>
    intro L i h
    rw [downL]
    split
    · rfl
    · split
      · have : 2 * i + 1 ≤ downJ L i n := by unfold downJ; split <;> omega
        rw [ih _ _ (by omega), swapL_len]
      · rfl
/-- behind the end nothing moves -/
theorem swapL_get {L : List Nd} {i k m : Nat} (h1 : m ≠ i) (h2 : m ≠ k) : (swapL L i k)[m]? = L[m]? := by
  unfold swapL
  rw [List.getElem?_set_ne (Ne.symm h2), List.getElem?_set_ne (Ne.symm h1)]
theorem downL_get' (n : Nat) : ∀ (f : Nat) (L : List Nd) (i : Nat), n - i ≤ f → i < n ∨ n ≤ 2 * i + 1 → (downL L i n)[n]? = L[n]? := by
  intro f
  induction f with
  | zero =>
    intro L i h _
    rw [downL, if_pos (by omega)]
  | succ f ih =>
    intro L i h h2
    rw [downL]
    split
    · rfl
    · rename_i hlt
      split
      · have h3 : 2 * i + 1 ≤ downJ L i n := by unfold downJ; split <;> omega
        have h4 : downJ L i n < n := by
          unfold downJ
          split
          · rename_i hh; exact hh.1
          · omega
        rw [ih _ _ (by omega) (.inl h4), swapL_get (by omega) (by omega)]
      · rfl
theorem downL_get (n : Nat) (L : List Nd) (i : Nat) (hi : i ≤ n) : (downL L i n)[n]? = L[n]? := downL_get' n (n - i) L i (Nat.le_refl _) (by omega)
theorem swap_last {L : List Nd} {n : Nat} {x : Nd} (hn : L.length - 1 = n) (h0 : 0 < L.length) (hx : L[0]? = some x) : (swapL L 0 n)[n]? = some x := by
  unfold swapL
  rw [List.getElem?_set_self (by rw [List.length_set]; omega)]
  obtain ⟨h, e⟩ := List.getElem?_eq_some_iff.1 hx
  simp [List.getD, hx]
theorem getD_some {L : List Nd} {i : Nat} (h : i < L.length) : L[i]? = some (L.getD i nd0) := by simp [List.getD, h]
theorem m_len (Q : Nat) (w : World) : (method 194 43 (.pointer (some ⟨Q, 0, none⟩)) "Len").run Try.prog w = .ok (20, .pointer (some ⟨Q, 0, none⟩)) w := by kernel_rfl
theorem m_less (Q : Nat) (w : World) : (method 194 43 (.pointer (some ⟨Q, 0, none⟩)) "Less").run Try.prog w = .ok (52, .pointer (some ⟨Q, 0, none⟩)) w := by kernel_rfl
theorem m_swap (Q : Nat) (w : World) : (method 194 43 (.pointer (some ⟨Q, 0, none⟩)) "Swap").run Try.prog w = .ok (55, .pointer (some ⟨Q, 0, none⟩)) w := by kernel_rfl
theorem m_push (Q : Nat) (w : World) : (method 194 43 (.pointer (some ⟨Q, 0, none⟩)) "Push").run Try.prog w = .ok (54, .pointer (some ⟨Q, 0, none⟩)) w := by kernel_rfl
theorem m_pop (Q : Nat) (w : World) : (method 194 43 (.pointer (some ⟨Q, 0, none⟩)) "Pop").run Try.prog w = .ok (53, .pointer (some ⟨Q, 0, none⟩)) w := by kernel_rfl
theorem QM.refl (Q : Nat) (w : World) (v : Value) : QM Q w v w v := QM.of_below (Below.refl _ _)
theorem less_any (w : World) (Q base : Nat) (v : Value) (L : List Nd) (h : QS w Q base v L) (i k : Nat) (hi : i < L.length) (hk : k < L.length) :
    Calls Try.prog 52 #[.pointer (some ⟨Q, 0, none⟩), .int .i64 i, .int .i64 k] w fun e w' => e = .returned (.bool (lessL L i k)) ∧ Below w.heap.size w w' :=
  qless_any w Q base v L h i k _ _ (getD_some hi) (getD_some hk)
theorem swap_any (w : World) (Q base : Nat) (v : Value) (L : List Nd) (h : QS w Q base v L) (i k : Nat) (hi : i < L.length) (hk : k < L.length) :
    Calls Try.prog 55 #[.pointer (some ⟨Q, 0, none⟩), .int .i64 i, .int .i64 k] w (QPost Q base w v (swapL L i k) (.tuple #[])) :=
  qswap_any w Q base v L h i k _ _ (getD_some hi) (getD_some hk)
set_option maxRecDepth 100000 in
set_option maxHeartbeats 1000000 in
theorem up_any (w : World) (Q base : Nat) (v : Value) (L : List Nd) (h : QS w Q base v L) (j : Nat) (hj : j < L.length) (hL : L.length ≤ 1000000) :
    Calls Try.prog 32 #[.iface 43 (.pointer (some ⟨Q, 0, none⟩)), .int .i64 j] w (QPost Q base w v (upL L j) (.tuple #[])) := by
  have hm1 := m_less
  have hm2 := m_swap
  go_enter Try.func32, Try.ntmps32
  go_wp2_with fail
  go_loopw [1] (fun u wr => ∃ (k : Nat) (L' : List Nd) (v' : Value), k < L'.length ∧ u = .int .i64 k ∧ L'.length = L.length ∧ QS wr Q base v' L' ∧ QM Q w v wr v' ∧ Hid (upL L' k = upL L j)) (fun u _ => (intOf u).toNat)
  case atStart => exact ⟨j, L, v, hj, rfl, rfl, h, QM.refl _ _ _, rfl⟩
  case round =>
    obtain ⟨k, L', v', hk, rfl, hL', hq, hm, hu⟩ := hrel
    have HU := Lib.hid hu
    have HM := Lib.hid hm
    have HQ := Lib.hid hq
    have HLL := Lib.hid hL'
    clear hu hm hq hj h
    by_cases hk0 : k = 0
    · subst hk0
      go_wp2_with fail
      refine bodyPost_end (v := .tuple #[]) (by simp [results, Try.f32]) rfl ?_
      have hu := HU.out.out
      rw [upL, if_pos rfl] at hu
      rw [← hu]
      exact ⟨v', rfl, HQ.out, HM.out⟩
    · have e1 : ((k : Int) - 1).tdiv 2 = ((k - 1) / 2 : Nat) := by rw [Int.tdiv_eq_ediv_of_nonneg (by omega)]; omega
      obtain ⟨i, hi⟩ : ∃ i, (k - 1) / 2 = i := ⟨_, rfl⟩
      rw [hi] at e1
      have hil : i < k := by omega
      have g1 : ((i : Int) == (k : Int)) = false := by rw [beq_eq_false_iff_ne]; omega
      have g2 : decide ((i : Int) = (k : Int)) = false := decide_eq_false (by omega)
      go_wp2_with fail
      refine (less_any _ Q base v' L' HQ.out k i hk (by omega)).mono ?_
      rintro e w1 ⟨rfl, hb1⟩
      have HQ1 := Lib.hid (HQ.out.below hb1)
      have HM1 := Lib.hid (HM.out.below hb1)
      clear hb1
      cases hl : lessL L' k i with
      | false =>
        go_wp2_with fail
        refine bodyPost_end (v := .tuple #[]) (by simp [results, Try.f32]) rfl ?_
        have hu := HU.out.out
        rw [upL, if_neg hk0, hi, hl, if_neg Bool.false_ne_true] at hu
        rw [← hu]
        exact ⟨v', rfl, HQ1.out, HM1.out⟩
      | true =>
        have HUN := Lib.hid (show upL (swapL L' i k) i = upL L j by
          have hu := HU.out.out
          rw [upL, if_neg hk0, hi, hl, if_pos rfl] at hu
          exact hu)
        go_wp2_with fail
        refine (swap_any _ Q base v' L' HQ1.out i k (by omega) hk).mono ?_
        rintro e w2 ⟨v2, rfl, hq2, hm9⟩
        have HQ2 := Lib.hid hq2
        have HM2 := Lib.hid (HM1.out.trans hm9)
        clear hq2 hm9
        go_wp2
        go_roundw
        case rel => exact ⟨i, swapL L' i k, v2, by rw [swapL_len]; omega, rfl, by rw [swapL_len]; exact hL', HQ2.out, HM2.out, HUN.out⟩
        case measure => first | (simp [intOf]; done) | (simp [intOf]; omega)
def QPostB (Q base : Nat) (w : World) (v : Value) (L' : List Nd) (e : Ending) (w' : World) : Prop := ∃ v' b, e = .returned (.bool b) ∧ QS w' Q base v' L' ∧ QM Q w v w' v'
set_option maxRecDepth 100000 in
set_option maxHeartbeats 1000000 in
theorem down_any (w : World) (Q base : Nat) (v : Value) (L : List Nd) (h : QS w Q base v L) (i n : Nat) (hn : n ≤ L.length) (hi : i ≤ n) (hL : L.length ≤ 1000000) :
    Calls Try.prog 31 #[.iface 43 (.pointer (some ⟨Q, 0, none⟩)), .int .i64 i, .int .i64 n] w (QPostB Q base w v (downL L i n)) := by
  have hm1 := m_less
  have hm2 := m_swap
  go_enter Try.func31, Try.ntmps31
  go_wp2_with fail
  go_loopw [7] (fun u wr => ∃ (k : Nat) (L' : List Nd) (v' : Value), k ≤ n ∧ u = .int .i64 k ∧ L'.length = L.length ∧ QS wr Q base v' L' ∧ QM Q w v wr v' ∧ Hid (downL L' k n = downL L i n)) (fun u _ => n - (intOf u).toNat)
  case atStart => exact ⟨i, L, v, hi, rfl, rfl, h, QM.refl _ _ _, rfl⟩
  case round =>
    obtain ⟨k, L', v', hk, rfl, hL', hq, hm, hu⟩ := hrel
    have HU := Lib.hid hu.out
    have HM := Lib.hid hm
    have HQ := Lib.hid hq
    clear hu hm hq h
    by_cases hend : n ≤ 2 * k + 1
    · have g1 : decide ((n : Int) ≤ 2 * (k : Int) + 1) = true := decide_eq_true (by omega)
      have hu := HU.out
      rw [downL, if_pos hend] at hu
      have HU2 := Lib.hid hu
      clear hu HU
      go_wp2_with fail
      refine bodyPost_ret (v := .bool (decide (i < k))) (by simp [results, Try.f31, go_sem]) rfl ?_
      rw [← HU2.out]
      exact ⟨v', _, rfl, HQ.out, HM.out⟩
    · obtain ⟨j1, hj1⟩ : ∃ j1, 2 * k + 1 = j1 := ⟨_, rfl⟩
      obtain ⟨j2, hj2⟩ : ∃ j2, j1 + 1 = j2 := ⟨_, rfl⟩
      have e1 : 2 * (k : Int) + 1 = (j1 : Int) := by omega
      have e2 : (j1 : Int) + 1 = (j2 : Int) := by omega
      have g1 : decide ((n : Int) ≤ (j1 : Int)) = false := decide_eq_false (by omega)
      have g2 : decide ((j1 : Int) < 0) = false := decide_eq_false (by omega)
      by_cases hr : j2 < n
      · have g3 : decide ((j2 : Int) < (n : Int)) = true := decide_eq_true (by omega)
        go_wp2_with fail
        refine (less_any _ Q base v' L' HQ.out j2 j1 (by omega) (by omega)).mono ?_
        rintro e w1 ⟨rfl, hb1⟩
        have HQ1 := Lib.hid (HQ.out.below hb1)
        have HM1 := Lib.hid (HM.out.below hb1)
        clear hb1
        cases hl0 : lessL L' j2 j1 with
        | false =>
          have HJ := Lib.hid (show downJ L' k n = j1 by unfold downJ; rw [hj1, hj2, hl0, if_neg (by simp)])
          go_wp2_with fail
          refine (less_any _ Q base v' L' HQ1.out j1 k (by omega) (by omega)).mono ?_
          rintro e w2 ⟨rfl, hb2⟩
          have HQ2 := Lib.hid (HQ1.out.below hb2)
          have HM2 := Lib.hid (HM1.out.below hb2)
          clear hb2
          cases hl : lessL L' j1 k with
          | false =>
            have hu := HU.out
            rw [downL, if_neg hend, HJ.out, hl, if_neg Bool.false_ne_true] at hu
            have HU2 := Lib.hid hu
            clear hu HU
            go_wp2_with fail
            refine bodyPost_ret (v := .bool (decide (i < k))) (by simp [results, Try.f31, go_sem]) rfl ?_
            rw [← HU2.out]
            exact ⟨v', _, rfl, HQ2.out, HM2.out⟩
          | true =>
            have HUN := Lib.hid (show downL (swapL L' k j1) j1 n = downL L i n by
              have hu := HU.out
              rw [downL, if_neg hend, HJ.out, hl, if_pos rfl] at hu
              exact hu)
            go_wp2_with fail
            refine (swap_any _ Q base v' L' HQ2.out k j1 (by omega) (by omega)).mono ?_
            rintro e w3 ⟨v3, rfl, hq3, hm9⟩
            have HQ3 := Lib.hid hq3
            have HM3 := Lib.hid (HM2.out.trans hm9)
            clear hq3 hm9
            go_wp2
            go_roundw
            case rel => exact ⟨j1, swapL L' k j1, v3, by omega, rfl, by rw [swapL_len]; exact hL', HQ3.out, HM3.out, HUN.out⟩
            case measure => first | (simp [intOf]; done) | (simp [intOf]; omega)
        | true =>
          have HJ := Lib.hid (show downJ L' k n = j2 by unfold downJ; rw [hj1, hj2, hl0, if_pos ⟨hr, rfl⟩])
          go_wp2_with fail
          refine (less_any _ Q base v' L' HQ1.out j2 k (by omega) (by omega)).mono ?_
          rintro e w2 ⟨rfl, hb2⟩
          have HQ2 := Lib.hid (HQ1.out.below hb2)
          have HM2 := Lib.hid (HM1.out.below hb2)
          clear hb2
          cases hl : lessL L' j2 k with
          | false =>
            have hu := HU.out
            rw [downL, if_neg hend, HJ.out, hl, if_neg Bool.false_ne_true] at hu
            have HU2 := Lib.hid hu
            clear hu HU
            go_wp2_with fail
            refine bodyPost_ret (v := .bool (decide (i < k))) (by simp [results, Try.f31, go_sem]) rfl ?_
            rw [← HU2.out]
            exact ⟨v', _, rfl, HQ2.out, HM2.out⟩
          | true =>
            have HUN := Lib.hid (show downL (swapL L' k j2) j2 n = downL L i n by
              have hu := HU.out
              rw [downL, if_neg hend, HJ.out, hl, if_pos rfl] at hu
              exact hu)
            go_wp2_with fail
            refine (swap_any _ Q base v' L' HQ2.out k j2 (by omega) (by omega)).mono ?_
            rintro e w3 ⟨v3, rfl, hq3, hm9⟩
            have HQ3 := Lib.hid hq3
            have HM3 := Lib.hid (HM2.out.trans hm9)
            clear hq3 hm9
            go_wp2
            go_roundw
            case rel => exact ⟨j2, swapL L' k j2, v3, by omega, rfl, by rw [swapL_len]; exact hL', HQ3.out, HM3.out, HUN.out⟩
            case measure => first | (simp [intOf]; done) | (simp [intOf]; omega)
      · have g3 : decide ((j2 : Int) < (n : Int)) = false := decide_eq_false (by omega)
        have HJ := Lib.hid (show downJ L' k n = j1 by unfold downJ; rw [hj1, hj2, if_neg (fun h => hr h.1)])
        go_wp2_with fail
        refine (less_any _ Q base v' L' HQ.out j1 k (by omega) (by omega)).mono ?_
        rintro e w2 ⟨rfl, hb2⟩
        have HQ2 := Lib.hid (HQ.out.below hb2)
        have HM2 := Lib.hid (HM.out.below hb2)
        clear hb2
        cases hl : lessL L' j1 k with
        | false =>
          have hu := HU.out
          rw [downL, if_neg hend, HJ.out, hl, if_neg Bool.false_ne_true] at hu
          have HU2 := Lib.hid hu
          clear hu HU
          go_wp2_with fail
          refine bodyPost_ret (v := .bool (decide (i < k))) (by simp [results, Try.f31, go_sem]) rfl ?_
          rw [← HU2.out]
          exact ⟨v', _, rfl, HQ2.out, HM2.out⟩
        | true =>
          have HUN := Lib.hid (show downL (swapL L' k j1) j1 n = downL L i n by
            have hu := HU.out
            rw [downL, if_neg hend, HJ.out, hl, if_pos rfl] at hu
            exact hu)
          go_wp2_with fail
          refine (swap_any _ Q base v' L' HQ2.out k j1 (by omega) (by omega)).mono ?_
          rintro e w3 ⟨v3, rfl, hq3, hm9⟩
          have HQ3 := Lib.hid hq3
          have HM3 := Lib.hid (HM2.out.trans hm9)
          clear hq3 hm9
          go_wp2
          go_roundw
          case rel => exact ⟨j1, swapL L' k j1, v3, by omega, rfl, by rw [swapL_len]; exact hL', HQ3.out, HM3.out, HUN.out⟩
          case measure => first | (simp [intOf]; done) | (simp [intOf]; omega)
/-- heap.Push -/
def hpushL (L : List Nd) (x : Nd) : List Nd := upL (L ++ [x]) L.length
/-- heap.Pop: what is left; the first one goes -/
def hpopL (L : List Nd) : List Nd := (downL (swapL L 0 (L.length - 1)) 0 (L.length - 1)).take (L.length - 1)
set_option maxRecDepth 100000 in
set_option maxHeartbeats 1000000 in
theorem hpush_any (w : World) (Q base : Nat) (v : Value) (L : List Nd) (h : QS w Q base v L) (s : ByteArray) (d : Int) (hL : L.length ≤ 100000) (hbase : base ≤ w.heap.size) :
    Calls Try.prog 22 #[.iface 43 (.pointer (some ⟨Q, 0, none⟩)), .iface 45 (.agg #[.string s, .int .i64 d])] w (QPost Q base w v (hpushL L (s, d)) (.tuple #[])) := by
  have hm1 := m_len
  have hm2 := m_push
  go_enter Try.func22, Try.ntmps22
  go_wp2_with fail
  refine (qpush_any w Q base v L h s d (by omega) hbase).mono ?_
  rintro e w1 ⟨v1, rfl, hq1, hmm1⟩
  go_wp2_with fail
  refine (qlen_any w1 Q base v1 _ hq1).mono ?_
  rintro e w2 ⟨rfl, rfl⟩
  have hl : (L ++ [(s, d)]).length = L.length + 1 := by simp
  have e1 : ((L.length : Int) + 1) - 1 = (L.length : Int) := by omega
  rw [hl]
  go_wp2_with fail
  refine (up_any _ Q base v1 _ hq1 L.length (by omega) (by omega)).mono ?_
  rintro e w3 ⟨v3, rfl, hq3, hmm3⟩
  have HQ := Lib.hid hq3
  have HM := Lib.hid (hmm1.trans hmm3)
  clear hq3 hmm3 hmm1 hq1
  go_wp2_with fail
  refine bodyPost_end (v := .tuple #[]) (by simp [results, Try.f22]) rfl ?_
  exact ⟨v3, rfl, HQ.out, HM.out⟩
set_option maxRecDepth 100000 in
set_option maxHeartbeats 1000000 in
theorem hpop_any (w : World) (Q base : Nat) (v : Value) (L : List Nd) (h : QS w Q base v L) (hL : L.length ≤ 100000) (h0 : 0 < L.length) (x : Nd) (hx : L[0]? = some x) :
    Calls Try.prog 21 #[.iface 43 (.pointer (some ⟨Q, 0, none⟩))] w (QPost Q base w v (hpopL L) (.iface 45 (.agg #[.string x.1, .int .i64 x.2]))) := by
  have hm1 := m_len
  have hm2 := m_swap
  have hm3 := m_pop
  obtain ⟨n, hn⟩ : ∃ n, L.length - 1 = n := ⟨_, rfl⟩
  have e1 : (L.length : Int) - 1 = (n : Int) := by omega
  go_enter Try.func21, Try.ntmps21
  go_wp2_with fail
  refine (qlen_any w Q base v _ h).mono ?_
  rintro e w1 ⟨rfl, rfl⟩
  go_wp2_with fail
  refine (swap_any _ Q base v L h 0 n (by omega) (by omega)).mono ?_
  rintro e w2 ⟨v2, rfl, hq2, hmm2⟩
  go_wp2_with fail
  refine (down_any _ Q base v2 _ hq2 0 n (by rw [swapL_len]; omega) (Nat.zero_le _) (by rw [swapL_len]; omega)).mono ?_
  rintro e w3 ⟨v3, b, rfl, hq3, hmm3⟩
  go_wp2_with fail
  refine (qpop_any _ Q base v3 _ hq3 n x (by rw [downL_len n n _ _ (by omega), swapL_len]; omega) (by rw [downL_get _ _ _ (Nat.zero_le _)]; exact swap_last hn h0 hx) (by omega)).mono ?_
  rintro e w4 ⟨v4, rfl, hq4, hmm4⟩
  have HQ := Lib.hid hq4
  have HM := Lib.hid (hmm2.trans (hmm3.trans hmm4))
  have HN := Lib.hid hn
  clear hq4 hmm4 hmm3 hmm2 hq3 hq2 hn e1
  go_wp2_with fail
  refine bodyPost_ret (v := .iface 45 (.agg #[.string x.1, .int .i64 x.2])) (by simp [results, Try.f21, go_sem]) rfl ?_
  refine ⟨v4, rfl, ?_, HM.out⟩
  unfold hpopL
  rw [HN.out]
  exact HQ.out
end Go.Proofs.Ytfhgnolfhiffbaa
