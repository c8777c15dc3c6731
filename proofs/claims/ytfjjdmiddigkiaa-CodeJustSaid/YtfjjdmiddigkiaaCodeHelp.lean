/- The law's own functions: heavy, awake, Texts; the contracts of the others as the laws read them. -/
import Derived.Test.YtfjjdmiddigkiaaCodeGetList
namespace Go.Proofs.Ytfjjdmiddigkiaa
open Go.RowKit

def BytesRd (w : World) (l : List UInt8) (e : Ending) (w' : World) : Prop := ∃ A c, e = .returned (.slice A l.length c) ∧ At1 vByte w' A l ∧ l.length ≤ c ∧ Below w.heap.size w w'
theorem bytesRd_of {w w' : World} {l : List UInt8} {e : Ending} (hl : l.length ≤ 9223372036854775807) (h : ∃ v, e = .returned v ∧ w'.ownsRow w.heap.size 5 1 v l.length (l.map vByte) ∧ Below w.heap.size w w') : BytesRd w l e w' := by
  obtain ⟨v, rfl, h1, h2⟩ := h
  obtain ⟨A, c, rfl, h3, h4⟩ := own_reads h1 hl
  exact ⟨A, c, rfl, h3, h4, h2⟩
theorem putN_len {n : Int} (h : n ≤ 9223372036854775807) : (Code.putN n).length ≤ 9 := by
  unfold Code.putN
  split
  · simp
  · exact putL_len9 (by omega)
theorem put_rd (w : World) (n : Int) (hn : n ≤ 9223372036854775807) : Calls Try.prog 14 #[.int .i64 n] w (BytesRd w (Code.putN n)) :=
  (put_any w n hn).mono fun _ _ h => bytesRd_of (by have := putN_len hn; omega) h
theorem rput_rd (w : World) (n : Int) (hn : n ≤ 9223372036854775807) : Calls Try.prog 15 #[.int .i64 n] w (BytesRd w (Code.putN n)) :=
  (rput_any w n hn).mono fun _ _ h => bytesRd_of (by have := putN_len hn; omega) h
theorem putText_rd (w : World) (s : ByteArray) (hs : s.size ≤ 1000) : Calls Try.prog 16 #[.string s] w (BytesRd w (Code.putText s.data.toList)) :=
  (putText_any w s (by omega)).mono fun _ _ h => bytesRd_of (by have h1 : (Code.putText s.data.toList).length ≤ 1009 := putText_len hs
                                                                omega) h
theorem rputText_rd (w : World) (s : ByteArray) (hs : s.size ≤ 1000) : Calls Try.prog 17 #[.string s] w (BytesRd w (Code.putText s.data.toList)) :=
  (rputText_any w s (by omega)).mono fun _ _ h => bytesRd_of (by have h1 : (Code.putText s.data.toList).length ≤ 1009 := putText_len hs
                                                                 omega) h
theorem putList_len {l : List ByteArray} (hl : l.length ≤ 1000) (h : ∀ s ∈ l, s.size ≤ 1000) : (Code.putList (l.map bytesOf)).length ≤ 9 + 1009 * l.length := by
  rw [← listTo_all]; exact listTo_len hl h _ (Nat.le_refl _)
theorem putList_rd (w : World) (A : Option Addr) (l : List ByteArray) (n c : Nat) (hn : l.length = n) (hA : At1 vStr w A l) (hl : l.length ≤ 1000) (hs : ∀ s ∈ l, s.size ≤ 1000) :
    Calls Try.prog 18 #[.slice A n c] w (BytesRd w (Code.putList (l.map bytesOf))) := by
  subst hn
  exact (putList_any w A l c hA hl hs).mono fun _ _ h => bytesRd_of (by have := putList_len hl hs; omega) h
theorem rputList_rd (w : World) (A : Option Addr) (l : List ByteArray) (n c : Nat) (hn : l.length = n) (hA : At1 vStr w A l) (hl : l.length ≤ 1000) (hs : ∀ s ∈ l, s.size ≤ 1000) :
    Calls Try.prog 19 #[.slice A n c] w (BytesRd w (Code.putList (l.map bytesOf))) := by
  subst hn
  exact (rputList_any w A l c hA hl hs).mono fun _ _ h => bytesRd_of (by have := putList_len hl hs; omega) h

theorem optNum_form (o : Option (Nat × Nat)) : ∃ x y z, optNum o = .tuple #[.int .i64 x, .int .i64 y, .bool z] := by
  cases o with
  | none => exact ⟨_, _, _, rfl⟩
  | some p => obtain ⟨n, m⟩ := p; exact ⟨_, _, _, rfl⟩
theorem optText_form (o : Option (List UInt8 × Nat)) : ∃ x y z, optText o = .tuple #[.string x, .int .i64 y, .bool z] := by
  cases o with
  | none => exact ⟨_, _, _, rfl⟩
  | some p => obtain ⟨n, m⟩ := p; exact ⟨_, _, _, rfl⟩
theorem mkS_map (l : List (List UInt8)) : l.map (fun s => vStr (mkS s)) = (l.map mkS).map vStr := by rw [List.map_map]; rfl
theorem listPost_form {b : List UInt8} {k : Int} (hb : b.length ≤ 1000000) : ∃ (l : List ByteArray) (y : Int) (z : Bool), ∀ w e w', ListPost w (listAt b k) e w' → ∃ A c, e = .returned (.tuple #[.slice A l.length c, .int .i64 y, .bool z]) ∧ At1 vStr w' A l ∧ Below w.heap.size w w' := by
  cases h : listAt b k with
  | none =>
    refine ⟨[], 0, false, fun w e w' hp => ?_⟩
    obtain ⟨rfl, h2⟩ := hp
    exact ⟨none, 0, rfl, At1.nil _ _ _, h2⟩
  | some p =>
    obtain ⟨l, m⟩ := p
    have hl : l.length ≤ 1000000 := by
      rw [listAt] at h
      split at h
      · cases h
      · cases hg : Code.getList (b.drop k.toNat) with
        | none => rw [hg] at h; cases h
        | some q =>
          rw [hg] at h
          injection h with h
          injection h with h1 h2
          obtain ⟨l', m'⟩ := q
          obtain ⟨g1, g2, g3⟩ := Code.getList_just hg
          unfold Code.getList at hg
          split at hg
          · cases hg
          · split at hg
            · cases hg
            · rename_i l2 k2 hl2
              injection hg with hg
              injection hg with ha hb2
              obtain ⟨q1, q2, q3, _⟩ := Code.getTexts_just _ _ _ _ hl2
              simp only [List.length_drop] at q3
              subst ha
              rw [← h1]
              show l2.length ≤ _
              omega
    refine ⟨l.map mkS, m, true, fun w e w' hp => ?_⟩
    obtain ⟨v, rfl, h1, h2⟩ := hp
    rw [mkS_map] at h1
    obtain ⟨A, c, rfl, h3, _⟩ := own_reads (l := l.map mkS) (by simpa using h1) (by simp; omega)
    exact ⟨A, c, rfl, h3, h2⟩

set_option maxRecDepth 100000 in
theorem texts_eq (w : World) (A B : Option Addr) (l : List ByteArray) (n m c d : Nat) (hn : l.length = n) (hm : l.length = m) (hA : At1 vStr w A l) (hB : At1 vStr w B l) :
    Calls Try.prog 20 #[.slice A n c, .slice B m d] w fun e w' => e = .returned (.bool true) ∧ Below w.heap.size w w' := by
  subst hn hm
  obtain ⟨hx, hA⟩ := hA
  obtain ⟨hy, hB⟩ := hB
  go_enter Try.func20, Try.ntmps20
  go_wp2
  go_loopw [5] (fun i wr => ∃ (k n : Nat), k ≤ l.length ∧ i = .int .i64 k ∧ wr = w.drewN n) (fun i _ => l.length - (intOf i).toNat)
  case atStart => exact ⟨0, 0, Nat.zero_le _, rfl, rfl⟩
  case round =>
    obtain ⟨k, n, hk, rfl, rfl⟩ := hrel
    by_cases hlt : k < l.length
    · obtain ⟨ad, rfl, hc⟩ := hA (by omega)
      obtain ⟨bd, rfl, hd⟩ := hB (by omega)
      have hc1 : w.cell? (ad.add k) = some (.string l[k]) := hc k _ (List.getElem?_eq_getElem hlt)
      have hd1 : w.cell? (bd.add k) = some (.string l[k]) := hd k _ (List.getElem?_eq_getElem hlt)
      clear hc hd hA hB
      generalize l[k] = s at hc1 hd1
      go_wp2
      go_quiet (fail)
      go_wp2
      go_roundw
      case rel => exact ⟨k + 1, n + nq, by omega, by go_num, rfl⟩
      case measure => first | (simp [intOf]; done) | (simp [intOf]; omega)
    · go_wp2
      go_ret
      exact ⟨rfl, below_of_drewN _ _⟩

def HeavyPost (w : World) (l : List ByteArray) (e : Ending) (w' : World) : Prop := ∃ h, e = .returned (.bool h) ∧ w = w' ∧ (h = false → l.length ≤ 50 ∧ ∀ s ∈ l, s.size ≤ 1000)
set_option maxRecDepth 100000 in
theorem heavy_any (w : World) (A : Option Addr) (l : List ByteArray) (c : Nat) (hA : At1 vStr w A l) :
    Calls Try.prog 6 #[.slice A l.length c] w (HeavyPost w l) := by
  obtain ⟨hx, hA⟩ := hA
  go_enter Try.func6, Try.ntmps6
  go_wp2
  go_loop [3] (fun i => ∃ (k : Nat), k ≤ l.length ∧ i = .int .i64 k ∧ ∀ j, j < k → ∀ s, l[j]? = some s → s.size ≤ 1000) (fun i => l.length - (intOf i).toNat)
  case atStart => exact ⟨0, Nat.zero_le _, rfl, fun j hj => absurd hj (by omega)⟩
  case round =>
    obtain ⟨k, hk, rfl, hall⟩ := hrel
    have HALL := Lib.hid hall
    clear hall
    by_cases hlt : k < l.length
    · obtain ⟨ad, rfl, hc⟩ := hA (by omega)
      have hc1 : w.cell? (ad.add k) = some (.string l[k]) := hc k _ (List.getElem?_eq_getElem hlt)
      have hs := Lib.hid (List.getElem?_eq_getElem hlt)
      clear hc hA
      generalize l[k] = s at hc1 hs
      by_cases h250 : k < 60
      · by_cases h3 : 300 < s.size
        · go_wp2
          go_ret
          exact ⟨_, rfl, rfl, fun h => by cases h⟩
        · go_wp2
          go_round
          case rel =>
            refine ⟨k + 1, by omega, by go_num, fun j hj s' hs' => ?_⟩
            by_cases e : j = k
            · subst e
              rw [hs.out] at hs'
              injection hs' with hs'
              subst hs'
              omega
            · exact HALL.out j (by omega) s' hs'
          case measure => first | (simp [intOf]; done) | (simp [intOf]; omega)
      · have h50 : 50 < l.length := by omega
        go_wp2
        go_ret
        exact ⟨_, rfl, rfl, fun h => by simp at h; omega⟩
    · go_wp2
      go_ret
      refine ⟨_, rfl, rfl, fun h => ⟨by simp at h; omega, fun s hs => ?_⟩⟩
      obtain ⟨j, hj, e⟩ := List.mem_iff_getElem.1 hs
      exact HALL.out j (by omega) s (by rw [List.getElem?_eq_getElem hj, e])

set_option maxRecDepth 100000 in
theorem awake_any (w : World) : Calls Try.prog 7 #[] w fun e w' => e = .returned (.bool true) ∧ Below w.heap.size w w' := by
  have e : Code.putN 300 = [172, 2] := by
    unfold Code.putN
    rw [if_neg (by decide), show (300 : Int).toNat = 300 from rfl, Code.putL_big (by decide), Code.putL_small (by decide)]
    rfl
  go_enter Try.func7, Try.ntmps7
  go_wp2_with fail
  have hp : Calls Try.prog 14 #[.int .i64 300] w fun e w' => ∃ A c, e = .returned (.slice A 2 c) ∧ At1 vByte w' A [172, 2] ∧ Below w.heap.size w w' := by
    refine (put_rd w 300 (by decide)).mono ?_
    rw [e]
    rintro e w1 ⟨A, c, rfl, hA, _, hb⟩
    exact ⟨A, c, rfl, hA, hb⟩
  refine hp.mono ?_
  rintro e w1 ⟨A, c, rfl, hA, hb⟩
  obtain ⟨ad, rfl, hcell⟩ := hA.2 (by simp)
  have c0 : w1.cell? (ad.add 0) = some (.int .u8 172) := hcell 0 172 rfl
  have c1 : w1.cell? (ad.add 1) = some (.int .u8 2) := hcell 1 2 rfl
  obtain ⟨g, o, sp⟩ := ad
  have hsp : sp = none := by simpa [Addr.add] using World.cell?_spot c0
  subst hsp
  have c0' : w1.cell? ⟨g, o, none⟩ = some (.int .u8 172) := by simpa [Addr.add] using c0
  have c1' : w1.cell? ⟨g, o + 1, none⟩ = some (.int .u8 2) := by simpa [Addr.add] using c1
  have H := Lib.hid hb
  clear hb hA hcell c0 c1
  go_wp2
  go_ret
  exact ⟨rfl, H.out⟩
theorem awake_end {w w1 : World} (h : Hid (Below w.heap.size w w1)) : Calls Try.prog 7 #[] w1 fun e w' => e = .returned (.bool true) ∧ Hid (Below w.heap.size w w') := by
  refine (awake_any w1).mono ?_
  rintro e w' ⟨rfl, hb⟩
  exact ⟨rfl, h.out.trans (hb.mono h.out.size)⟩
end Go.Proofs.Ytfjjdmiddigkiaa
