/- slices.Index, slices.Contains on texts; past.Base; chequerref21.in; chequerlaw25.awake. -/
import Derived.Test.YtfhgnolfhiffbaaPLog
namespace Go.Proofs.Ytfhgnolfhiffbaa
open Go.RowKit Go.Maps
theorem hasB_pos {S : List ByteArray} {x : ByteArray} : hasB S x = decide (0 ≤ posI S x) := by
  rw [Bool.eq_iff_iff, hasB_iff, decide_eq_true_iff]
  constructor
  · intro h
    have : posN S x < S.length := List.findIdx_lt_length_of_exists ⟨x, h, by simp⟩
    unfold posI; rw [if_pos this]; omega
  · intro h
    unfold posI at h
    by_cases e : posN S x < S.length
    · have h1 := List.findIdx_getElem (w := e)
      simp only [decide_eq_true_eq] at h1
      rw [← h1]; exact List.getElem_mem _
    · rw [if_neg e] at h; omega
set_option maxRecDepth 100000 in
set_option maxHeartbeats 1000000 in
theorem index_any (w : World) (A : Option Addr) (S : List ByteArray) (c : Nat) (h : At1 vStr w A S) (x : ByteArray) :
    Calls Try.prog 33 #[.slice A S.length c, .string x] w fun e w' => e = .returned (.int .i64 (posI S x)) ∧ w' = w := by
  have hl := h.1
  have HP := Lib.hid (posN_le S x)
  go_enter Try.func33, Try.ntmps33
  go_wp2_with fail
  go_loopw [8] (fun u wr => ∃ k : Nat, k ≤ S.length ∧ u = .int .i64 k ∧ Hid (k ≤ posN S x) ∧ wr = w) (fun u _ => S.length - (intOf u).toNat)
  case atStart => exact ⟨0, Nat.zero_le _, rfl, Nat.zero_le _, rfl⟩
  case round =>
    obtain ⟨k, hk, rfl, hp, rfl⟩ := hrel
    by_cases hlt : k < S.length
    · obtain ⟨pa, hAe, hc⟩ := h.2 (by omega)
      obtain ⟨y, hy⟩ : ∃ y, S[k]? = some y := ⟨_, List.getElem?_eq_getElem hlt⟩
      have c0 := hc k y hy
      subst hAe
      clear hc
      by_cases he : y = x
      · have HR := Lib.hid (posI_here hp.out (he ▸ hy))
        have hs := str_eq_true he.symm
        clear hp hy
        go_wp2
        go_ret
        exact ⟨by rw [HR.out]; rfl, rfl⟩
      · have HN := Lib.hid (posN_next hp.out hy he)
        have hs := str_eq_false (Ne.symm he)
        clear hp hy he
        go_wp2
        go_roundw
        case rel => exact ⟨k + 1, by omega, by go_num, HN.out, by first | rfl | trivial⟩
        case measure => first | (simp [intOf]; done) | (simp [intOf]; omega)
    · have HR := Lib.hid (posI_end (l := S) (x := x) (by have := hp.out; omega))
      clear hp
      go_wp2
      go_ret
      exact ⟨by rw [HR.out]; rfl, rfl⟩
set_option maxRecDepth 100000 in
theorem contains_any (w : World) (A : Option Addr) (S : List ByteArray) (c : Nat) (h : At1 vStr w A S) (x : ByteArray) :
    Calls Try.prog 23 #[.slice A S.length c, .string x] w fun e w' => e = .returned (.bool (hasB S x)) ∧ w' = w := by
  rw [hasB_pos]
  obtain ⟨t, ht⟩ : ∃ t, posI S x = t := ⟨_, rfl⟩
  have HT := Lib.hid ht
  rw [ht]
  clear ht
  go_enter Try.func23, Try.ntmps23
  go_wp2_with fail
  refine (index_any _ A S c h x).mono ?_
  rintro e w1 ⟨rfl, rfl⟩
  rw [HT.out]
  go_wp2
  go_ret
  exact ⟨rfl, rfl⟩
set_option maxRecDepth 100000 in
set_option maxHeartbeats 1000000 in
theorem in_any (w : World) (A : Option Addr) (S : List ByteArray) (c : Nat) (h : At1 vStr w A S) (x : ByteArray) :
    Calls Try.prog 34 #[.slice A S.length c, .string x] w fun e w' => e = .returned (.bool (hasB S x)) ∧ w' = w := by
  have hl := h.1
  rw [hasB_pos]
  go_enter Try.func34, Try.ntmps34
  go_wp2_with fail
  go_loopw [5] (fun u wr => ∃ k : Nat, k ≤ S.length ∧ u = .int .i64 k ∧ Hid (k ≤ posN S x) ∧ wr = w) (fun u _ => S.length - (intOf u).toNat)
  case atStart => exact ⟨0, Nat.zero_le _, rfl, Nat.zero_le _, rfl⟩
  case round =>
    obtain ⟨k, hk, rfl, hp, rfl⟩ := hrel
    by_cases hlt : k < S.length
    · obtain ⟨pa, hAe, hc⟩ := h.2 (by omega)
      obtain ⟨y, hy⟩ : ∃ y, S[k]? = some y := ⟨_, List.getElem?_eq_getElem hlt⟩
      have c0 := hc k y hy
      subst hAe
      clear hc
      by_cases he : y = x
      · have HR := Lib.hid (show decide (0 ≤ posI S x) = true from by rw [posI_here hp.out (he ▸ hy)]; exact decide_eq_true (by omega))
        have hs := str_eq_true he
        clear hp hy
        go_wp2
        go_ret
        exact ⟨by rw [HR.out]; rfl, rfl⟩
      · have HN := Lib.hid (posN_next hp.out hy he)
        have hs := str_eq_false he
        clear hp hy he
        go_wp2
        go_roundw
        case rel => exact ⟨k + 1, by omega, by go_num, HN.out, by first | rfl | trivial⟩
        case measure => first | (simp [intOf]; done) | (simp [intOf]; omega)
    · have HR := Lib.hid (show decide (0 ≤ posI S x) = false from by rw [posI_end (l := S) (x := x) (by have := hp.out; omega)]; rfl)
      clear hp
      go_wp2
      go_ret
      exact ⟨by rw [HR.out]; rfl, rfl⟩
/-- the log of any text: none where it is no commit's -/
def GLog (l : List HC) (a : ByteArray) (g : List ByteArray) : Prop := (a ∈ idsOf l → LogIs l a g) ∧ (a ∉ idsOf l → g = [])
theorem GLog.len {l : List HC} {a : ByteArray} {g : List ByteArray} (h : GLog l a g) : g.length ≤ l.length := by
  by_cases e : a ∈ idsOf l
  · have h1 := h.1 e
    have := nodup_le h1.nodup h1.ids
    rwa [idsOf_len] at this
  · rw [h.2 e]; simp
def LogPost2 (w : World) (l : List HC) (x : ByteArray) (e : Ending) (w' : World) : Prop := ∃ B cap g, e = .returned (.slice B g.length cap) ∧ At1 vStr w' B g ∧ GLog l x g ∧ Below w.heap.size w w'
/-- what histories the walks are asked of -/
structure HistIn (l : List HC) : Prop where
  hist : Hist l
  small : ∀ y ∈ l, y.id.size ≤ maxLen ∧ ∀ p ∈ y.ps, p.size ≤ maxLen
  len : l.length ≤ 1000
theorem log_all (w : World) (A : Option Addr) (l : List HC) (c : Nat) (h : AtC w A l) (hh : HistIn l) (x : ByteArray) :
    Calls Try.prog 10 #[.slice A l.length c, .string x] w (LogPost2 w l x) := by
  by_cases hx : x ∈ idsOf l
  · refine (log_any w A l c h hh.hist hh.small hh.len x hx).mono ?_
    rintro e w' ⟨B, cap, g, rfl, h1, h2, h3⟩
    exact ⟨B, cap, g, rfl, h1, ⟨fun _ => h2, fun h9 => absurd hx h9⟩, h3⟩
  · have hp : posI (idsOf l) x = -1 := by
      unfold posI
      rw [if_neg (fun h9 => hx (mem_ids.2 (by rwa [idsOf_len] at h9)))]
    refine (log_none w A l c h x hp).mono ?_
    rintro e w' ⟨rfl, h3⟩
    exact ⟨none, 0, [], rfl, ⟨Nat.zero_le _, fun h9 => absurd h9 (Nat.lt_irrefl 0)⟩, ⟨fun h9 => absurd h9 hx, fun _ => rfl⟩, h3⟩
/-- the first of a list that is in another one -/
def firstIn (g o : List ByteArray) : ByteArray × Bool := match g with
  | [] => (⟨#[]⟩, false)
  | s :: r => if hasB o s = true then (s, true) else firstIn r o
def BasePost (w : World) (l : List HC) (a b : ByteArray) (e : Ending) (w' : World) : Prop :=
  ∃ g o, GLog l a g ∧ GLog l b o ∧ e = .returned (.tuple #[.string (firstIn g o).1, .bool (firstIn g o).2]) ∧ Below w.heap.size w w'
set_option maxRecDepth 100000 in
set_option maxHeartbeats 1000000 in
theorem base_any (w : World) (A : Option Addr) (l : List HC) (c : Nat) (h : AtC w A l) (hh : HistIn l) (a b : ByteArray) :
    Calls Try.prog 12 #[.slice A l.length c, .string a, .string b] w (BasePost w l a b) := by
  have hlen := hh.len
  go_enter Try.func12, Try.ntmps12
  go_wp2_with fail
  refine (log_all _ A l c h hh b).mono ?_
  rintro e w1 ⟨B, cap, o, rfl, ho, hgo, hb1⟩
  go_wp2_with fail
  refine (log_all _ A l c (h.below hb1) hh a).mono ?_
  rintro e w2 ⟨B2, cap2, g, rfl, hg, hgg, hb2⟩
  have ho2 := ho.below hb2
  have hb3 := hb1.trans (hb2.mono hb1.size)
  have hgl := hgg.len
  have hol := hgo.len
  obtain ⟨R, hR⟩ : ∃ R, firstIn g o = R := ⟨_, rfl⟩
  have HPost := Lib.hid (show ∀ e, e = .returned (.tuple #[.string R.1, .bool R.2]) → BasePost w l a b e w2 from fun e he => ⟨g, o, hgg, hgo, by rw [hR]; exact he, hb3⟩)
  clear ho hgg hgo hb1 hb2 hb3 h hh
  go_wp2_with fail
  go_loopw [18] (fun u wr => ∃ k : Nat, k ≤ g.length ∧ u = .int .i64 k ∧ Hid (firstIn (g.drop k) o = R) ∧ wr = w2) (fun u _ => g.length - (intOf u).toNat)
  case atStart => exact ⟨0, Nat.zero_le _, rfl, hR, rfl⟩
  case round =>
    obtain ⟨k, hk, rfl, hp, rfl⟩ := hrel
    by_cases hlt : k < g.length
    · obtain ⟨pa, hAe, hc⟩ := hg.2 (by omega)
      obtain ⟨y, hy⟩ : ∃ y, g[k]? = some y := ⟨_, List.getElem?_eq_getElem hlt⟩
      have c0 := hc k y hy
      have hd : g.drop k = y :: g.drop (k + 1) := by
        obtain ⟨h8, h9⟩ := List.getElem?_eq_some_iff.1 hy
        rw [List.drop_eq_getElem_cons h8, h9]
      rw [hd] at hp
      subst hAe
      clear hc hd hR
      go_wp2_with fail
      refine (contains_any _ B o cap ho2 y).mono ?_
      rintro e w3 ⟨rfl, rfl⟩
      cases hs : hasB o y with
      | true =>
        have HR := Lib.hid (show (y, true) = R by rw [← hp.out]; unfold firstIn; rw [if_pos hs])
        clear hp hs
        go_wp2
        refine bodyPost_ret (v := .tuple #[.string y, .bool true]) (by simp [results, Try.f12, go_sem]) rfl (HPost.out _ (by rw [← HR.out]))
      | false =>
        have HN := Lib.hid (show firstIn (g.drop (k + 1)) o = R by rw [← hp.out]; show _ = firstIn (y :: _) o; conv => rhs; unfold firstIn; rw [if_neg (by rw [hs]; decide)])
        clear hp hs
        go_wp2
        go_roundw
        case rel => exact ⟨k + 1, by omega, by go_num, HN.out, by first | rfl | trivial⟩
        case measure => first | (simp [intOf]; done) | (simp [intOf]; omega)
    · have HR := Lib.hid (show ((⟨#[]⟩ : ByteArray), false) = R by rw [← hp.out, List.drop_eq_nil_of_le (by omega)]; rfl)
      clear hp
      go_wp2
      refine bodyPost_ret (v := .tuple #[.string ⟨#[]⟩, .bool false]) (by simp [results, Try.f12, go_sem]) rfl (HPost.out _ (by rw [← HR.out]))
end Go.Proofs.Ytfhgnolfhiffbaa
