/- chequerref21.Base, chequerlaw25.same. -/
import Derived.Test.YtfhgnolfhiffbaaPRLog
import Derived.Test.YtfhgnolfhiffbaaPMayPast
namespace Go.Proofs.Ytfhgnolfhiffbaa
open Go.RowKit Go.Maps
theorem rlog_all (w : World) (A : Option Addr) (l : List HC) (c : Nat) (h : AtC w A l) (hh : HistIn l) (x : ByteArray) :
    Calls Try.prog 27 #[.slice A l.length c, .string x] w (LogPost2 w l x) := by
  by_cases hx : x ∈ idsOf l
  · refine (rlog_any w A l c h hh x hx).mono ?_
    rintro e w' ⟨B, cap, g, rfl, h1, h2, h3⟩
    exact ⟨B, cap, g, rfl, h1, ⟨fun _ => h2, fun h9 => absurd hx h9⟩, h3⟩
  · have hp : posI (idsOf l) x = -1 := by
      unfold posI
      rw [if_neg (fun h9 => hx (mem_ids.2 (by rwa [idsOf_len] at h9)))]
    refine (rlog_none w A l c h hh.len x hp).mono ?_
    rintro e w' ⟨rfl, h3⟩
    exact ⟨none, 0, [], rfl, ⟨Nat.zero_le _, fun h9 => absurd h9 (Nat.lt_irrefl 0)⟩, ⟨fun h9 => absurd h9 hx, fun _ => rfl⟩, h3⟩
theorem GLog.one {l : List HC} {a : ByteArray} {g o : List ByteArray} (hg : GLog l a g) (ho : GLog l a o) : g = o := by
  by_cases h : a ∈ idsOf l
  · exact log_one (hg.1 h) (ho.1 h)
  · rw [hg.2 h, ho.2 h]
set_option maxRecDepth 100000 in
set_option maxHeartbeats 1000000 in
theorem rbase_any (w : World) (A : Option Addr) (l : List HC) (c : Nat) (h : AtC w A l) (hh : HistIn l) (a b : ByteArray) :
    Calls Try.prog 24 #[.slice A l.length c, .string a, .string b] w (BasePost w l a b) := by
  have hlen := hh.len
  go_enter Try.func24, Try.ntmps24
  go_wp2_with fail
  refine (rlog_all _ A l c h hh a).mono ?_
  rintro e w1 ⟨B2, cap2, g, rfl, hg, hgg, hb1⟩
  go_wp2_with fail
  refine (rlog_all _ A l c (h.below hb1) hh b).mono ?_
  rintro e w2 ⟨B, cap, o, rfl, ho2, hgo, hb2⟩
  have hg2 := hg.below hb2
  have hb3 := hb1.trans (hb2.mono hb1.size)
  have hgl := hgg.len
  have hol := hgo.len
  obtain ⟨R, hR⟩ : ∃ R, firstIn g o = R := ⟨_, rfl⟩
  have HPost := Lib.hid (show ∀ e, e = .returned (.tuple #[.string R.1, .bool R.2]) → BasePost w l a b e w2 from fun e he => ⟨g, o, hgg, hgo, by rw [hR]; exact he, hb3⟩)
  clear hg hgg hgo hb1 hb2 hb3 h hh
  go_wp2_with fail
  go_loopw [10] (fun u wr => ∃ k : Nat, k ≤ g.length ∧ u = .int .i64 k ∧ Hid (firstIn (g.drop k) o = R) ∧ wr = w2) (fun u _ => g.length - (intOf u).toNat)
  case atStart => exact ⟨0, Nat.zero_le _, rfl, hR, rfl⟩
  case round =>
    obtain ⟨k, hk, rfl, hp, rfl⟩ := hrel
    by_cases hlt : k < g.length
    · obtain ⟨pa, hAe, hc⟩ := hg2.2 (by omega)
      obtain ⟨y, hy⟩ : ∃ y, g[k]? = some y := ⟨_, List.getElem?_eq_getElem hlt⟩
      have c0 := hc k y hy
      have hd : g.drop k = y :: g.drop (k + 1) := by
        obtain ⟨h8, h9⟩ := List.getElem?_eq_some_iff.1 hy
        rw [List.drop_eq_getElem_cons h8, h9]
      rw [hd] at hp
      subst hAe
      clear hc hd hR
      go_wp2_with fail
      refine (in_any _ B o cap ho2 y).mono ?_
      rintro e w3 ⟨rfl, rfl⟩
      cases hs : hasB o y with
      | true =>
        have HR := Lib.hid (show (y, true) = R by rw [← hp.out]; unfold firstIn; rw [if_pos hs])
        clear hp hs
        go_wp2
        refine bodyPost_ret (v := .tuple #[.string y, .bool true]) (by simp [results, Try.f24, go_sem]) rfl (HPost.out _ (by rw [← HR.out]))
      | false =>
        have HN := Lib.hid (show firstIn (g.drop (k + 1)) o = R by rw [← hp.out]; show _ = firstIn (y :: _) o; conv => rhs; unfold firstIn; rw [if_neg (by rw [hs]; decide)])
        clear hp hs
        go_wp2
        go_roundw
        case rel => exact ⟨k + 1, by omega, by go_num, HN.out, by first | rfl | trivial⟩
        case measure => first | (simp [intOf]; done) | (simp [intOf]; omega)
    · have HR := Lib.hid (show ((⟨#[]⟩ : ByteArray), false) = R by rw [← hp.out, List.drop_eq_nil_of_le (by omega)]; rfl)
      clear hp
      go_wp2
      refine bodyPost_ret (v := .tuple #[.string ⟨#[]⟩, .bool false]) (by simp [results, Try.f24, go_sem]) rfl (HPost.out _ (by rw [← HR.out]))
set_option maxRecDepth 100000 in
set_option maxHeartbeats 2000000 in
theorem same_any (w : World) (A : Option Addr) (l : List HC) (c : Nat) (h : AtC w A l) (hh : HistIn l) (a b : ByteArray) (ha : a.size ≤ maxLen) :
    Calls Try.prog 17 #[.slice A l.length c, .string a, .string b] w fun e w' => e = .returned (.bool true) ∧ Below w.heap.size w w' := by
  go_enter Try.func17, Try.ntmps17
  go_wp2_with fail
  refine (base_any _ A l c h hh a b).mono ?_
  rintro e w1 ⟨g1, o1, hg1, ho1, rfl, hb1⟩
  have h1 := h.below hb1
  go_wp2_with fail
  refine (rbase_any _ A l c h1 hh a b).mono ?_
  rintro e w2 ⟨g2, o2, hg2, ho2, rfl, hb2⟩
  have h2 := h1.below hb2
  have hb12 := hb1.trans (hb2.mono hb1.size)
  rw [hg1.one hg2, ho1.one ho2]
  obtain ⟨r, hr⟩ : ∃ r, firstIn g2 o2 = r := ⟨_, rfl⟩
  rw [hr]
  clear hr hg1 ho1 hg2 ho2 hb1 hb2 h h1
  obtain ⟨id, ok⟩ := r
  go_wp2_with fail
  refine (depth_any _ A l c h2 hh a ha).mono ?_
  rintro e w3 ⟨rfl, hb3⟩
  have h3 := h2.below hb3
  have hb13 := hb12.trans (hb3.mono hb12.size)
  obtain ⟨d, hd⟩ : ∃ d, depI l a = d := ⟨_, rfl⟩
  rw [hd]
  go_wp2_with fail
  refine (rdepth_any _ A l c h3 hh a).mono ?_
  rintro e w4 ⟨rfl, hb4⟩
  rw [hd]
  have h4 := h3.below hb4
  have hb14 := hb13.trans (hb4.mono hb13.size)
  have zd : (d == d) = true := beq_iff_eq.2 rfl
  have zi := str_eq_true (a := id) rfl
  clear hd h2 h3 hb12 hb13 hb3 hb4
  go_wp2_with fail
  refine (log_all _ A l c h4 hh a).mono ?_
  rintro e w5 ⟨G, gc, g, rfl, hG, hgg, hb5⟩
  have h5 := h4.below hb5
  have hb15 := hb14.trans (hb5.mono hb14.size)
  go_wp2_with fail
  refine (rlog_all _ A l c h5 hh a).mono ?_
  rintro e w6 ⟨H, hc, g2, rfl, hH, hgg2, hb6⟩
  have h6 := h5.below hb6
  have hG6 := hG.below hb6
  have hb16 := hb15.trans (hb6.mono hb15.size)
  have hge := hgg.one hgg2
  subst hge
  clear hgg hgg2 h4 h5 hb14 hb15 hb5 hb6 hG
  go_wp2_with fail
  refine (texts_eq _ G H g g.length g.length gc hc rfl rfl hG6 hH).mono ?_
  rintro e w7 ⟨rfl, hb7⟩
  have h7 := h6.below hb7
  have hb17 := hb16.trans (hb7.mono hb16.size)
  clear h6 hb16 hb7 hG6 hH
  cases ok with
  | true =>
    go_wp2_with fail
    refine (line_all _ A l c h7 hh a).mono ?_
    rintro e w8 ⟨G8, gc8, rfl, hG8, hb8⟩
    have h8 := h7.below hb8
    have hb18 := hb17.trans (hb8.mono hb17.size)
    go_wp2_with fail
    refine (rline_all _ A l c h8 hh a).mono ?_
    rintro e w9 ⟨G9, gc9, rfl, hG9, hb9⟩
    have hb19 := hb18.trans (hb9.mono hb18.size)
    go_wp2_with fail
    refine (texts_eq _ G8 G9 (lineG l a) _ _ gc8 gc9 rfl rfl (hG8.below hb9) hG9).mono ?_
    rintro e w10 ⟨rfl, hb10⟩
    go_wp2
    go_ret
    exact ⟨rfl, hb19.trans (hb10.mono hb19.size)⟩
  | false =>
    go_wp2_with fail
    refine (line_all _ A l c h7 hh a).mono ?_
    rintro e w8 ⟨G8, gc8, rfl, hG8, hb8⟩
    have h8 := h7.below hb8
    have hb18 := hb17.trans (hb8.mono hb17.size)
    go_wp2_with fail
    refine (rline_all _ A l c h8 hh a).mono ?_
    rintro e w9 ⟨G9, gc9, rfl, hG9, hb9⟩
    have hb19 := hb18.trans (hb9.mono hb18.size)
    go_wp2_with fail
    refine (texts_eq _ G8 G9 (lineG l a) _ _ gc8 gc9 rfl rfl (hG8.below hb9) hG9).mono ?_
    rintro e w10 ⟨rfl, hb10⟩
    go_wp2
    go_ret
    exact ⟨rfl, hb19.trans (hb10.mono hb19.size)⟩
end Go.Proofs.Ytfhgnolfhiffbaa
