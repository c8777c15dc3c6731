/- The walk of PastLog. -/
import Derived.Test.YtfhgnolfhiffbaaPMake
import Derived.Test.YtfhgnolfhiffbaaPAwake
import Derived.BigQuiet
namespace Go.Proofs.Ytfhgnolfhiffbaa
open Go.RowKit Go.Maps
theorem reach_le {l : List HC} (h : Hist l) {a : ByteArray} (ha : a ∈ idsOf l) {s : ByteArray} (hr : Reach l a s) : s ∈ idsOf l ∧ (s = a ∨ dep l s < dep l a) := by
  induction hr with
  | refl => exact ⟨ha, .inl rfl⟩
  | step _ hp ih =>
    obtain ⟨h1, h2⟩ := dep_lt h ih.1 hp
    refine ⟨h2, .inr ?_⟩
    rcases ih.2 with e | e
    · rw [← e]; exact h1
    · omega
theorem ndLe_anti {a b : Nd} (h : ndLe a b) (k : ndLe b a) : a = b := by
  unfold ndLe at h k
  have := ndCmp3.anti a b
  exact ndCmp_eq (by omega)
theorem log_first {l : List HC} (h : Hist l) {a : ByteArray} (ha : a ∈ idsOf l) {g : List ByteArray} (hg : LogIs l a g) : g[0]? = some a := by
  have hag := (hg.reach a).2 .refl
  cases g with
  | nil => cases hag
  | cons s r =>
    have hs := (hg.reach s).1 (by simp)
    rcases (reach_le h ha hs).2 with e | e
    · rw [e]; rfl
    · exfalso
      rcases List.mem_cons.1 hag with e2 | e2
      · rw [e2] at e; omega
      · have h1 := (List.pairwise_cons.1 hg.sorted).1 a e2
        have h2 := ndLe_anti h1 (ndLe_deeper e)
        injection h2 with h3 h4
        omega
theorem log_later {l : List HC} (h : Hist l) {a : ByteArray} {g : List ByteArray} (hg : LogIs l a g) {i : Nat} {s p : ByteArray} (hs : g[i]? = some s) (hp : p ∈ psOf l s) : ∃ q, i + 1 ≤ q ∧ q < g.length ∧ g[q]? = some p := by
  have hsg := List.mem_of_getElem? hs
  have hpg := (hg.reach p).2 (.step ((hg.reach s).1 hsg) hp)
  obtain ⟨q, hq⟩ := List.mem_iff_getElem?.1 hpg
  have hd := (dep_lt h (hg.ids s hsg) hp).1
  obtain ⟨hil, his⟩ := List.getElem?_eq_some_iff.1 hs
  obtain ⟨hql, hqp⟩ := List.getElem?_eq_some_iff.1 hq
  refine ⟨q, ?_, hql, hq⟩
  rcases Nat.lt_trichotomy q i with e | e | e
  · exfalso
    have h1 := List.pairwise_iff_getElem.1 hg.sorted q i hql hil e
    rw [his, hqp] at h1
    have h2 := ndLe_anti h1 (ndLe_deeper hd)
    injection h2 with h3 h4
    omega
  · exfalso
    subst e
    rw [hs] at hq
    injection hq with hq
    subst hq
    omega
  · exact e
theorem log_once {l : List HC} {a : ByteArray} {g : List ByteArray} (hg : LogIs l a g) {i j : Nat} {s t : ByteArray} (hij : j < i) (hs : g[i]? = some s) (ht : g[j]? = some t) : t ≠ s := by
  obtain ⟨hil, his⟩ := List.getElem?_eq_some_iff.1 hs
  obtain ⟨hjl, hjt⟩ := List.getElem?_eq_some_iff.1 ht
  have := List.pairwise_iff_getElem.1 hg.nodup j i hjl hil hij
  rw [his, hjt] at this
  exact this
set_option maxRecDepth 100000 in
set_option maxHeartbeats 2000000 in
theorem pastLog_walk (w : World) (B : Option Addr) (b : List UInt8) (cb : Nat) (n0 : Int) (hB : At1 vByte w B b) (h1 : (Lit.int .u8 n0).wf = true) :
    Calls Try.prog 3 #[.slice B b.length cb, .int .u8 n0] w fun e w' => e = .returned (.bool true) ∧ Below w.heap.size w w' := by
  obtain ⟨m, rfl, hm256⟩ : ∃ q : Nat, n0 = (q : Int) ∧ q < 256 := by
    simp [Lit.wf, IntKind.min, IntKind.max, IntKind.signed, IntKind.bits] at h1; exact ⟨n0.toNat, by omega, by omega⟩
  clear h1
  go_enter Try.func3, Try.ntmps3
  go_wp2_with fail
  refine (make_any w B b cb hB).mono ?_
  rintro e w1 ⟨A, c, L, rfl, hm⟩
  have hb1 := hm.be
  have hs1 := hb1.size
  have hlen := hm.made.len
  have hat := hm.atC
  have hh := hm.made.hist
  have HTWO := Lib.hid hm.made.two
  clear hm hB
  by_cases hL : L.length < 1
  · have d0 : decide ((L.length : Int) = 0) = true := decide_eq_true (by omega)
    go_wp2_with fail
    refine (awake_any w1).mono ?_
    rintro e w2 ⟨rfl, hb2⟩
    go_wp2
    go_ret
    exact ⟨rfl, hb1.trans (hb2.mono hs1)⟩
  · have d0 : decide ((L.length : Int) = 0) = false := decide_eq_false (by omega)
    obtain ⟨i, hi⟩ : ∃ i, m % L.length = i := ⟨_, rfl⟩
    have hiI : (m : Int) % (L.length : Int) = (i : Int) := by rw [← hi]; push_cast; rfl
    have hil : i < L.length := by rw [← hi]; exact Nat.mod_lt _ (by omega)
    obtain ⟨x, hx⟩ : ∃ x, L[i]? = some x := ⟨_, List.getElem?_eq_getElem hil⟩
    have hxp := hh.hist.once i x hx
    obtain ⟨ab, ao, hAe, hcc⟩ := hat.2.2 (by omega)
    obtain ⟨c0, c1, c2, c3⟩ := hcc i x hx
    clear hcc
    subst hAe
    go_wp2_with fail
    have hX := heap_alloc_new w1 (.cells #[.string x.id, .slice x.A x.ps.length x.cap, .slice x.Z x.zn x.zc, .string x.note] 31)
    have hbA : Below w1.heap.size w1 (w1.alloc (.cells #[.string x.id, .slice x.A x.ps.length x.cap, .slice x.Z x.zn x.zc, .string x.note] 31)) := (Below.refl _ _).alloc (Nat.le_refl _) _
    obtain ⟨X, hXe⟩ : ∃ X, w1.heap.size = X := ⟨_, rfl⟩
    obtain ⟨wa, hwa⟩ : ∃ wa, wa = w1.alloc (.cells #[.string x.id, .slice x.A x.ps.length x.cap, .slice x.Z x.zn x.zc, .string x.note] 31) := ⟨_, rfl⟩
    rw [← hwa] at hX hbA ⊢
    rw [hXe] at hX hbA ⊢
    have hb2 := hb1.trans (hbA.mono (by omega))
    have hat2 := hat.below (by rw [hXe]; exact hbA)
    have hsX : X ≤ wa.heap.size := by have := hbA.size; omega
    clear hwa hat hbA
    refine (log_all _ _ L c hat2 hh x.id).mono ?_
    rintro e w2 ⟨G, gc, R, rfl, hG, hgl, hb3⟩
    have hRl := hgl.len
    have hxi : x.id ∈ idsOf L := mem_ids.2 (by omega)
    have hlog := hgl.1 hxi
    have R0 := log_first hh.hist hxi hlog
    clear hgl
    have hXw := (hb3.block X (by exact (Array.getElem?_eq_some_iff.1 hX).1)).trans hX
    have hat3 := hat2.below hb3
    have hb4 := hb2.trans (hb3.mono hb2.size)
    have hx0 : w2.cell? ⟨X, 0, none⟩ = some (.string x.id) := by unfold World.cell?; rw [hXw]; rfl
    obtain ⟨n, hn⟩ : ∃ n, R.length = n := ⟨_, rfl⟩
    have hn0 : 0 < n := by rw [← hn]; exact (List.getElem?_eq_some_iff.1 R0).1
    obtain ⟨ga, hGe, hgc⟩ := hG.2 (by omega)
    have g0 := hgc 0 x.id R0
    rw [add_zero_] at g0
    subst hGe
    rw [hn] at hRl ⊢
    have HN := Lib.hid hn
    have d1 : ((n : Int) == 0) = false := beq_eq_false_iff_ne.2 (by omega)
    have hs0 : (x.id.toList == x.id.toList) = true := str_eq_true rfl
    clear hb2 hat2 hb3 hX hXw c0 c1 c2 c3 hn
    go_wp2_with fail
    go_quiet (fail)
    have hq := below_drewN (Below.refl w2.heap.size w2) nq
    have hatq := hat3.below hq
    have hGq := hG.below hq
    have hb5 := below_drewN hb4 nq
    clear hat3 hG hb4 hx0 g0 hgc R0 hq
    generalize w2.drewN nq = wq at hatq hGq hb5 ⊢
    go_wp2_with fail
    go_loopw [8] (fun u wr => ∃ k : Nat, k ≤ n ∧ u = .int .i64 k ∧ Below wq.heap.size wq wr) (fun u _ => n - (intOf u).toNat)
    case atStart => exact ⟨0, Nat.zero_le _, rfl, Below.refl _ _⟩
    case round =>
      obtain ⟨k, hk, rfl, hbr⟩ := hrel
      have hatr := hatq.below hbr
      have hGr := hGq.below hbr
      by_cases hlt : k < n
      · obtain ⟨s, hs⟩ : ∃ s, R[k]? = some s := ⟨_, List.getElem?_eq_getElem (by rw [HN.out]; exact hlt)⟩
        have hsi := hlog.ids s (List.mem_of_getElem? hs)
        obtain ⟨y, a1, a2⟩ := posN_id (mem_ids.1 hsi)
        obtain ⟨pos, hpos⟩ : ∃ q, posN (idsOf L) s = q := ⟨_, rfl⟩
        have hps : psOf L s = y.ps := by rw [← a2]; exact psOf_at (by rw [a2]; exact a1)
        rw [hpos] at a1
        have hpl := (List.getElem?_eq_some_iff.1 a1).1
        have hpi : posI (idsOf L) s = (pos : Int) := by unfold posI; rw [if_pos (by rw [idsOf_len, hpos]; exact hpl), hpos]
        obtain ⟨ga2, e2, hgc⟩ := hGr.2 (by rw [HN.out]; omega)
        cases e2
        have gk := hgc k s hs
        have HP := Lib.hid hpi
        have HS := Lib.hid hs
        have HA1 := Lib.hid a1
        have HPS := Lib.hid hps
        have HLT := Lib.hid (fun p (hp : p ∈ y.ps) => log_later hh.hist hlog hs (show p ∈ psOf L s by rw [hps]; exact hp))
        have HON := Lib.hid (fun j t (hj : j < k) (ht : R[j]? = some t) => log_once hlog hj hs ht)
        have d2 : decide ((pos : Int) < 0) = false := decide_eq_false (by omega)
        clear hpi hs hpos hps a1 a2 hsi hgc
        go_wp2_with fail
        refine (at_any _ _ L c hatr s).mono ?_
        rintro e w5 ⟨rfl, rfl⟩
        rw [HP.out]
        obtain ⟨pn, hpn⟩ : ∃ pn, y.ps.length = pn := ⟨_, rfl⟩
        have hpn2 : pn ≤ 2 := by rw [← hpn]; exact (HTWO.out y (List.mem_of_getElem? HA1.out)).1
        have HPN := Lib.hid hpn
        clear hpn hatr hGr gk
        go_wp2_with fail
        go_loopw [10] (fun u wr => ∃ j : Nat, j ≤ pn ∧ u = .int .i64 j ∧ Below wq.heap.size wq wr) (fun u _ => pn - (intOf u).toNat)
        case atStart => exact ⟨0, Nat.zero_le _, rfl, hbr⟩
        case round =>
          clear hbr
          obtain ⟨j, hj, rfl, hbr⟩ := hrel
          have hatr := hatq.below hbr
          obtain ⟨ab2, ao2, e3, hcc⟩ := hatr.2.2 (by omega)
          cases e3
          obtain ⟨_, q1, _, _⟩ := hcc pos y HA1.out
          rw [HPN.out] at q1
          clear hcc
          by_cases hjl : j < pn
          · obtain ⟨p, hp⟩ : ∃ p, y.ps[j]? = some p := ⟨_, List.getElem?_eq_getElem (by rw [HPN.out]; exact hjl)⟩
            have HP2 := Lib.hid hp
            have HQ := Lib.hid (HLT.out p (List.mem_of_getElem? hp))
            clear hp hatr
            go_wp2_with fail
            go_loopw [12, 11] (fun u v wr => ∃ (m : Nat) (bb : Bool), m ≤ n ∧ u = .int .i64 m ∧ v = .bool bb ∧ Hid (bb = true ∨ ∃ q, m ≤ q ∧ q < n ∧ R[q]? = some p) ∧ Below wq.heap.size wq wr) (fun u _ _ => n - (intOf u).toNat)
            case atStart =>
              obtain ⟨q, z1, z2, z3⟩ := HQ.out
              exact ⟨k + 1, false, by omega, by go_num, rfl, .inr ⟨q, z1, by rw [← HN.out]; exact z2, z3⟩, hbr⟩
            case round =>
              obtain ⟨m2, bb, hm2, rfl, rfl, hbb, hbr2⟩ := hrel
              clear hbr q1
              by_cases hml : m2 < n
              · obtain ⟨t, ht⟩ : ∃ t, R[m2]? = some t := ⟨_, List.getElem?_eq_getElem (by rw [HN.out]; exact hml)⟩
                have hatr := hatq.below hbr2
                have hGr := hGq.below hbr2
                obtain ⟨ga2, e2, hgc⟩ := hGr.2 (by rw [HN.out]; omega)
                cases e2
                have gm := hgc m2 t ht
                obtain ⟨ab2, ao2, e3, hcc⟩ := hatr.2.2 (by omega)
                cases e3
                obtain ⟨_, q1, _, _⟩ := hcc pos y HA1.out
                rw [HPN.out] at q1
                have hps2 := hatr.2.1 y (List.mem_of_getElem? HA1.out)
                obtain ⟨pa, hpa, hpc⟩ := hps2.2 (by rw [HPN.out]; omega)
                have pj := hpc j p HP2.out
                rw [hpa] at q1
                have HT := Lib.hid ht
                clear hcc hgc hatr hGr hps2 hpa hpc ht
                cases bb with
                | true =>
                  clear hbb
                  go_wp2_with fail
                  go_quiet (fail)
                  go_wp2
                  go_roundw
                  case rel => exact ⟨m2 + 1, true, by omega, by go_num, rfl, .inl rfl, below_drewN hbr2 _⟩
                  case measure => first | (simp [intOf]; done) | (simp [intOf]; omega)
                | false =>
                  by_cases htp : t = p
                  · have hst := str_eq_true htp
                    clear hbb htp
                    go_wp2_with fail
                    go_quiet (fail)
                    go_wp2
                    go_roundw
                    case rel => exact ⟨m2 + 1, true, by omega, by go_num, rfl, .inl rfl, below_drewN hbr2 _⟩
                    case measure => first | (simp [intOf]; done) | (simp [intOf]; omega)
                  · have hst := str_eq_false htp
                    have HB := Lib.hid (show ∃ q, m2 + 1 ≤ q ∧ q < n ∧ R[q]? = some p by
                      rcases hbb.out with h | ⟨q, z1, z2, z3⟩
                      · cases h
                      · refine ⟨q, ?_, z2, z3⟩
                        rcases Nat.lt_or_ge m2 q with h | h
                        · exact h
                        · exfalso
                          obtain rfl : q = m2 := by omega
                          rw [HT.out] at z3
                          injection z3 with z3
                          exact htp z3)
                    clear hbb htp
                    go_wp2_with fail
                    go_quiet (fail)
                    go_wp2
                    go_roundw
                    case rel => exact ⟨m2 + 1, false, by omega, by go_num, rfl, .inr HB.out, below_drewN hbr2 _⟩
                    case measure => first | (simp [intOf]; done) | (simp [intOf]; omega)
              · obtain rfl : bb = true := by
                  rcases hbb.out with h | ⟨q, z1, z2, z3⟩
                  · exact h
                  · omega
                clear hbb
                go_wp2
                go_roundw
                case rel => exact ⟨j + 1, by omega, by go_num, hbr2⟩
                case measure => first | (simp [intOf]; done) | (simp [intOf]; omega)
          · go_wp2_with fail
            go_loopw [13] (fun u wr => ∃ v : Nat, v ≤ k ∧ u = .int .i64 v ∧ Below wq.heap.size wq wr) (fun u _ => k - (intOf u).toNat)
            case atStart => exact ⟨0, Nat.zero_le _, rfl, hbr⟩
            case round =>
              obtain ⟨v, hv, rfl, hbr3⟩ := hrel
              clear hbr q1 hatr
              by_cases hvk : v < k
              · obtain ⟨t, ht⟩ : ∃ t, R[v]? = some t := ⟨_, List.getElem?_eq_getElem (by rw [HN.out]; omega)⟩
                have hst := str_eq_false (HON.out v t hvk ht)
                have hGr := hGq.below hbr3
                obtain ⟨ga2, e2, hgc⟩ := hGr.2 (by rw [HN.out]; omega)
                cases e2
                have gm := hgc v t ht
                have gk := hgc k s HS.out
                clear hgc hGr ht
                go_wp2_with fail
                go_quiet (fail)
                go_wp2
                go_roundw
                case rel => exact ⟨v + 1, by omega, by go_num, below_drewN hbr3 _⟩
                case measure => first | (simp [intOf]; done) | (simp [intOf]; omega)
              · go_wp2
                go_roundw
                case rel => exact ⟨k + 1, by omega, by go_num, hbr3⟩
                case measure => first | (simp [intOf]; done) | (simp [intOf]; omega)
      · have hbz := hb5.trans (hbr.mono hb5.size)
        go_wp2_with fail
        refine (awake_any _).mono ?_
        rintro e w6 ⟨rfl, hb6⟩
        go_wp2
        go_ret
        exact ⟨rfl, hbz.trans (hb6.mono hbz.size)⟩
end Go.Proofs.Ytfhgnolfhiffbaa
