/- The walk of PastLine. -/
import Derived.Test.YtfhgnolfhiffbaaPMake
import Derived.Test.YtfhgnolfhiffbaaPAwake
import Derived.BigQuiet
namespace Go.Proofs.Ytfhgnolfhiffbaa
open Go.RowKit Go.Maps
theorem lineF_at {l : List HC} (h : Hist l) : ∀ (f k : Nat) (c : HC), k < f → l[k]? = some c → (lineF l f k)[0]? = some c.id ∧ ∀ (i : Nat) (s : ByteArray), (lineF l f k)[i]? = some s →
    ∃ y, l[posN (idsOf l) s]? = some y ∧ y.id = s ∧ (y.ps = [] → i + 1 = (lineF l f k).length) ∧ (∀ p r, y.ps = p :: r → (lineF l f k)[i + 1]? = some p) := by
  intro f
  induction f with
  | zero => intro k c hk; omega
  | succ f ih =>
    intro k c hk hc
    have hpos := h.once k c hc
    cases hps : c.ps with
    | nil =>
      rw [lineF_none hc hps]
      refine ⟨rfl, fun i s hs => ?_⟩
      have hi := (List.getElem?_eq_some_iff.1 hs).1
      simp at hi
      subst hi
      simp at hs
      subst hs
      exact ⟨c, by rw [hpos]; exact hc, rfl, fun _ => rfl, fun p r hp => (by rw [hps] at hp; cases hp)⟩
    | cons p r =>
      rw [lineF_some hc hps]
      have hpk := h.ahead k c hc p (by rw [hps]; simp)
      have hkl := (List.getElem?_eq_some_iff.1 hc).1
      obtain ⟨z, hz, hzp⟩ := posN_id (l := l) (x := p) (by omega)
      obtain ⟨h0, h1⟩ := ih (posN (idsOf l) p) z (by omega) hz
      refine ⟨rfl, fun i s hs => ?_⟩
      cases i with
      | zero =>
        simp at hs
        subst hs
        refine ⟨c, by rw [hpos]; exact hc, rfl, fun hp => (by rw [hps] at hp; cases hp), fun p2 r2 hp => ?_⟩
        rw [hps] at hp
        injection hp with hp _
        subst hp
        rw [List.getElem?_cons_succ, h0, hzp]
      | succ i =>
        rw [List.getElem?_cons_succ] at hs
        obtain ⟨y, a1, a2, a3, a4⟩ := h1 i s hs
        exact ⟨y, a1, a2, fun hp => by rw [List.length_cons, a3 hp], fun p2 r2 hp => by rw [List.getElem?_cons_succ]; exact a4 p2 r2 hp⟩
set_option maxRecDepth 100000 in
set_option maxHeartbeats 2000000 in
theorem pastLine_walk (w : World) (B : Option Addr) (b : List UInt8) (cb : Nat) (n0 : Int) (hB : At1 vByte w B b) (h1 : (Lit.int .u8 n0).wf = true) :
    Calls Try.prog 5 #[.slice B b.length cb, .int .u8 n0] w fun e w' => e = .returned (.bool true) ∧ Below w.heap.size w w' := by
  obtain ⟨m, rfl, hm256⟩ : ∃ q : Nat, n0 = (q : Int) ∧ q < 256 := by
    simp [Lit.wf, IntKind.min, IntKind.max, IntKind.signed, IntKind.bits] at h1; exact ⟨n0.toNat, by omega, by omega⟩
  clear h1
  go_enter Try.func5, Try.ntmps5
  go_wp2_with fail
  refine (make_any w B b cb hB).mono ?_
  rintro e w1 ⟨A, c, L, rfl, hm⟩
  have hb1 := hm.be
  have hs1 := hb1.size
  have hlen := hm.made.len
  have hat := hm.atC
  have hh := hm.made.hist
  clear hm hB
  by_cases hL : L.length < 1
  · have d0 : decide ((L.length : Int) = 0) = true := decide_eq_true (by omega)
    go_wp2_with fail
    refine (awake_any w1).mono ?_
    rintro e w2 ⟨rfl, hb2⟩
    go_wp2
    go_ret
    exact ⟨rfl, hb1.trans (hb2.mono hs1)⟩
  · have d0 : decide ((L.length : Int) = 0) = false := decide_eq_false (by omega)
    obtain ⟨i, hi⟩ : ∃ i, m % L.length = i := ⟨_, rfl⟩
    have hiI : (m : Int) % (L.length : Int) = (i : Int) := by rw [← hi]; push_cast; rfl
    have hil : i < L.length := by rw [← hi]; exact Nat.mod_lt _ (by omega)
    obtain ⟨x, hx⟩ : ∃ x, L[i]? = some x := ⟨_, List.getElem?_eq_getElem hil⟩
    have hxp := hh.hist.once i x hx
    obtain ⟨ab, ao, hAe, hcc⟩ := hat.2.2 (by omega)
    obtain ⟨c0, c1, c2, c3⟩ := hcc i x hx
    clear hcc
    subst hAe
    go_wp2_with fail
    have hX := heap_alloc_new w1 (.cells #[.string x.id, .slice x.A x.ps.length x.cap, .slice x.Z x.zn x.zc, .string x.note] 31)
    have hbA : Below w1.heap.size w1 (w1.alloc (.cells #[.string x.id, .slice x.A x.ps.length x.cap, .slice x.Z x.zn x.zc, .string x.note] 31)) := (Below.refl _ _).alloc (Nat.le_refl _) _
    obtain ⟨X, hXe⟩ : ∃ X, w1.heap.size = X := ⟨_, rfl⟩
    obtain ⟨wa, hwa⟩ : ∃ wa, wa = w1.alloc (.cells #[.string x.id, .slice x.A x.ps.length x.cap, .slice x.Z x.zn x.zc, .string x.note] 31) := ⟨_, rfl⟩
    rw [← hwa] at hX hbA ⊢
    rw [hXe] at hX hbA ⊢
    have hb2 := hb1.trans (hbA.mono (by omega))
    have hat2 := hat.below (by rw [hXe]; exact hbA)
    have hsX : X ≤ wa.heap.size := by have := hbA.size; omega
    clear hwa hat hbA
    refine (line_any _ _ L c hat2 hh.hist x.id i hxp hil (by omega)).mono ?_
    rintro e w2 ⟨G, gc, rfl, hG, hb3⟩
    obtain ⟨R0, RF⟩ := lineF_at hh.hist (i + 1) i x (by omega) hx
    have hRl := lineF_len L (i + 1) i
    obtain ⟨R, hR⟩ : ∃ R, lineF L (i + 1) i = R := ⟨_, rfl⟩
    rw [hR] at R0 RF hG hRl ⊢
    have hXw := (hb3.block X (by exact (Array.getElem?_eq_some_iff.1 hX).1)).trans hX
    have hat3 := hat2.below hb3
    have hb4 := hb2.trans (hb3.mono hb2.size)
    have HRF := Lib.hid RF
    have hx0 : w2.cell? ⟨X, 0, none⟩ = some (.string x.id) := by unfold World.cell?; rw [hXw]; rfl
    obtain ⟨n, hn⟩ : ∃ n, R.length = n := ⟨_, rfl⟩
    have hn0 : 0 < n := by rw [← hn]; exact (List.getElem?_eq_some_iff.1 R0).1
    obtain ⟨ga, hGe, hgc⟩ := hG.2 (by omega)
    have g0 := hgc 0 x.id R0
    rw [add_zero_] at g0
    subst hGe
    rw [hn] at hRl ⊢
    have HN := Lib.hid hn
    have d1 : ((n : Int) == 0) = false := beq_eq_false_iff_ne.2 (by omega)
    have hs0 : (x.id.toList == x.id.toList) = true := str_eq_true rfl
    clear RF hb2 hat2 hb3 hX hXw c0 c1 c2 c3 hR hn
    go_wp2_with fail
    go_quiet (fail)
    have hq := below_drewN (Below.refl w2.heap.size w2) nq
    have hatq := hat3.below hq
    have hGq := hG.below hq
    have hb5 := below_drewN hb4 nq
    clear hat3 hG hb4 hx0 g0 hgc R0 hq
    generalize w2.drewN nq = wq at hatq hGq hb5 ⊢
    go_wp2_with fail
    go_loopw [8] (fun u wr => ∃ k : Nat, k ≤ n ∧ u = .int .i64 k ∧ Below wq.heap.size wq wr) (fun u _ => n - (intOf u).toNat)
    case atStart => exact ⟨0, Nat.zero_le _, rfl, Below.refl _ _⟩
    case round =>
      obtain ⟨k, hk, rfl, hbr⟩ := hrel
      have hatr := hatq.below hbr
      have hGr := hGq.below hbr
      by_cases hlt : k < n
      · obtain ⟨s, hs⟩ : ∃ s, R[k]? = some s := ⟨_, List.getElem?_eq_getElem (by rw [HN.out]; exact hlt)⟩
        obtain ⟨y, a1, a2, a3, a4⟩ := HRF.out k s hs
        obtain ⟨pos, hpos⟩ : ∃ q, posN (idsOf L) s = q := ⟨_, rfl⟩
        rw [hpos] at a1
        have hpl := (List.getElem?_eq_some_iff.1 a1).1
        have hpi : posI (idsOf L) s = (pos : Int) := by unfold posI; rw [if_pos (by rw [idsOf_len, hpos]; exact hpl), hpos]
        obtain ⟨ga2, e2, hgc⟩ := hGr.2 (by rw [HN.out]; omega)
        cases e2
        have gk := hgc k s hs
        obtain ⟨ab2, ao2, e3, hcc⟩ := hatr.2.2 (by omega)
        cases e3
        obtain ⟨_, q1, _, _⟩ := hcc pos y a1
        have HP := Lib.hid hpi
        have HS := Lib.hid hs
        have d2 : decide ((pos : Int) < 0) = false := decide_eq_false (by omega)
        clear hpi hcc hs hpos
        go_wp2_with fail
        refine (at_any _ _ L c hatr s).mono ?_
        rintro e w5 ⟨rfl, rfl⟩
        rw [HP.out]
        obtain ⟨pn, hpn⟩ : ∃ pn, y.ps.length = pn := ⟨_, rfl⟩
        rw [hpn] at q1
        cases hps : y.ps with
        | nil =>
          rw [hps] at hpn
          simp at hpn
          subst hpn
          have hk1 : k + 1 = n := by rw [a3 hps, HN.out]
          have d3 : ((k : Int) == (n : Int) - 1) = true := beq_iff_eq.2 (by omega)
          have d4 : decide ((k : Int) < (n : Int) - 1) = false := decide_eq_false (by omega)
          clear a1 a2 a3 a4 gk hgc hps
          go_wp2_with fail
          go_quiet (fail)
          go_wp2
          go_roundw
          case rel => exact ⟨k + 1, by omega, by go_num, below_drewN hbr _⟩
          case measure => first | (simp [intOf]; done) | (simp [intOf]; omega)
        | cons p r =>
          have h0 := a4 p r hps
          have hk1 : k + 1 < n := by rw [← HN.out]; exact (List.getElem?_eq_some_iff.1 h0).1
          have gk1 := hgc (k + 1) p h0
          have hpn0 : 0 < pn := by rw [← hpn, hps]; simp
          have hps2 := hatr.2.1 y (List.mem_of_getElem? a1)
          obtain ⟨pa, hpa, hpc⟩ := hps2.2 (by omega)
          have p0 := hpc 0 p (by rw [hps]; rfl)
          rw [add_zero_] at p0
          rw [hpa] at q1
          have d5 : ((pn : Int) == 0) = false := beq_eq_false_iff_ne.2 (by omega)
          have e1 : IntKind.i64.wrap ((n : Int) - 1) = (n : Int) - 1 := Go.IntWalk.i64_in _ (by omega)
          obtain ⟨k1, hk1e⟩ : ∃ k1, k + 1 = k1 := ⟨_, rfl⟩
          have e2 : IntKind.i64.wrap ((k : Int) + 1) = (k1 : Int) := by rw [Go.IntWalk.i64_in _ (by omega)]; omega
          rw [hk1e] at gk1 hk1
          have d3 : ((k : Int) == IntKind.i64.wrap ((n : Int) - 1)) = false := by rw [e1]; exact beq_eq_false_iff_ne.2 (by omega)
          have d6 : ((k : Int) == (n : Int) - 1) = false := beq_eq_false_iff_ne.2 (by omega)
          have d7 : decide ((k : Int) < (n : Int) - 1) = true := decide_eq_true (by omega)
          have d4 : decide ((k : Int) < IntKind.i64.wrap ((n : Int) - 1)) = true := by rw [e1]; exact decide_eq_true (by omega)
          have hsp := str_eq_true (a := p) rfl
          clear a1 a2 a3 a4 hgc hps h0 hps2 hpc hpa hpn
          go_wp2_with fail
          go_quiet (fail)
          go_wp2
          go_roundw
          case rel => exact ⟨k + 1, by omega, by go_num, below_drewN hbr _⟩
          case measure => first | (simp [intOf]; done) | (simp [intOf]; omega)
      · have hbz := hb5.trans (hbr.mono hb5.size)
        go_wp2_with fail
        refine (awake_any _).mono ?_
        rintro e w6 ⟨rfl, hb6⟩
        go_wp2
        go_ret
        exact ⟨rfl, hbz.trans (hb6.mono hbz.size)⟩
end Go.Proofs.Ytfhgnolfhiffbaa
