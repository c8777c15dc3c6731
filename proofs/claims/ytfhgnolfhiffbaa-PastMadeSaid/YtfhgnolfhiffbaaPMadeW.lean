/- The walk of PastMade. -/
import Derived.Test.YtfhgnolfhiffbaaPSame
import Derived.Test.YtfhgnolfhiffbaaPAwake
namespace Go.Proofs.Ytfhgnolfhiffbaa
open Go.RowKit Go.Maps
theorem Made.may {L : List HC} (h : Made L) : MayP L := by
  have hh := h.hist.hist
  intro i c hc
  obtain ⟨h2, hn⟩ := h.two c (List.mem_of_getElem? hc)
  refine ⟨hh.once i c hc, h2, fun p q hpq e => ?_, hh.ahead i c hc⟩
  rw [hpq, e] at hn
  simp at hn
set_option maxRecDepth 100000 in
set_option maxHeartbeats 2000000 in
theorem pastMade_walk (w : World) (B : Option Addr) (b : List UInt8) (cb : Nat) (n0 n9 : Int) (hB : At1 vByte w B b) (h1 : (Lit.int .u8 n0).wf = true) (h2 : (Lit.int .u8 n9).wf = true) :
    Calls Try.prog 7 #[.slice B b.length cb, .int .u8 n0, .int .u8 n9] w fun e w' => e = .returned (.bool true) ∧ Below w.heap.size w w' := by
  have nat8 : ∀ z : Int, (Lit.int .u8 z).wf = true → ∃ q : Nat, z = (q : Int) ∧ q < 256 := fun z h => by
    simp [Lit.wf, IntKind.min, IntKind.max, IntKind.signed, IntKind.bits] at h; exact ⟨z.toNat, by omega, by omega⟩
  obtain ⟨m, rfl, hm256⟩ := nat8 n0 h1
  obtain ⟨m9, rfl, hm259⟩ := nat8 n9 h2
  clear h1 h2 nat8
  go_enter Try.func7, Try.ntmps7
  go_wp2_with fail
  refine (make_any w B b cb hB).mono ?_
  rintro e w1 ⟨A, c, L, rfl, hm⟩
  have hb1 := hm.be
  have hs1 := hb1.size
  have hlen := hm.made.len
  have hat := hm.atC
  have hh := hm.made.hist
  have hmay := hm.made.may
  have hcap : L.length ≤ c := by obtain ⟨A9, c9, e9, h9, _⟩ := own_form hm.ow; cases e9; exact h9
  clear hm hB
  by_cases hL : L.length < 1
  · have d0 : decide ((L.length : Int) = 0) = true := decide_eq_true (by omega)
    go_wp2_with fail
    refine (awake_any w1).mono ?_
    rintro e w2 ⟨rfl, hb2⟩
    go_wp2
    go_ret
    exact ⟨rfl, hb1.trans (hb2.mono hs1)⟩
  · have d0 : decide ((L.length : Int) = 0) = false := decide_eq_false (by omega)
    obtain ⟨i, hi⟩ : ∃ i, m % L.length = i := ⟨_, rfl⟩
    have hiI : (m : Int) % (L.length : Int) = (i : Int) := by rw [← hi]; push_cast; rfl
    have hil : i < L.length := by rw [← hi]; exact Nat.mod_lt _ (by omega)
    obtain ⟨j, hj⟩ : ∃ j, m9 % L.length = j := ⟨_, rfl⟩
    have hjI : (m9 : Int) % (L.length : Int) = (j : Int) := by rw [← hj]; push_cast; rfl
    have hjl : j < L.length := by rw [← hj]; exact Nat.mod_lt _ (by omega)
    obtain ⟨cx, hx⟩ : ∃ x, L[i]? = some x := ⟨_, List.getElem?_eq_getElem hil⟩
    obtain ⟨cy, hy⟩ : ∃ x, L[j]? = some x := ⟨_, List.getElem?_eq_getElem hjl⟩
    have HXS := Lib.hid (hh.small cx (List.mem_of_getElem? hx)).1
    obtain ⟨ab, ao, hAe, hcc⟩ := hat.2.2 (by omega)
    obtain ⟨c0, _, _, _⟩ := hcc i cx hx
    obtain ⟨e0, _, _, _⟩ := hcc j cy hy
    clear hcc hx hy hi hj
    subst hAe
    obtain ⟨x, hxe⟩ : ∃ x, cx.id = x := ⟨_, rfl⟩
    obtain ⟨y, hye⟩ : ∃ y, cy.id = y := ⟨_, rfl⟩
    rw [hxe] at c0 HXS
    rw [hye] at e0
    have hL0 : ((L.length : Int) == 0) = false := beq_eq_false_iff_ne.2 (by omega)
    clear hxe hye
    go_wp2_with fail
    go_quiet (fail)
    have hatq := hat.below (below_drewN (Below.refl w1.heap.size w1) nq)
    have hb2 := below_drewN hb1 nq
    clear c0 e0 hat hb1
    generalize w1.drewN nq = w2 at hatq hb2 ⊢
    go_wp2_with fail
    refine (may_any _ _ L c hatq hcap).mono ?_
    rintro e w3 ⟨bm, rfl, hbm, hb3⟩
    obtain rfl := hbm.2 hmay
    have hat3 := hatq.below hb3
    have hb4 := hb2.trans (hb3.mono hb2.size)
    clear hbm hb2 hb3 hatq
    go_wp2_with fail
    refine (same_any _ _ L c hat3 hh x y HXS.out).mono ?_
    rintro e w5 ⟨rfl, hb5⟩
    have hat5 := hat3.below hb5
    have hb6 := hb4.trans (hb5.mono hb4.size)
    go_wp2_with fail
    refine (same_any _ _ L c hat5 hh x _ HXS.out).mono ?_
    rintro e w7 ⟨rfl, hb7⟩
    have hb8 := hb6.trans (hb7.mono hb6.size)
    go_wp2_with fail
    refine (awake_any w7).mono ?_
    rintro e w9 ⟨rfl, hb9⟩
    go_wp2
    go_ret
    exact ⟨rfl, hb8.trans (hb9.mono hb8.size)⟩
end Go.Proofs.Ytfhgnolfhiffbaa
