/- The walk of PastBase. -/
import Derived.Test.YtfhgnolfhiffbaaPLogW
import Derived.Test.YtfhgnolfhiffbaaPDeep
namespace Go.Proofs.Ytfhgnolfhiffbaa
open Go.RowKit Go.Maps
/-- what two have in common: the first of all that is before both -/
def BaseIs (l : List HC) (x y : ByteArray) (r : ByteArray × Bool) : Prop :=
  (r.2 = true ∧ Reach l x r.1 ∧ Reach l y r.1 ∧ ∀ s, Reach l x s → Reach l y s → ndLe (r.1, dep l r.1) (s, dep l s)) ∨ (r.2 = false ∧ r.1 = ⟨#[]⟩ ∧ ∀ s, Reach l x s → ¬ Reach l y s)
theorem BaseIs.symm {l : List HC} {x y : ByteArray} {r : ByteArray × Bool} (h : BaseIs l x y r) : BaseIs l y x r := by
  rcases h with ⟨h1, h2, h3, h4⟩ | ⟨h1, h2, h3⟩
  · exact .inl ⟨h1, h3, h2, fun s a b => h4 s b a⟩
  · exact .inr ⟨h1, h2, fun s a b => h3 s b a⟩
theorem BaseIs.one {l : List HC} {x y : ByteArray} {r r' : ByteArray × Bool} (h : BaseIs l x y r) (h' : BaseIs l x y r') : r = r' := by
  obtain ⟨s, b⟩ := r
  obtain ⟨s', b'⟩ := r'
  rcases h with ⟨h1, h2, h3, h4⟩ | ⟨h1, h2, h3⟩ <;> rcases h' with ⟨k1, k2, k3, k4⟩ | ⟨k1, k2, k3⟩
  · have e := ndLe_anti (h4 s' k2 k3) (k4 s h2 h3)
    injection e with e _
    simp only at h1 k1 e
    rw [h1, k1, e]
  · exact absurd h3 (k3 s h2)
  · exact absurd k3 (h3 s' k2)
  · simp only at h1 h2 k1 k2
    rw [h1, h2, k1, k2]
theorem firstIn_is {l : List HC} {P : ByteArray → Prop} (g : List ByteArray) : ∀ (o : List ByteArray), (g.Pairwise (fun s t => ndLe (s, dep l s) (t, dep l t))) → (∀ s, s ∈ o ↔ P s) →
    ((firstIn g o).2 = true ∧ (firstIn g o).1 ∈ g ∧ P (firstIn g o).1 ∧ ∀ s ∈ g, P s → ndLe ((firstIn g o).1, dep l (firstIn g o).1) (s, dep l s)) ∨ ((firstIn g o).2 = false ∧ (firstIn g o).1 = ⟨#[]⟩ ∧ ∀ s ∈ g, ¬ P s) := by
  induction g with
  | nil => intro o _ _; exact .inr ⟨rfl, rfl, by simp⟩
  | cons x r ih =>
    intro o hs hP
    obtain ⟨h1, h2⟩ := List.pairwise_cons.1 hs
    unfold firstIn
    by_cases e : hasB o x = true
    · rw [if_pos e]
      refine .inl ⟨rfl, by simp, (hP x).1 (hasB_iff.1 e), fun s hs2 _ => ?_⟩
      rcases List.mem_cons.1 hs2 with rfl | h
      · exact ndLe.refl _
      · exact h1 s h
    · rw [if_neg e]
      have hx : ¬ P x := fun h => e (hasB_iff.2 ((hP x).2 h))
      rcases ih o h2 hP with ⟨k1, k2, k3, k4⟩ | ⟨k1, k2, k3⟩
      · refine .inl ⟨k1, by simp [k2], k3, fun s hs2 hPs => ?_⟩
        rcases List.mem_cons.1 hs2 with rfl | h
        · exact absurd hPs hx
        · exact k4 s h hPs
      · refine .inr ⟨k1, k2, fun s hs2 => ?_⟩
        rcases List.mem_cons.1 hs2 with rfl | h
        · exact hx
        · exact k3 s h
theorem base_is {l : List HC} {x y : ByteArray} {g o : List ByteArray} (hg : LogIs l x g) (ho : LogIs l y o) : BaseIs l x y (firstIn g o) := by
  rcases firstIn_is (P := Reach l y) g o hg.sorted ho.reach with ⟨k1, k2, k3, k4⟩ | ⟨k1, k2, k3⟩
  · exact .inl ⟨k1, (hg.reach _).1 k2, k3, fun s a b => k4 s ((hg.reach s).2 a) b⟩
  · exact .inr ⟨k1, k2, fun s a => k3 s ((hg.reach s).2 a)⟩
/-- of one that is before the other it is that one -/
theorem BaseIs.self {l : List HC} (hh : Hist l) {x y : ByteArray} (hx : x ∈ idsOf l) {r : ByteArray × Bool} (h : BaseIs l x y r) (hyx : Reach l y x) : r.1 = x := by
  rcases h with ⟨h1, h2, h3, h4⟩ | ⟨h1, h2, h3⟩
  · rcases (reach_le hh hx h2).2 with e | e
    · exact e
    · have := ndLe_anti (h4 x .refl hyx) (ndLe_deeper e)
      injection this
  · exact absurd hyx (h3 x .refl)
theorem ndLe_dep {s t : ByteArray} {d e : Int} (h : ndLe (s, d) (t, e)) : e ≤ d := by
  rcases Int.lt_or_le d e with k | k
  · have := ndLe_anti h (ndLe_deeper k)
    injection this with _ h2
    omega
  · exact k
/-- what the two loops know at (i, k) -/
structure BI (l : List HC) (p q : List ByteArray) (r : ByteArray × Bool) (i k : Nat) (nb : Nat) (dp : Int) : Prop where
  no : r.2 = false → nb = 0
  top : r.2 = true → dp ≤ dep l r.1
  yes : r.2 = true → ∀ i0 k0, p[i0]? = some r.1 → q[k0]? = some r.1 → (i0 < i ∨ i0 = i ∧ k0 < k) → 0 < nb ∧ dp = dep l r.1
  few : nb ≤ i * q.length + k
  low : -1 ≤ dp
section
variable {l : List HC} {x y : ByteArray} {p q : List ByteArray} {r : ByteArray × Bool}
theorem BI.start (hh : Hist l) (hx : x ∈ idsOf l) (h : BaseIs l x y r) : BI l p q r 0 0 0 (-1) := by
  refine ⟨fun _ => rfl, fun e => ?_, fun _ i0 k0 _ _ h9 => by omega, Nat.zero_le _, by omega⟩
  rcases h with ⟨h1, h2, h3, h4⟩ | ⟨h1, h2, h3⟩
  · have := (dep_depI ((reach_le hh hx h2).1) hh).2.1; omega
  · rw [h1] at e; cases e
theorem BI.next {i nb : Nat} {dp : Int} (h : BI l p q r i q.length nb dp) : BI l p q r (i + 1) 0 nb dp := by
  refine ⟨h.no, h.top, fun e i0 k0 h1 h2 h3 => h.yes e i0 k0 h1 h2 ?_, by have := h.few; rw [Nat.add_mul]; omega, h.low⟩
  have := (List.getElem?_eq_some_iff.1 h2).1
  omega
theorem BI.not {i k nb : Nat} {dp : Int} (h : BI l p q r i k nb dp) {s t : ByteArray} (hs : p[i]? = some s) (ht : q[k]? = some t) (hst : s ≠ t) : BI l p q r i (k + 1) nb dp := by
  refine ⟨h.no, h.top, fun e i0 k0 h1 h2 h3 => h.yes e i0 k0 h1 h2 ?_, by have := h.few; omega, h.low⟩
  rcases Nat.lt_trichotomy k0 k with h4 | h4 | h4
  · omega
  · rcases Nat.lt_trichotomy i0 i with h5 | h5 | h5
    · omega
    · exfalso
      subst h4; subst h5
      rw [hs] at h1; rw [ht] at h2
      injection h1 with h1; injection h2 with h2
      exact hst (h1.trans h2.symm)
    · omega
  · omega
theorem BI.same (hp : LogIs l x p) (hq : LogIs l y q) (hr : BaseIs l x y r) {i k nb : Nat} {dp : Int} (h : BI l p q r i k nb dp) {s : ByteArray} (hs : p[i]? = some s) (ht : q[k]? = some s) : BI l p q r i (k + 1) (nb + 1) (max dp (dep l s)) ∧ max dp (dep l s) ≤ dep l r.1 := by
  have h1 := (hp.reach s).1 (List.mem_of_getElem? hs)
  have h2 := (hq.reach s).1 (List.mem_of_getElem? ht)
  rcases hr with ⟨a1, a2, a3, a4⟩ | ⟨a1, a2, a3⟩
  · have h3 := ndLe_dep (a4 s h1 h2)
    have h4 := h.top a1
    refine ⟨⟨fun e => (by rw [a1] at e; cases e), fun _ => by omega, fun e i0 k0 b1 b2 b3 => ⟨by omega, ?_⟩, by have := h.few; omega, by have := h.low; omega⟩, by omega⟩
    by_cases e2 : i0 < i ∨ i0 = i ∧ k0 < k
    · have := (h.yes a1 i0 k0 b1 b2 e2).2; omega
    · have e3 : i0 = i ∧ k0 = k := by omega
      rw [e3.1, hs] at b1
      injection b1 with b1
      rw [← b1] at h4 ⊢
      omega
  · exact absurd h2 (a3 s h1)
theorem BI.done (hp : LogIs l x p) (hq : LogIs l y q) (hr : BaseIs l x y r) {nb : Nat} {dp : Int} (h : BI l p q r p.length 0 nb dp) : (r.2 = true → 0 < nb ∧ dp = dep l r.1) ∧ (r.2 = false → nb = 0) := by
  refine ⟨fun e => ?_, h.no⟩
  rcases hr with ⟨a1, a2, a3, a4⟩ | ⟨a1, a2, a3⟩
  · obtain ⟨i0, hi0⟩ := List.mem_iff_getElem?.1 ((hp.reach _).2 a2)
    obtain ⟨k0, hk0⟩ := List.mem_iff_getElem?.1 ((hq.reach _).2 a3)
    exact h.yes e i0 k0 hi0 hk0 (.inl (List.getElem?_eq_some_iff.1 hi0).1)
  · rw [a1] at e; cases e
end
set_option maxRecDepth 100000 in
set_option maxHeartbeats 4000000 in
theorem pastBase_walk (w : World) (B : Option Addr) (b : List UInt8) (cb : Nat) (n0 n9 : Int) (hB : At1 vByte w B b) (h1 : (Lit.int .u8 n0).wf = true) (h2 : (Lit.int .u8 n9).wf = true) :
    Calls Try.prog 4 #[.slice B b.length cb, .int .u8 n0, .int .u8 n9] w fun e w' => e = .returned (.bool true) ∧ Below w.heap.size w w' := by
  have nat8 : ∀ z : Int, (Lit.int .u8 z).wf = true → ∃ q : Nat, z = (q : Int) ∧ q < 256 := fun z h => by
    simp [Lit.wf, IntKind.min, IntKind.max, IntKind.signed, IntKind.bits] at h; exact ⟨z.toNat, by omega, by omega⟩
  obtain ⟨m, rfl, hm256⟩ := nat8 n0 h1
  obtain ⟨m9, rfl, hm259⟩ := nat8 n9 h2
  clear h1 h2 nat8
  go_enter Try.func4, Try.ntmps4
  go_wp2_with fail
  refine (make_any w B b cb hB).mono ?_
  rintro e w1 ⟨A, c, L, rfl, hm⟩
  have hb1 := hm.be
  have hs1 := hb1.size
  have hlen := hm.made.len
  have hat := hm.atC
  have hh := hm.made.hist
  clear hm hB
  by_cases hL : L.length < 1
  · have d0 : decide ((L.length : Int) = 0) = true := decide_eq_true (by omega)
    go_wp2_with fail
    refine (awake_any w1).mono ?_
    rintro e w2 ⟨rfl, hb2⟩
    go_wp2
    go_ret
    exact ⟨rfl, hb1.trans (hb2.mono hs1)⟩
  · have d0 : decide ((L.length : Int) = 0) = false := decide_eq_false (by omega)
    obtain ⟨i, hi⟩ : ∃ i, m % L.length = i := ⟨_, rfl⟩
    have hiI : (m : Int) % (L.length : Int) = (i : Int) := by rw [← hi]; push_cast; rfl
    have hil : i < L.length := by rw [← hi]; exact Nat.mod_lt _ (by omega)
    obtain ⟨j, hj⟩ : ∃ j, m9 % L.length = j := ⟨_, rfl⟩
    have hjI : (m9 : Int) % (L.length : Int) = (j : Int) := by rw [← hj]; push_cast; rfl
    have hjl : j < L.length := by rw [← hj]; exact Nat.mod_lt _ (by omega)
    obtain ⟨cx, hx⟩ : ∃ x, L[i]? = some x := ⟨_, List.getElem?_eq_getElem hil⟩
    obtain ⟨cy, hy⟩ : ∃ x, L[j]? = some x := ⟨_, List.getElem?_eq_getElem hjl⟩
    have hxp := hh.hist.once i cx hx
    have hyp := hh.hist.once j cy hy
    have hxi : cx.id ∈ idsOf L := mem_ids.2 (by omega)
    have hyi : cy.id ∈ idsOf L := mem_ids.2 (by omega)
    obtain ⟨ab, ao, hAe, hcc⟩ := hat.2.2 (by omega)
    obtain ⟨c0, _, _, _⟩ := hcc i cx hx
    obtain ⟨e0, _, _, _⟩ := hcc j cy hy
    clear hcc hxp hyp hx hy hi hj
    subst hAe
    obtain ⟨x, hxe⟩ : ∃ x, cx.id = x := ⟨_, rfl⟩
    obtain ⟨y, hye⟩ : ∃ y, cy.id = y := ⟨_, rfl⟩
    rw [hxe] at c0 hxi
    rw [hye] at e0 hyi
    have hL0 : ((L.length : Int) == 0) = false := beq_eq_false_iff_ne.2 (by omega)
    clear hxe hye
    go_wp2_with fail
    go_quiet (fail)
    have hatq := hat.below (below_drewN (Below.refl w1.heap.size w1) nq)
    have hb2 := below_drewN hb1 nq
    clear c0 e0 hat hb1
    generalize w1.drewN nq = w2 at hatq hb2 ⊢
    go_wp2_with fail
    refine (base_any _ _ L c hatq hh x y).mono ?_
    rintro e w3 ⟨g1, o1, hg1, ho1, rfl, hb3⟩
    have hr1 := base_is (hg1.1 hxi) (ho1.1 hyi)
    obtain ⟨r, hr⟩ : ∃ r, firstIn g1 o1 = r := ⟨_, rfl⟩
    rw [hr] at hr1 ⊢
    have hat3 := hatq.below hb3
    have hb4 := hb2.trans (hb3.mono hb2.size)
    clear hr hg1 ho1 hatq hb3 hb2
    go_wp2_with fail
    refine (base_any _ _ L c hat3 hh y x).mono ?_
    rintro e w5 ⟨g2, o2, hg2, ho2, rfl, hb5⟩
    have hr2 := (base_is (hg2.1 hyi) (ho2.1 hxi)).symm.one hr1
    rw [hr2]
    have hat5 := hat3.below hb5
    have hb6 := hb4.trans (hb5.mono hb4.size)
    clear hr2 hg2 ho2 hat3 hb5 hb4
    go_wp2_with fail
    refine (log_all _ _ L c hat5 hh x).mono ?_
    rintro e w7 ⟨G, gc, p, rfl, hG, hgl, hb7⟩
    have hp := hgl.1 hxi
    have hpl := hgl.len
    have hat7 := hat5.below hb7
    have hb8 := hb6.trans (hb7.mono hb6.size)
    clear hgl hat5 hb6 hb7
    go_wp2_with fail
    refine (log_all _ _ L c hat7 hh y).mono ?_
    rintro e w8 ⟨H, hc, q, rfl, hH, hgl, hb9⟩
    have hq := hgl.1 hyi
    have hql := hgl.len
    have hat8 := hat7.below hb9
    have hG8 := hG.below hb9
    have hb10 := hb8.trans (hb9.mono hb8.size)
    clear hgl hat7 hb8 hb9 hG
    obtain ⟨id, ok⟩ := r
    have HIX := Lib.hid (fun h : Reach L y x => BaseIs.self hh.hist hxi hr1 h)
    have HIY := Lib.hid (fun h : Reach L x y => BaseIs.self hh.hist hyi hr1.symm h)
    obtain ⟨pn, hpn⟩ : ∃ n, p.length = n := ⟨_, rfl⟩
    obtain ⟨qn, hqn⟩ : ∃ n, q.length = n := ⟨_, rfl⟩
    rw [hpn] at hpl
    rw [hqn] at hql
    rw [hpn, hqn]
    have HPN := Lib.hid hpn
    have HQN := Lib.hid hqn
    clear hpn hqn
    go_wp2_with fail
    go_loopw [16, 17, 18] (fun nbv dpv u wr => ∃ (i nb : Nat) (dp : Int), i ≤ pn ∧ u = .int .i64 i ∧ nbv = .int .i64 nb ∧ dpv = .int .i64 dp ∧ Hid (BI L p q (id, ok) i 0 nb dp) ∧ Below w8.heap.size w8 wr) (fun _ _ u _ => pn - (intOf u).toNat)
    case atStart => exact ⟨0, 0, -1, Nat.zero_le _, rfl, rfl, rfl, BI.start hh.hist hxi hr1, Below.refl _ _⟩
    case round =>
      obtain ⟨i2, nb, dp, hi2, rfl, rfl, rfl, hbi, hbr⟩ := hrel
      by_cases hil2 : i2 < pn
      · obtain ⟨s, hs⟩ : ∃ s, p[i2]? = some s := ⟨_, List.getElem?_eq_getElem (by rw [HPN.out]; exact hil2)⟩
        have HS := Lib.hid hs
        have hsm := List.mem_of_getElem? hs
        have HSI := Lib.hid (hp.ids s hsm)
        have HPR := Lib.hid ((hp.reach s).1 hsm)
        have HSZ := Lib.hid (show s.size ≤ maxLen by
          obtain ⟨z, hz, hzs⟩ := List.mem_map.1 (hp.ids s hsm)
          rw [← hzs]; exact (hh.small z hz).1)
        clear hs hsm
        go_wp2_with fail
        go_loopw [16, 17, 19] (fun nbv dpv u wr => ∃ (k nb : Nat) (dp : Int), k ≤ qn ∧ u = .int .i64 k ∧ nbv = .int .i64 nb ∧ dpv = .int .i64 dp ∧ Hid (BI L p q (id, ok) i2 k nb dp) ∧ Below w8.heap.size w8 wr) (fun _ _ u _ => qn - (intOf u).toNat)
        case atStart => exact ⟨0, nb, dp, Nat.zero_le _, rfl, rfl, rfl, hbi, hbr⟩
        case round =>
          clear hbi hbr
          obtain ⟨k2, nb, dp, hk2, rfl, rfl, rfl, hbi, hbr⟩ := hrel
          have hlow := hbi.out.low
          have hnb : nb ≤ 420 := by
            have h7 := hbi.out.few
            rw [HQN.out] at h7
            have h8 := Nat.mul_le_mul (show i2 ≤ 20 by omega) (show qn ≤ 20 by omega)
            omega
          by_cases hkl2 : k2 < qn
          · obtain ⟨t, ht⟩ : ∃ t, q[k2]? = some t := ⟨_, List.getElem?_eq_getElem (by rw [HQN.out]; exact hkl2)⟩
            have HT := Lib.hid ht
            have HQR := Lib.hid ((hq.reach t).1 (List.mem_of_getElem? ht))
            have hatr := hat8.below hbr
            have hGr := hG8.below hbr
            have hHr := hH.below hbr
            obtain ⟨pa, hpa, hpc⟩ := hGr.2 (by rw [HPN.out]; omega)
            obtain ⟨qa, hqa, hqc⟩ := hHr.2 (by rw [HQN.out]; omega)
            have gi := hpc i2 s HS.out
            have gk := hqc k2 t HT.out
            subst hpa
            subst hqa
            clear hpc hqc ht
            by_cases hst : s = t
            · have z0 := str_eq_true hst
              by_cases htx : t = x
              · by_cases hsy : s = y
                · as_aux_lemma =>
                  have z1 := str_eq_true (a := t) (b := x) htx
                  have z2 := str_eq_true (a := s) (b := y) hsy
                  have z3 : (id.toList == x.toList) = true := str_eq_true (HIX.out (by rw [← htx]; exact HQR.out))
                  have z4 : (id.toList == y.toList) = true := str_eq_true (HIY.out (by rw [← hsy]; exact HPR.out))
                  have HB := Lib.hid (BI.same hp hq hr1 hbi.out HS.out (by rw [hst]; exact HT.out))
                  clear hbi htx hsy hst
                  go_wp2_with fail
                  go_quiet (fail)
                  have hatq := hatr.below (below_drewN (Below.refl wr.heap.size wr) nq)
                  have hGq := hGr.below (below_drewN (Below.refl wr.heap.size wr) nq)
                  have hHq := hHr.below (below_drewN (Below.refl wr.heap.size wr) nq)
                  have hbq := below_drewN hbr nq
                  clear hatr hGr hHr hbr gi gk
                  generalize wr.drewN nq = wq at hatq hGq hHq hbq ⊢
                  have gi : wq.cell? (pa.add i2) = some (.string s) := by obtain ⟨pa2, e2, h2⟩ := hGq.2 (by rw [HPN.out]; omega); cases e2; exact h2 i2 s HS.out
                  have gk : wq.cell? (qa.add k2) = some (.string t) := by obtain ⟨pa2, e2, h2⟩ := hHq.2 (by rw [HQN.out]; omega); cases e2; exact h2 k2 t HT.out
                  have hds := dep_depI HSI.out hh.hist
                  obtain ⟨d, hd⟩ : ∃ d, dep L s = d := ⟨_, rfl⟩
                  rw [hd] at hds HB
                  go_wp2_with fail
                  refine (depth_any _ _ L c hatq hh s HSZ.out).mono ?_
                  rintro e wz ⟨rfl, hbz⟩
                  rw [hds.1]
                  have gi2 := (hbz.cell (World.block_lt_of_cell? _ _ gi)).trans gi
                  have gk2 := (hbz.cell (World.block_lt_of_cell? _ _ gk)).trans gk
                  have hbq2 := hbq.trans (hbz.mono hbq.size)
                  clear gi gk hbz hbq hatq hGq hHq hd
                  have hmax := @run_max2 Try.prog
                  go_wp2_with fail
                  go_roundw
                  case rel => exact ⟨k2 + 1, nb + 1, max dp d, by omega, by go_num, by go_num, rfl, HB.out.1, hbq2⟩
                  case measure => first | (simp [intOf]; done) | (simp [intOf]; omega)
                · as_aux_lemma =>
                  have z1 := str_eq_true (a := t) (b := x) htx
                  have z2 := str_eq_false (a := s) (b := y) hsy
                  have z3 : (id.toList == x.toList) = true := str_eq_true (HIX.out (by rw [← htx]; exact HQR.out))
                  have HB := Lib.hid (BI.same hp hq hr1 hbi.out HS.out (by rw [hst]; exact HT.out))
                  clear hbi htx hsy hst
                  go_wp2_with fail
                  go_quiet (fail)
                  have hatq := hatr.below (below_drewN (Below.refl wr.heap.size wr) nq)
                  have hGq := hGr.below (below_drewN (Below.refl wr.heap.size wr) nq)
                  have hHq := hHr.below (below_drewN (Below.refl wr.heap.size wr) nq)
                  have hbq := below_drewN hbr nq
                  clear hatr hGr hHr hbr gi gk
                  generalize wr.drewN nq = wq at hatq hGq hHq hbq ⊢
                  have gi : wq.cell? (pa.add i2) = some (.string s) := by obtain ⟨pa2, e2, h2⟩ := hGq.2 (by rw [HPN.out]; omega); cases e2; exact h2 i2 s HS.out
                  have gk : wq.cell? (qa.add k2) = some (.string t) := by obtain ⟨pa2, e2, h2⟩ := hHq.2 (by rw [HQN.out]; omega); cases e2; exact h2 k2 t HT.out
                  have hds := dep_depI HSI.out hh.hist
                  obtain ⟨d, hd⟩ : ∃ d, dep L s = d := ⟨_, rfl⟩
                  rw [hd] at hds HB
                  go_wp2_with fail
                  refine (depth_any _ _ L c hatq hh s HSZ.out).mono ?_
                  rintro e wz ⟨rfl, hbz⟩
                  rw [hds.1]
                  have gi2 := (hbz.cell (World.block_lt_of_cell? _ _ gi)).trans gi
                  have gk2 := (hbz.cell (World.block_lt_of_cell? _ _ gk)).trans gk
                  have hbq2 := hbq.trans (hbz.mono hbq.size)
                  clear gi gk hbz hbq hatq hGq hHq hd
                  have hmax := @run_max2 Try.prog
                  go_wp2_with fail
                  go_roundw
                  case rel => exact ⟨k2 + 1, nb + 1, max dp d, by omega, by go_num, by go_num, rfl, HB.out.1, hbq2⟩
                  case measure => first | (simp [intOf]; done) | (simp [intOf]; omega)
              · by_cases hsy : s = y
                · as_aux_lemma =>
                  have z1 := str_eq_false (a := t) (b := x) htx
                  have z2 := str_eq_true (a := s) (b := y) hsy
                  have z4 : (id.toList == y.toList) = true := str_eq_true (HIY.out (by rw [← hsy]; exact HPR.out))
                  have HB := Lib.hid (BI.same hp hq hr1 hbi.out HS.out (by rw [hst]; exact HT.out))
                  clear hbi htx hsy hst
                  go_wp2_with fail
                  go_quiet (fail)
                  have hatq := hatr.below (below_drewN (Below.refl wr.heap.size wr) nq)
                  have hGq := hGr.below (below_drewN (Below.refl wr.heap.size wr) nq)
                  have hHq := hHr.below (below_drewN (Below.refl wr.heap.size wr) nq)
                  have hbq := below_drewN hbr nq
                  clear hatr hGr hHr hbr gi gk
                  generalize wr.drewN nq = wq at hatq hGq hHq hbq ⊢
                  have gi : wq.cell? (pa.add i2) = some (.string s) := by obtain ⟨pa2, e2, h2⟩ := hGq.2 (by rw [HPN.out]; omega); cases e2; exact h2 i2 s HS.out
                  have gk : wq.cell? (qa.add k2) = some (.string t) := by obtain ⟨pa2, e2, h2⟩ := hHq.2 (by rw [HQN.out]; omega); cases e2; exact h2 k2 t HT.out
                  have hds := dep_depI HSI.out hh.hist
                  obtain ⟨d, hd⟩ : ∃ d, dep L s = d := ⟨_, rfl⟩
                  rw [hd] at hds HB
                  go_wp2_with fail
                  refine (depth_any _ _ L c hatq hh s HSZ.out).mono ?_
                  rintro e wz ⟨rfl, hbz⟩
                  rw [hds.1]
                  have gi2 := (hbz.cell (World.block_lt_of_cell? _ _ gi)).trans gi
                  have gk2 := (hbz.cell (World.block_lt_of_cell? _ _ gk)).trans gk
                  have hbq2 := hbq.trans (hbz.mono hbq.size)
                  clear gi gk hbz hbq hatq hGq hHq hd
                  have hmax := @run_max2 Try.prog
                  go_wp2_with fail
                  go_roundw
                  case rel => exact ⟨k2 + 1, nb + 1, max dp d, by omega, by go_num, by go_num, rfl, HB.out.1, hbq2⟩
                  case measure => first | (simp [intOf]; done) | (simp [intOf]; omega)
                · as_aux_lemma =>
                  have z1 := str_eq_false (a := t) (b := x) htx
                  have z2 := str_eq_false (a := s) (b := y) hsy
                  have HB := Lib.hid (BI.same hp hq hr1 hbi.out HS.out (by rw [hst]; exact HT.out))
                  clear hbi htx hsy hst
                  go_wp2_with fail
                  go_quiet (fail)
                  have hatq := hatr.below (below_drewN (Below.refl wr.heap.size wr) nq)
                  have hGq := hGr.below (below_drewN (Below.refl wr.heap.size wr) nq)
                  have hHq := hHr.below (below_drewN (Below.refl wr.heap.size wr) nq)
                  have hbq := below_drewN hbr nq
                  clear hatr hGr hHr hbr gi gk
                  generalize wr.drewN nq = wq at hatq hGq hHq hbq ⊢
                  have gi : wq.cell? (pa.add i2) = some (.string s) := by obtain ⟨pa2, e2, h2⟩ := hGq.2 (by rw [HPN.out]; omega); cases e2; exact h2 i2 s HS.out
                  have gk : wq.cell? (qa.add k2) = some (.string t) := by obtain ⟨pa2, e2, h2⟩ := hHq.2 (by rw [HQN.out]; omega); cases e2; exact h2 k2 t HT.out
                  have hds := dep_depI HSI.out hh.hist
                  obtain ⟨d, hd⟩ : ∃ d, dep L s = d := ⟨_, rfl⟩
                  rw [hd] at hds HB
                  go_wp2_with fail
                  refine (depth_any _ _ L c hatq hh s HSZ.out).mono ?_
                  rintro e wz ⟨rfl, hbz⟩
                  rw [hds.1]
                  have gi2 := (hbz.cell (World.block_lt_of_cell? _ _ gi)).trans gi
                  have gk2 := (hbz.cell (World.block_lt_of_cell? _ _ gk)).trans gk
                  have hbq2 := hbq.trans (hbz.mono hbq.size)
                  clear gi gk hbz hbq hatq hGq hHq hd
                  have hmax := @run_max2 Try.prog
                  go_wp2_with fail
                  go_roundw
                  case rel => exact ⟨k2 + 1, nb + 1, max dp d, by omega, by go_num, by go_num, rfl, HB.out.1, hbq2⟩
                  case measure => first | (simp [intOf]; done) | (simp [intOf]; omega)
            · have z0 := str_eq_false hst
              by_cases htx : t = x
              · by_cases hsy : s = y
                · as_aux_lemma =>
                  have z1 := str_eq_true (a := t) (b := x) htx
                  have z2 := str_eq_true (a := s) (b := y) hsy
                  have z3 : (id.toList == x.toList) = true := str_eq_true (HIX.out (by rw [← htx]; exact HQR.out))
                  have z4 : (id.toList == y.toList) = true := str_eq_true (HIY.out (by rw [← hsy]; exact HPR.out))
                  have HB := Lib.hid (hbi.out.not HS.out HT.out hst)
                  clear hbi htx hsy hst
                  go_wp2_with fail
                  go_quiet (fail)
                  have hatq := hatr.below (below_drewN (Below.refl wr.heap.size wr) nq)
                  have hGq := hGr.below (below_drewN (Below.refl wr.heap.size wr) nq)
                  have hHq := hHr.below (below_drewN (Below.refl wr.heap.size wr) nq)
                  have hbq := below_drewN hbr nq
                  clear hatr hGr hHr hbr gi gk
                  generalize wr.drewN nq = wq at hatq hGq hHq hbq ⊢
                  have gi : wq.cell? (pa.add i2) = some (.string s) := by obtain ⟨pa2, e2, h2⟩ := hGq.2 (by rw [HPN.out]; omega); cases e2; exact h2 i2 s HS.out
                  have gk : wq.cell? (qa.add k2) = some (.string t) := by obtain ⟨pa2, e2, h2⟩ := hHq.2 (by rw [HQN.out]; omega); cases e2; exact h2 k2 t HT.out
                  go_wp2_with fail
                  go_roundw
                  case rel => exact ⟨k2 + 1, nb, dp, by omega, by go_num, rfl, rfl, HB.out, hbq⟩
                  case measure => first | (simp [intOf]; done) | (simp [intOf]; omega)
                · as_aux_lemma =>
                  have z1 := str_eq_true (a := t) (b := x) htx
                  have z2 := str_eq_false (a := s) (b := y) hsy
                  have z3 : (id.toList == x.toList) = true := str_eq_true (HIX.out (by rw [← htx]; exact HQR.out))
                  have HB := Lib.hid (hbi.out.not HS.out HT.out hst)
                  clear hbi htx hsy hst
                  go_wp2_with fail
                  go_quiet (fail)
                  have hatq := hatr.below (below_drewN (Below.refl wr.heap.size wr) nq)
                  have hGq := hGr.below (below_drewN (Below.refl wr.heap.size wr) nq)
                  have hHq := hHr.below (below_drewN (Below.refl wr.heap.size wr) nq)
                  have hbq := below_drewN hbr nq
                  clear hatr hGr hHr hbr gi gk
                  generalize wr.drewN nq = wq at hatq hGq hHq hbq ⊢
                  have gi : wq.cell? (pa.add i2) = some (.string s) := by obtain ⟨pa2, e2, h2⟩ := hGq.2 (by rw [HPN.out]; omega); cases e2; exact h2 i2 s HS.out
                  have gk : wq.cell? (qa.add k2) = some (.string t) := by obtain ⟨pa2, e2, h2⟩ := hHq.2 (by rw [HQN.out]; omega); cases e2; exact h2 k2 t HT.out
                  go_wp2_with fail
                  go_roundw
                  case rel => exact ⟨k2 + 1, nb, dp, by omega, by go_num, rfl, rfl, HB.out, hbq⟩
                  case measure => first | (simp [intOf]; done) | (simp [intOf]; omega)
              · by_cases hsy : s = y
                · as_aux_lemma =>
                  have z1 := str_eq_false (a := t) (b := x) htx
                  have z2 := str_eq_true (a := s) (b := y) hsy
                  have z4 : (id.toList == y.toList) = true := str_eq_true (HIY.out (by rw [← hsy]; exact HPR.out))
                  have HB := Lib.hid (hbi.out.not HS.out HT.out hst)
                  clear hbi htx hsy hst
                  go_wp2_with fail
                  go_quiet (fail)
                  have hatq := hatr.below (below_drewN (Below.refl wr.heap.size wr) nq)
                  have hGq := hGr.below (below_drewN (Below.refl wr.heap.size wr) nq)
                  have hHq := hHr.below (below_drewN (Below.refl wr.heap.size wr) nq)
                  have hbq := below_drewN hbr nq
                  clear hatr hGr hHr hbr gi gk
                  generalize wr.drewN nq = wq at hatq hGq hHq hbq ⊢
                  have gi : wq.cell? (pa.add i2) = some (.string s) := by obtain ⟨pa2, e2, h2⟩ := hGq.2 (by rw [HPN.out]; omega); cases e2; exact h2 i2 s HS.out
                  have gk : wq.cell? (qa.add k2) = some (.string t) := by obtain ⟨pa2, e2, h2⟩ := hHq.2 (by rw [HQN.out]; omega); cases e2; exact h2 k2 t HT.out
                  go_wp2_with fail
                  go_roundw
                  case rel => exact ⟨k2 + 1, nb, dp, by omega, by go_num, rfl, rfl, HB.out, hbq⟩
                  case measure => first | (simp [intOf]; done) | (simp [intOf]; omega)
                · as_aux_lemma =>
                  have z1 := str_eq_false (a := t) (b := x) htx
                  have z2 := str_eq_false (a := s) (b := y) hsy
                  have HB := Lib.hid (hbi.out.not HS.out HT.out hst)
                  clear hbi htx hsy hst
                  go_wp2_with fail
                  go_quiet (fail)
                  have hatq := hatr.below (below_drewN (Below.refl wr.heap.size wr) nq)
                  have hGq := hGr.below (below_drewN (Below.refl wr.heap.size wr) nq)
                  have hHq := hHr.below (below_drewN (Below.refl wr.heap.size wr) nq)
                  have hbq := below_drewN hbr nq
                  clear hatr hGr hHr hbr gi gk
                  generalize wr.drewN nq = wq at hatq hGq hHq hbq ⊢
                  have gi : wq.cell? (pa.add i2) = some (.string s) := by obtain ⟨pa2, e2, h2⟩ := hGq.2 (by rw [HPN.out]; omega); cases e2; exact h2 i2 s HS.out
                  have gk : wq.cell? (qa.add k2) = some (.string t) := by obtain ⟨pa2, e2, h2⟩ := hHq.2 (by rw [HQN.out]; omega); cases e2; exact h2 k2 t HT.out
                  go_wp2_with fail
                  go_roundw
                  case rel => exact ⟨k2 + 1, nb, dp, by omega, by go_num, rfl, rfl, HB.out, hbq⟩
                  case measure => first | (simp [intOf]; done) | (simp [intOf]; omega)
          · have hke : k2 = qn := by omega
            have HB := Lib.hid (BI.next (show BI L p q (id, ok) i2 q.length nb dp by rw [HQN.out, ← hke]; exact hbi.out))
            clear hbi
            go_wp2_with fail
            go_roundw
            case rel => exact ⟨i2 + 1, nb, dp, by omega, by go_num, rfl, rfl, HB.out, hbr⟩
            case measure => first | (simp [intOf]; done) | (simp [intOf]; omega)
      · have hie : i2 = pn := by omega
        have hdone := BI.done hp hq hr1 (show BI L p q (id, ok) p.length 0 nb dp by rw [HPN.out, ← hie]; exact hbi.out)
        have hatr := hat8.below hbr
        have hb11 := hb10.trans (hbr.mono hb10.size)
        have zid := str_eq_true (a := id) rfl
        cases ok with
        | true =>
          obtain ⟨hn0, hdp⟩ := hdone.1 rfl
          have z1 : decide (0 < (nb : Int)) = true := decide_eq_true (by omega)
          have hr2 : Reach L x id := by
            rcases hr1 with ⟨_, h2, _⟩ | ⟨h1, _⟩
            · exact h2
            · cases h1
          have hii := (reach_le hh.hist hxi hr2).1
          have hds := dep_depI hii hh.hist
          have hsz : id.size ≤ maxLen := by
            obtain ⟨z, hz, hzs⟩ := List.mem_map.1 hii
            rw [← hzs]; exact (hh.small z hz).1
          simp only at hdp
          rw [← hdp] at hds
          have zd : (dp == dp) = true := beq_iff_eq.2 rfl
          clear hbi hdone hr1 hr2 hii hdp HIX HIY
          go_wp2_with fail
          refine (depth_any _ _ L c hatr hh id hsz).mono ?_
          rintro e wz ⟨rfl, hbz⟩
          rw [hds.1]
          have hb12 := hb11.trans (hbz.mono hb11.size)
          go_wp2_with fail
          refine (awake_any _).mono ?_
          rintro e w6 ⟨rfl, hb6⟩
          go_wp2
          go_ret
          exact ⟨rfl, hb12.trans (hb6.mono hb12.size)⟩
        | false =>
          obtain rfl := hdone.2 rfl
          clear hbi hdone hr1 HIX HIY
          go_wp2_with fail
          refine (awake_any _).mono ?_
          rintro e w6 ⟨rfl, hb6⟩
          go_wp2
          go_ret
          exact ⟨rfl, hb11.trans (hb6.mono hb11.size)⟩
end Go.Proofs.Ytfhgnolfhiffbaa
