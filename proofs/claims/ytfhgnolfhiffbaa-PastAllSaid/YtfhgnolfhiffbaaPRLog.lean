/- chequerref21.Log. Written by prloggen.py. -/
import Derived.Test.YtfhgnolfhiffbaaPRLogLaw
namespace Go.Proofs.Ytfhgnolfhiffbaa
open Go.RowKit Go.Maps
theorem run_from (W : World) (O : Option Addr) (ol oc n : Nat) (hn : n ≤ ol) : (Instr.slice 26 (.slice O ol oc) (some (.int .i64 (n : Int))) none none).run Try.prog W = .ok (.slice (if oc = n then O else O.map (·.add n)) (ol - n) (oc - n)) W := by
  have h1 : (0 : Int) ≤ (n : Int) ∧ (n : Int) ≤ (ol : Int) := by omega
  simp [Instr.slice, Instr.sliceBounds, Instr.sliceBound, go_sem, h1]
  intro h9
  omega
theorem at1_drop {α : Type} {f : α → Value} {W : World} {O : Option Addr} {out : List α} {oc n : Nat} (h : At1 f W O out) (ho : out.length ≤ oc) : At1 f W (if oc = n then O else O.map (·.add n)) (out.drop n) := by
  refine ⟨by rw [List.length_drop]; have := h.1; omega, fun h0 => ?_⟩
  rw [List.length_drop] at h0
  obtain ⟨a, rfl, hc⟩ := h.2 (by omega)
  rw [if_neg (by omega)]
  refine ⟨a.add n, rfl, fun i x hx => ?_⟩
  rw [List.getElem?_drop] at hx
  have h9 := hc (n + i) x hx
  have e : (a.add n).add i = a.add (n + i) := by
    unfold Addr.add
    split <;> rename_i h1 <;> (try simp_all) <;> (try (split <;> simp_all)) <;> (try omega)
  rw [e]
  exact h9
set_option maxRecDepth 100000 in
theorem rlog_none (w : World) (A : Option Addr) (l : List HC) (c : Nat) (h : AtC w A l) (hL : l.length ≤ 1000) (x : ByteArray) (hp : posI (idsOf l) x = -1) :
    Calls Try.prog 27 #[.slice A l.length c, .string x] w fun e w' => e = .returned (.slice none 0 0) ∧ Below w.heap.size w w' := by
  have hmk := fun W => run_make_row' (P := Try.prog) 67 4 (.bool false) 1 Try.underlying67 (by kernel_rfl) rfl .i64 .i64 l.length (by omega) (by omega) W
  go_enter Try.func27, Try.ntmps27
  go_wp2_with fail
  obtain ⟨W2, hW2⟩ : ∃ W2, W2 = w.alloc (.cells (madeCells #[.bool false] l.length) 4) := ⟨_, rfl⟩
  have eb : Below w.heap.size w W2 := by rw [hW2]; exact (Below.refl _ _).alloc (Nat.le_refl _) _
  rw [← hW2]
  clear hW2 hmk
  refine (at_any _ A l c (h.below eb) x).mono ?_
  rintro e w1 ⟨rfl, rfl⟩
  rw [hp]
  go_wp2_with fail
  go_ret
  exact ⟨rfl, eb⟩
set_option maxRecDepth 100000 in
set_option maxHeartbeats 4000000 in
theorem rlog_any (w : World) (A : Option Addr) (l : List HC) (c : Nat) (h : AtC w A l) (hh : HistIn l) (x : ByteArray) (hx : x ∈ idsOf l) :
    Calls Try.prog 27 #[.slice A l.length c, .string x] w (LogPost w l x) := by
  have hlen := hh.len
  obtain ⟨k, hk⟩ : ∃ k, posN (idsOf l) x = k := ⟨_, rfl⟩
  have hkl : k < l.length := by rw [← hk]; exact mem_ids.1 hx
  have hpk : posI (idsOf l) x = (k : Int) := by rw [posI_of (by rw [idsOf_len, hk]; exact hkl), hk]
  obtain ⟨y0, hy0, hy0x⟩ := posN_id (mem_ids.1 hx)
  rw [hk] at hy0
  have hmk := fun W => run_make_row' (P := Try.prog) 67 4 (.bool false) 1 Try.underlying67 (by kernel_rfl) rfl .i64 .i64 l.length (by omega) (by omega) W
  go_enter Try.func27, Try.ntmps27
  go_wp2_with fail
  obtain ⟨g, hge⟩ : ∃ g, w.heap.size = g := ⟨_, rfl⟩
  obtain ⟨W2, hW2⟩ : ∃ W2, W2 = w.alloc (.cells (madeCells #[.bool false] l.length) 4) := ⟨_, rfl⟩
  have hrow : W2.ownsRow g 4 1 (.slice (some ⟨g, 0, none⟩) l.length l.length) l.length ((List.replicate l.length false).map Value.bool) := by
    rw [hW2, ← hge, List.map_replicate]
    exact own_made (z := .bool false) (Nat.le_refl _) (by unfold maxLen; omega)
  have eb : Below w.heap.size w W2 := by rw [hW2]; exact (Below.refl _ _).alloc (Nat.le_refl _) _
  rw [← hW2, hge]
  clear hW2 hmk
  refine (at_any _ A l c (h.below eb) x).mono ?_
  rintro e w1 ⟨rfl, rfl⟩
  rw [hpk]
  have hck := own_cell hrow (i := k) (x := .bool false) (by rw [List.getElem?_map, List.getElem?_replicate, if_pos hkl]; rfl)
  obtain ⟨s0, s1, s2, s3, s4, s5⟩ := hck
  go_wp2_with fail
  have hrow2 := own_set hrow (i := k) (.bool true)
  rw [show ((List.replicate l.length false).map Value.bool).set k (.bool true) = ((List.replicate l.length false).set k true).map Value.bool from by rw [List.map_set]] at hrow2
  have HRS := Lib.hid (RS.init hy0 hy0x)
  have eb2 := eb.setCell (p := ⟨g, k, none⟩) (by show w.heap.size ≤ g; omega) (.bool true)
  obtain ⟨R0, hR0⟩ : ∃ R0, (List.replicate l.length false).set k true = R0 := ⟨_, rfl⟩
  rw [hR0] at hrow2 HRS
  clear hrow s0 s1 s2 s3 s4 s5 hR0 eb
  generalize w1.setCell ⟨g, k, none⟩ (.bool true) = w2 at hrow2 eb2 ⊢
  have HAT := Lib.hid (fun W (hW : Below w.heap.size w W) => h.below hW)
  go_loopw [7] (fun u wr => ∃ (t : Nat) (R : List Bool) (z : Int), t ≤ k + 1 ∧ z = (t : Int) - 1 ∧ u = .int .i64 z ∧ Hid (RS l x k t 0 R) ∧ wr.ownsRow g 4 1 (.slice (some ⟨g, 0, none⟩) l.length l.length) l.length (R.map Value.bool) ∧ Below w.heap.size w wr) (fun u _ => (intOf u + 1).toNat)
  case atStart => exact ⟨k + 1, R0, (k : Int), Nat.le_refl _, by omega, rfl, HRS, hrow2, eb2⟩
  case round =>
    clear hrow2 eb2 HRS
    obtain ⟨t, R, z, ht, hz, rfl, hRS, hown, hb⟩ := hrel
    cases t with
    | succ i =>
      obtain rfl : z = (i : Int) := by omega
      clear hz
      have hil : i < l.length := by omega
      obtain ⟨y, hy⟩ : ∃ y, l[i]? = some y := ⟨_, List.getElem?_eq_getElem hil⟩
      have HY := Lib.hid hy
      have HAH := Lib.hid (hh.hist.ahead i y hy)
      obtain ⟨pn, hpn⟩ : ∃ pn, y.ps.length = pn := ⟨_, rfl⟩
      have HPN := Lib.hid hpn
      obtain ⟨bb, oo, hAe, _⟩ := h.2.2 (by omega)
      subst hAe
      have hpl := (h.2.1 y (List.mem_of_getElem? hy)).1
      rw [hpn] at hpl
      clear hpn hy
      go_wp2_with fail
      go_loopw [8] (fun u wr => ∃ (j : Nat) (R : List Bool), j ≤ pn ∧ u = .int .i64 j ∧ Hid (RS l x k (i + 1) j R) ∧ wr.ownsRow g 4 1 (.slice (some ⟨g, 0, none⟩) l.length l.length) l.length (R.map Value.bool) ∧ Below w.heap.size w wr) (fun u _ => pn - (intOf u).toNat)
      case atStart => exact ⟨0, R, Nat.zero_le _, rfl, hRS, hown, hb⟩
      case round =>
        clear hown hb hRS
        obtain ⟨j, R, hj, rfl, hRS, hown, hb⟩ := hrel
        have hat := HAT.out _ hb
        obtain ⟨bb2, oo2, e2, hcc⟩ := hat.2.2 (by omega)
        cases e2
        obtain ⟨_, c1, _, _⟩ := hcc i y HY.out
        have hP := hat.2.1 y (List.mem_of_getElem? HY.out)
        rw [HPN.out] at c1
        obtain ⟨b0, hb0⟩ : ∃ b0, R[i]? = some b0 := ⟨_, List.getElem?_eq_getElem (by rw [hRS.out.len]; exact hil)⟩
        obtain ⟨r0, _, _, _, _, _⟩ := own_cell hown (i := i) (x := .bool b0) (by rw [List.getElem?_map, hb0]; rfl)
        have HB0 := Lib.hid hb0
        clear hcc hb0
        by_cases hjl : j < pn
        · cases b0 with
          | true =>
            obtain ⟨p, hp⟩ : ∃ p, y.ps[j]? = some p := ⟨_, List.getElem?_eq_getElem (by rw [HPN.out]; exact hjl)⟩
            obtain ⟨pa, hpa, hpc⟩ := hP.2 (by rw [HPN.out]; omega)
            have p0 := hpc j p hp
            have hpi := HAH.out p (List.mem_of_getElem? hp)
            have HM := Lib.hid (RS.mark hh.hist hRS.out HB0.out HY.out hp)
            obtain ⟨m, hm⟩ : ∃ m, posN (idsOf l) p = m := ⟨_, rfl⟩
            rw [hm] at hpi HM
            have HP := Lib.hid (show posI (idsOf l) p = (m : Int) by rw [posI_of (by rw [idsOf_len, hm]; omega), hm])
            have hml : m < l.length := by omega
            obtain ⟨b1, hb1⟩ : ∃ b1, R[m]? = some b1 := ⟨_, List.getElem?_eq_getElem (by rw [hRS.out.len]; exact hml)⟩
            obtain ⟨t0, t1, _, _, _, _⟩ := own_cell hown (i := m) (x := .bool b1) (by rw [List.getElem?_map, hb1]; rfl)
            have hown3 := own_set hown (i := m) (.bool true)
            rw [show (R.map Value.bool).set m (.bool true) = (R.set m true).map Value.bool from by rw [List.map_set]] at hown3
            have hb3 := hb.setCell (p := ⟨g, m, none⟩) (by show w.heap.size ≤ g; omega) (.bool true)
            have HPA := Lib.hid hpa
            rw [hpa] at c1
            have HO3 := Lib.hid hown3
            clear hpc hp hm hP hpa hRS hb1 hown3
            go_wp2_with fail
            refine (at_any _ _ l c hat p).mono ?_
            rintro e w5 ⟨rfl, rfl⟩
            rw [HP.out]
            go_wp2_with fail
            go_roundw
            case rel => exact ⟨j + 1, R.set m true, by omega, by go_num, HM.out, HO3.out, hb3⟩
            case measure => first | (simp [intOf]; done) | (simp [intOf]; omega)
          | false =>
            have HOV := Lib.hid (RS.over hRS.out HY.out (fun h9 => by rw [HB0.out] at h9; cases h9))
            clear hRS hP
            go_wp2_with fail
            go_roundw
            case rel => exact ⟨i, R, (i : Int) - 1, by omega, by omega, by go_num, HOV, hown, hb⟩
            case measure => first | (simp [intOf]; done) | (simp [intOf]; omega)
        · have HOV := Lib.hid (RS.over hRS.out HY.out (fun _ => by rw [HPN.out]; omega))
          clear hRS hP
          go_wp2_with fail
          go_roundw
          case rel => exact ⟨i, R, (i : Int) - 1, by omega, by omega, by go_num, HOV, hown, hb⟩
          case measure => first | (simp [intOf]; done) | (simp [intOf]; omega)
    | zero =>
      obtain rfl : z = -1 := by omega
      clear hz
      go_wp2_with fail
      refine (rdepths_any _ A l c (HAT.out _ hb) hh).mono ?_
      rintro e w3 ⟨D, dc, rfl, hD, hb3⟩
      have hown3 := own_below hown hb3
      have hb4 := hb.trans (hb3.mono hb.size)
      have HRS := Lib.hid hRS.out
      clear hown hb hb3 hRS
      go_wp2_with fail
      have HAT3 := Lib.hid (fun W (hW : Below w3.heap.size w3 W) => (HAT.out _ hb4).below hW)
      have HR3 := Lib.hid (fun W (hW : Below w3.heap.size w3 W) => own_below hown3 hW)
      have HD3 := Lib.hid (fun W (hW : Below w3.heap.size w3 W) => own_below hD hW)
      clear hown3 hD
      go_loopw [10, 11] (fun v u wr => ∃ (i : Nat) (out : List ByteArray), i ≤ l.length ∧ u = .int .i64 i ∧ Hid (IS l R i out) ∧ wr.ownsRow w3.heap.size 9 1 v out.length (out.map vStr) ∧ Below w3.heap.size w3 wr) (fun _ u _ => l.length - (intOf u).toNat)
      case atStart => exact ⟨0, [], Nat.zero_le _, rfl, IS.init, World.ownsRow_nil _ _ _ _, Below.refl _ _⟩
      case round =>
        obtain ⟨i, out, hi, rfl, hIS, hown, hb⟩ := hrel
        obtain ⟨O, oc, rfl, hoc, hoc2⟩ := own_form hown
        have hb9 := hb4.trans (hb.mono hb4.size)
        have hol : out.length ≤ l.length := by
          have := nodup_le hIS.out.nodup (m := idsOf l) (fun s hs => by
            obtain ⟨q, d, _, _, h3, rfl⟩ := (hIS.out.mem s).1 hs
            exact List.mem_map.2 ⟨d, List.mem_of_getElem? h3, rfl⟩)
          rwa [idsOf_len] at this
        obtain ⟨ol, hole⟩ : ∃ ol, out.length = ol := ⟨_, rfl⟩
        have HOL := Lib.hid hole
        rw [hole] at hown hol hoc ⊢
        clear hole
        by_cases hil : i < l.length
        · obtain ⟨b0, hb0⟩ : ∃ b0, R[i]? = some b0 := ⟨_, List.getElem?_eq_getElem (by rw [HRS.out.len]; exact hil)⟩
          obtain ⟨r0, _, _, _, _, _⟩ := own_cell (HR3.out _ hb) (i := i) (x := .bool b0) (by rw [List.getElem?_map, hb0]; rfl)
          cases b0 with
          | false =>
            have HSK := Lib.hid (IS.skip hIS.out (show ¬ R[i]? = some true by rw [hb0]; intro h9; cases h9))
            clear hIS hb0
            go_wp2_with fail
            go_roundw
            case rel => exact ⟨i + 1, out, by omega, by go_num, HSK, by rw [HOL.out]; exact hown, hb⟩
            case measure => first | (simp [intOf]; done) | (simp [intOf]; omega)
          | true =>
            obtain ⟨bb, oo, hAe, _⟩ := h.2.2 (by omega)
            subst hAe
            obtain ⟨y, hy⟩ : ∃ y, l[i]? = some y := ⟨_, List.getElem?_eq_getElem hil⟩
            have HY := Lib.hid hy
            have HB0 := Lib.hid hb0
            have HOUT := Lib.hid (At1.of_own (n := ol) (f := vStr) (l := out) hown (by rw [HOL.out]; omega))
            have HID := Lib.hid (fun s (hs : s ∈ out) => show s ∈ idsOf l by
              obtain ⟨q, d, _, _, h3, rfl⟩ := (hIS.out.mem s).1 hs
              exact List.mem_map.2 ⟨d, List.mem_of_getElem? h3, rfl⟩)
            clear hy hb0
            go_wp2_with fail
            clear r0
            obtain ⟨wo, hwo⟩ : ∃ wo, wo = wr := ⟨_, rfl⟩
            subst hwo
            go_loopw [12] (fun u wi => ∃ m : Nat, m ≤ ol ∧ u = .int .i64 m ∧ Hid (∀ q s, q < m → out[q]? = some s → ndLe (s, dep l s) (y.id, dep l y.id)) ∧ Below wo.heap.size wo wi) (fun u _ => ol - (intOf u).toNat)
            case atStart => exact ⟨0, Nat.zero_le _, rfl, fun q s hq => absurd hq (Nat.not_lt_zero q), Below.refl _ _⟩
            case round =>
              generalize wr = wi at *
              obtain ⟨m, hm, rfl, hlt, hbi⟩ := hrel
              have hb3i := hb.trans (hbi.mono hb.size)
              have hati := HAT3.out _ hb3i
              have HATN := Lib.hid (fun n => hati.below (below_drewN (Below.refl wi.heap.size wi) n))
              by_cases hml : m < ol
              · obtain ⟨s, hs⟩ : ∃ s, out[m]? = some s := ⟨_, List.getElem?_eq_getElem (by rw [HOL.out]; exact hml)⟩
                have HS := Lib.hid hs
                have hsi := HID.out s (List.mem_of_getElem? hs)
                obtain ⟨oa, hOe, hOc⟩ := (HOUT.out.below hbi).2 (by rw [HOL.out]; omega)
                have os := hOc m s hs
                obtain ⟨z, hz, hzs⟩ := posN_id (mem_ids.1 hsi)
                obtain ⟨ms, hms⟩ : ∃ ms, posN (idsOf l) s = ms := ⟨_, rfl⟩
                rw [hms] at hz
                have hmsl := (List.getElem?_eq_some_iff.1 hz).1
                have hf := fun W (hW : AtC W (some ⟨bb, oo, none⟩) l) => at_any W _ l c hW s
                rw [posI_of (by rw [idsOf_len, hms]; exact hmsl), hms] at hf
                have HF := Lib.hid hf
                have hds := depL_get hz
                rw [hzs] at hds
                obtain ⟨gd, hDe, hdc1⟩ := own_cellN (HD3.out _ hb3i) (show ((depL l).map vI)[ms]? = some (.int .i64 (dep l s)) by rw [List.getElem?_map, hds]; rfl)
                obtain ⟨gd2, hDe2, hdc2⟩ := own_cellN (HD3.out _ hb3i) (show ((depL l).map vI)[i]? = some (.int .i64 (dep l y.id)) by rw [List.getElem?_map, depL_get HY.out]; rfl)
                rw [hDe] at hDe2
                cases hDe2
                cases hDe
                obtain ⟨b2, o2, e2, h2⟩ := hati.2.2 (by omega)
                cases e2
                obtain ⟨yc, _, _, _⟩ := h2 i y HY.out
                have HO9 := Lib.hid hOe
                have HOUTs := HOUT
                subst hOe
                clear hOc hs hsi hz hzs hms hf hds h2
                by_cases hcase : dep l y.id < dep l s ∨ dep l s = dep l y.id ∧ Op.bytesLess s.toList y.id.toList = true
                · have HLE := Lib.hid (nd_lt hcase)
                  by_cases h1 : dep l y.id < dep l s
                  · as_aux_lemma =>
                    obtain ⟨ds, hde⟩ : ∃ ds, dep l s = ds := ⟨_, rfl⟩
                    obtain ⟨dc0, hce⟩ : ∃ dc0, dep l y.id = dc0 := ⟨_, rfl⟩
                    rw [hde] at h1 hdc1
                    rw [hce] at h1 hdc2
                    have z1 : decide (dc0 < ds) = true := decide_eq_true h1
                    clear hde hce hcase
                    go_wp2_with fail
                    go_quiet (first | (go_at_call 11; refine Calls.quiet_of_same (HF.out _ (HATN.out _))))
                    have hbq := below_drewN hbi nq
                    go_wp2_with fail
                    go_roundw
                    case rel =>
                      refine ⟨m + 1, by omega, by go_num, fun q s2 hq hs2 => ?_, hbq⟩
                      rcases Nat.lt_or_ge q m with h8 | h8
                      · exact hlt.out q s2 h8 hs2
                      · have e : q = m := by omega
                        rw [e, HS.out] at hs2
                        injection hs2 with hs2
                        rw [← hs2]; exact HLE.out
                    case measure => first | (simp [intOf]; done) | (simp [intOf]; omega)
                  · as_aux_lemma =>
                    have h2 : dep l s = dep l y.id := by rcases hcase with h | h; exact absurd h h1; exact h.1
                    have h3 : Op.bytesLess s.toList y.id.toList = true := by rcases hcase with h | h; exact absurd h h1; exact h.2
                    obtain ⟨ds, hde⟩ : ∃ ds, dep l s = ds := ⟨_, rfl⟩
                    obtain ⟨dc0, hce⟩ : ∃ dc0, dep l y.id = dc0 := ⟨_, rfl⟩
                    rw [hde] at h2 hdc1
                    rw [hce] at h2 hdc2
                    have z1 : decide (dc0 < ds) = false := decide_eq_false (by omega)
                    have z2 : (ds == dc0) = true := beq_iff_eq.2 h2
                    clear h1 h2 hce hde hcase
                    go_wp2_with fail
                    go_quiet (first | (go_at_call 11; refine Calls.quiet_of_same (HF.out _ (HATN.out _))))
                    have hbq := below_drewN hbi nq
                    go_wp2_with fail
                    go_roundw
                    case rel =>
                      refine ⟨m + 1, by omega, by go_num, fun q s2 hq hs2 => ?_, hbq⟩
                      rcases Nat.lt_or_ge q m with h8 | h8
                      · exact hlt.out q s2 h8 hs2
                      · have e : q = m := by omega
                        rw [e, HS.out] at hs2
                        injection hs2 with hs2
                        rw [← hs2]; exact HLE.out
                    case measure => first | (simp [intOf]; done) | (simp [intOf]; omega)
                · have HGE := Lib.hid (show ∀ s2, out[m]? = some s2 → ndLe (y.id, dep l y.id) (s2, dep l s2) from fun s2 hs2 => by rw [HS.out] at hs2; injection hs2 with hs2; rw [← hs2]; exact nd_ge hcase)
                  by_cases h2 : dep l s = dep l y.id
                  · as_aux_lemma =>
                    have h3 : Op.bytesLess s.toList y.id.toList = false := by
                      rcases Bool.eq_false_or_eq_true (Op.bytesLess s.toList y.id.toList) with h | h
                      · exact absurd (.inr ⟨h2, h⟩) hcase
                      · exact h
                    obtain ⟨ds, hde⟩ : ∃ ds, dep l s = ds := ⟨_, rfl⟩
                    obtain ⟨dc0, hce⟩ : ∃ dc0, dep l y.id = dc0 := ⟨_, rfl⟩
                    rw [hde] at h2 hdc1
                    rw [hce] at h2 hdc2
                    have z1 : decide (dc0 < ds) = false := decide_eq_false (by omega)
                    have z2 : (ds == dc0) = true := beq_iff_eq.2 h2
                    clear h2 hce hde hcase
                    go_wp2_with fail
                    go_quiet (first | (go_at_call 11; refine Calls.quiet_of_same (HF.out _ (HATN.out _))))
                    have hbq := below_drewN hbi nq
                    clear hati HATN HF hbi
                    generalize wi.drewN nq = wq at hbq ⊢
                    have HPUT := Lib.hid (IS.put hh.hist hIS.out HB0.out HY.out hlt.out HGE.out)
                    have hOq := HOUT.out.below hbq
                    have hb3q := hb.trans (hbq.mono hb.size)
                    have hba : Below wq.heap.size wq (wq.alloc (.cells #[] 9)) := (Below.refl _ _).alloc (Nat.le_refl _) _
                    have hm0 := own_lit0 (w := wq) (base := wq.heap.size) (e := 9) (Nat.le_refl _)
                    have htk := (hOq.below hba).take m
                    have htl : m = (out.take m).length := by rw [List.length_take, HOL.out]; omega
                    have HTL := Lib.hid htl.symm
                    have hsl := fun W => run_from W (some oa) ol oc m hm
                    have hdq := at1_drop (n := m) hOq (by rw [HOL.out]; exact hoc)
                    have hdl : ol - m = (out.drop m).length := by rw [List.length_drop, HOL.out]
                    have HDL := Lib.hid hdl.symm
                    obtain ⟨O2, hO2⟩ : ∃ O2, (if oc = m then (some oa) else (some oa).map (·.add m)) = O2 := ⟨_, rfl⟩
                    obtain ⟨rl, hrl⟩ : ∃ rl, ol - m = rl := ⟨_, rfl⟩
                    obtain ⟨rc, hrc⟩ : ∃ rc, oc - m = rc := ⟨_, rfl⟩
                    have HRL := Lib.hid (show m + rl = ol by omega)
                    rw [hO2] at hdq
                    rw [hO2, hrl, hrc] at hsl
                    rw [hrl] at hdl HDL
                    have HDR := Lib.hid (fun W (hW : Below wq.heap.size wq W) => hdq.below hW)
                    have HCC := Lib.hid (fun W (hW : Below wq.heap.size wq W) => show W.cell? ⟨bb, oo + i * 4, none⟩ = some (.string y.id) from by
                      obtain ⟨b2, o2, e2, h2⟩ := (HAT3.out _ (hb3q.trans (hW.mono hb3q.size))).2.2 (by omega)
                      cases e2
                      exact (h2 i y HY.out).1)
                    clear hO2 hrl hrc hdq hlt HGE hOq htl hdl
                    go_wp2_with (at_builtin; first | (refine wpList_appAll eStr rfl rfl hm0 rfl rfl HTL.out.symm htk (fun _ => rfl) (by rw [HTL.out]; omega) (by simp) ?_; intro v1 w1' hown1 hg1 hk1; obtain ⟨A1, c1', rfl, _⟩ := own_form hown1; have hb1 := below_grown hba hm0 hg1 (Nat.le_refl _) (by simp); rw [HTL.out, Nat.zero_add, List.nil_append] at hown1; rw [HTL.out, Nat.zero_add]; have c0 := HCC.out _ hb1) | (refine wpList_app1 eStr rfl rfl hown1 rfl rfl rfl rfl (by omega) hb1.size ?_; intro v2 w2' hown2 hg2 hk2; obtain ⟨A2, c2', rfl, _⟩ := own_form hown2; have hb2 := below_grown hb1 hown1 hg2 (Nat.le_refl _) hb1.size; have hdr := HDR.out _ hb2) | (refine wpList_appAll eStr rfl rfl hown2 rfl rfl HDL.out.symm hdr (fun _ => rfl) (by rw [HDL.out]; have := HRL.out; omega) hb2.size ?_; intro v3 w3' hown3 hg3 hk3; obtain ⟨A3, c3', rfl, _⟩ := own_form hown3; have hb5 := below_grown hb2 hown2 hg3 (Nat.le_refl _) hb2.size))
                    go_roundw
                    case rel =>
                      refine ⟨i + 1, out.take m ++ [y.id] ++ out.drop m, by omega, by go_num, HPUT.out, ?_, hb3q.trans (hb5.mono hb3q.size)⟩
                      have e1 : (out.take m ++ [y.id] ++ out.drop m).length = m + 1 + (out.length - m) := by rw [List.length_append, List.length_append, HTL.out, List.length_drop]; rfl
                      rw [e1, List.map_append, List.map_append]
                      exact own_baseM (by rw [List.length_drop] at hown3; exact hown3) hb3q.size
                    case measure => first | (simp [intOf]; done) | (simp [intOf]; omega)
                  · as_aux_lemma =>
                    have h1 : ¬ dep l y.id < dep l s := fun h => hcase (.inl h)
                    obtain ⟨ds, hde⟩ : ∃ ds, dep l s = ds := ⟨_, rfl⟩
                    obtain ⟨dc0, hce⟩ : ∃ dc0, dep l y.id = dc0 := ⟨_, rfl⟩
                    rw [hde] at h1 h2 hdc1
                    rw [hce] at h1 h2 hdc2
                    have z1 : decide (dc0 < ds) = false := decide_eq_false h1
                    have z2 : (ds == dc0) = false := beq_eq_false_iff_ne.2 h2
                    clear hde hce hcase h2
                    go_wp2_with fail
                    go_quiet (first | (go_at_call 11; refine Calls.quiet_of_same (HF.out _ (HATN.out _))))
                    have hbq := below_drewN hbi nq
                    clear hati HATN HF hbi
                    generalize wi.drewN nq = wq at hbq ⊢
                    have HPUT := Lib.hid (IS.put hh.hist hIS.out HB0.out HY.out hlt.out HGE.out)
                    have hOq := HOUT.out.below hbq
                    have hb3q := hb.trans (hbq.mono hb.size)
                    have hba : Below wq.heap.size wq (wq.alloc (.cells #[] 9)) := (Below.refl _ _).alloc (Nat.le_refl _) _
                    have hm0 := own_lit0 (w := wq) (base := wq.heap.size) (e := 9) (Nat.le_refl _)
                    have htk := (hOq.below hba).take m
                    have htl : m = (out.take m).length := by rw [List.length_take, HOL.out]; omega
                    have HTL := Lib.hid htl.symm
                    have hsl := fun W => run_from W (some oa) ol oc m hm
                    have hdq := at1_drop (n := m) hOq (by rw [HOL.out]; exact hoc)
                    have hdl : ol - m = (out.drop m).length := by rw [List.length_drop, HOL.out]
                    have HDL := Lib.hid hdl.symm
                    obtain ⟨O2, hO2⟩ : ∃ O2, (if oc = m then (some oa) else (some oa).map (·.add m)) = O2 := ⟨_, rfl⟩
                    obtain ⟨rl, hrl⟩ : ∃ rl, ol - m = rl := ⟨_, rfl⟩
                    obtain ⟨rc, hrc⟩ : ∃ rc, oc - m = rc := ⟨_, rfl⟩
                    have HRL := Lib.hid (show m + rl = ol by omega)
                    rw [hO2] at hdq
                    rw [hO2, hrl, hrc] at hsl
                    rw [hrl] at hdl HDL
                    have HDR := Lib.hid (fun W (hW : Below wq.heap.size wq W) => hdq.below hW)
                    have HCC := Lib.hid (fun W (hW : Below wq.heap.size wq W) => show W.cell? ⟨bb, oo + i * 4, none⟩ = some (.string y.id) from by
                      obtain ⟨b2, o2, e2, h2⟩ := (HAT3.out _ (hb3q.trans (hW.mono hb3q.size))).2.2 (by omega)
                      cases e2
                      exact (h2 i y HY.out).1)
                    clear hO2 hrl hrc hdq hlt HGE hOq htl hdl
                    go_wp2_with (at_builtin; first | (refine wpList_appAll eStr rfl rfl hm0 rfl rfl HTL.out.symm htk (fun _ => rfl) (by rw [HTL.out]; omega) (by simp) ?_; intro v1 w1' hown1 hg1 hk1; obtain ⟨A1, c1', rfl, _⟩ := own_form hown1; have hb1 := below_grown hba hm0 hg1 (Nat.le_refl _) (by simp); rw [HTL.out, Nat.zero_add, List.nil_append] at hown1; rw [HTL.out, Nat.zero_add]; have c0 := HCC.out _ hb1) | (refine wpList_app1 eStr rfl rfl hown1 rfl rfl rfl rfl (by omega) hb1.size ?_; intro v2 w2' hown2 hg2 hk2; obtain ⟨A2, c2', rfl, _⟩ := own_form hown2; have hb2 := below_grown hb1 hown1 hg2 (Nat.le_refl _) hb1.size; have hdr := HDR.out _ hb2) | (refine wpList_appAll eStr rfl rfl hown2 rfl rfl HDL.out.symm hdr (fun _ => rfl) (by rw [HDL.out]; have := HRL.out; omega) hb2.size ?_; intro v3 w3' hown3 hg3 hk3; obtain ⟨A3, c3', rfl, _⟩ := own_form hown3; have hb5 := below_grown hb2 hown2 hg3 (Nat.le_refl _) hb2.size))
                    go_roundw
                    case rel =>
                      refine ⟨i + 1, out.take m ++ [y.id] ++ out.drop m, by omega, by go_num, HPUT.out, ?_, hb3q.trans (hb5.mono hb3q.size)⟩
                      have e1 : (out.take m ++ [y.id] ++ out.drop m).length = m + 1 + (out.length - m) := by rw [List.length_append, List.length_append, HTL.out, List.length_drop]; rfl
                      rw [e1, List.map_append, List.map_append]
                      exact own_baseM (by rw [List.length_drop] at hown3; exact hown3) hb3q.size
                    case measure => first | (simp [intOf]; done) | (simp [intOf]; omega)
              · as_aux_lemma =>
                have hme : m = ol := by omega
                have HGE := Lib.hid (show ∀ s2, out[m]? = some s2 → ndLe (y.id, dep l y.id) (s2, dep l s2) from fun s2 hs2 => by have := (List.getElem?_eq_some_iff.1 hs2).1; rw [HOL.out] at this; omega)
                clear hme
                have d1 : decide ((m : Int) < (ol : Int)) = false := decide_eq_false (by omega)
                go_wp2_with fail
                go_quiet (fail)
                have hbq := below_drewN hbi nq
                clear hati HATN hbi
                generalize wi.drewN nq = wq at hbq ⊢
                have HPUT := Lib.hid (IS.put hh.hist hIS.out HB0.out HY.out hlt.out HGE.out)
                have hOq := HOUT.out.below hbq
                have hb3q := hb.trans (hbq.mono hb.size)
                have hba : Below wq.heap.size wq (wq.alloc (.cells #[] 9)) := (Below.refl _ _).alloc (Nat.le_refl _) _
                have hm0 := own_lit0 (w := wq) (base := wq.heap.size) (e := 9) (Nat.le_refl _)
                have htk := (hOq.below hba).take m
                have htl : m = (out.take m).length := by rw [List.length_take, HOL.out]; omega
                have HTL := Lib.hid htl.symm
                have hsl := fun W => run_from W O ol oc m hm
                have hdq := at1_drop (n := m) hOq (by rw [HOL.out]; exact hoc)
                have hdl : ol - m = (out.drop m).length := by rw [List.length_drop, HOL.out]
                have HDL := Lib.hid hdl.symm
                obtain ⟨O2, hO2⟩ : ∃ O2, (if oc = m then O else O.map (·.add m)) = O2 := ⟨_, rfl⟩
                obtain ⟨rl, hrl⟩ : ∃ rl, ol - m = rl := ⟨_, rfl⟩
                obtain ⟨rc, hrc⟩ : ∃ rc, oc - m = rc := ⟨_, rfl⟩
                have HRL := Lib.hid (show m + rl = ol by omega)
                rw [hO2] at hdq
                rw [hO2, hrl, hrc] at hsl
                rw [hrl] at hdl HDL
                have HDR := Lib.hid (fun W (hW : Below wq.heap.size wq W) => hdq.below hW)
                have HCC := Lib.hid (fun W (hW : Below wq.heap.size wq W) => show W.cell? ⟨bb, oo + i * 4, none⟩ = some (.string y.id) from by
                  obtain ⟨b2, o2, e2, h2⟩ := (HAT3.out _ (hb3q.trans (hW.mono hb3q.size))).2.2 (by omega)
                  cases e2
                  exact (h2 i y HY.out).1)
                clear hO2 hrl hrc hdq hlt HGE hOq htl hdl
                go_wp2_with (at_builtin; first | (refine wpList_appAll eStr rfl rfl hm0 rfl rfl HTL.out.symm htk (fun _ => rfl) (by rw [HTL.out]; omega) (by simp) ?_; intro v1 w1' hown1 hg1 hk1; obtain ⟨A1, c1', rfl, _⟩ := own_form hown1; have hb1 := below_grown hba hm0 hg1 (Nat.le_refl _) (by simp); rw [HTL.out, Nat.zero_add, List.nil_append] at hown1; rw [HTL.out, Nat.zero_add]; have c0 := HCC.out _ hb1) | (refine wpList_app1 eStr rfl rfl hown1 rfl rfl rfl rfl (by omega) hb1.size ?_; intro v2 w2' hown2 hg2 hk2; obtain ⟨A2, c2', rfl, _⟩ := own_form hown2; have hb2 := below_grown hb1 hown1 hg2 (Nat.le_refl _) hb1.size; have hdr := HDR.out _ hb2) | (refine wpList_appAll eStr rfl rfl hown2 rfl rfl HDL.out.symm hdr (fun _ => rfl) (by rw [HDL.out]; have := HRL.out; omega) hb2.size ?_; intro v3 w3' hown3 hg3 hk3; obtain ⟨A3, c3', rfl, _⟩ := own_form hown3; have hb5 := below_grown hb2 hown2 hg3 (Nat.le_refl _) hb2.size))
                go_roundw
                case rel =>
                  refine ⟨i + 1, out.take m ++ [y.id] ++ out.drop m, by omega, by go_num, HPUT.out, ?_, hb3q.trans (hb5.mono hb3q.size)⟩
                  have e1 : (out.take m ++ [y.id] ++ out.drop m).length = m + 1 + (out.length - m) := by rw [List.length_append, List.length_append, HTL.out, List.length_drop]; rfl
                  rw [e1, List.map_append, List.map_append]
                  exact own_baseM (by rw [List.length_drop] at hown3; exact hown3) hb3q.size
                case measure => first | (simp [intOf]; done) | (simp [intOf]; omega)
        · obtain rfl : i = l.length := by omega
          have HLG := Lib.hid (IS.log hh.hist hy0 hy0x HRS.out hIS.out)
          have HO := Lib.hid (At1.of_own (n := ol) (f := vStr) (l := out) hown (by rw [HOL.out]; omega))
          go_wp2_with fail
          refine bodyPost_ret (v := .slice O ol oc) (by simp [results, Try.f27, go_sem]) rfl ⟨O, oc, out, by rw [HOL.out], HO.out, HLG.out, hb9⟩
end Go.Proofs.Ytfhgnolfhiffbaa
