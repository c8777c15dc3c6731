/- (fun.call).concat. Written by funconcatgen.py. -/
import Derived.Test.YtcbaioagcemmnaaDoorFunMore
import Derived.Laws.BytesArg
import Derived.Test.YtcbaioagcemmnaaDoorValText
import Derived.Lib.AppendStr
namespace Go.Proofs.YtcbaioagcemmnaaDoor
open Go.RowKit Go.Maps
/-- 'string(b)' -/
theorem run_str_con {P : Program} {src dst e : TypeId} (hs : P.underlying src = some (.slice e)) (he : P.underlying e = some (.int .u8)) (hd : P.underlying dst = some .string) {w : World} {A : Option Addr} {l : List UInt8} {n c : Nat} (hn : n = l.length) (h : At1 vByte w A l) :
    (convert src dst (.slice A n c)).run P w = .ok (.string ⟨l.toArray⟩) w := by
  subst hn
  by_cases h0 : l = []
  · subst h0
    rcases A with _ | ad
    · exact run_convert_bytes_nil (P := P) w src e hs he 0 c dst hd
    · exact run_convert_bytes_back (P := P) w src dst e ad c [] hs he hd (fun j hj => absurd hj (by simp))
  · obtain ⟨ad, rfl, hc⟩ := h.2 (List.length_pos_iff.2 h0)
    exact run_convert_bytes_back (P := P) w src dst e ad c l hs he hd (fun j hj => hc j _ (List.getElem?_eq_getElem hj))
theorem byteInfo : (Tryd.prog.info? 5).map (fun i => (i.zero, i.size, i.bytes)) = some (some (.int .u8 0), 1, 1) := by kernel_rfl
/-- the texts of values, one behind the other -/
def ctexts (l : List V3) : List UInt8 := l.flatMap fun v => (vtext v).data.toList
theorem ctexts_app (a b : List V3) : ctexts (a ++ b) = ctexts a ++ ctexts b := by simp [ctexts]
theorem ctexts_one (v : V3) : ctexts [v] = (vtext v).data.toList := by simp [ctexts]
theorem ctexts_le {l : List V3} {m : Nat} (h : ∀ v ∈ l, (vtext v).size ≤ m) : (ctexts l).length ≤ m * l.length := by
  induction l with
  | nil => simp [ctexts]
  | cons x r ih =>
    have e : ctexts (x :: r) = (vtext x).data.toList ++ ctexts r := by simp [ctexts]
    rw [e, List.length_append, List.length_cons, Nat.mul_add]
    have h1 := h x (by simp)
    have h2 := ih (fun v hv => h v (by simp [hv]))
    have h3 : (vtext x).data.toList.length = (vtext x).size := by rw [Array.length_toList]; rfl
    omega
set_option maxRecDepth 100000 in
set_option maxHeartbeats 4000000 in
theorem concat_any (w : World) (A : Option Addr) (args : List FArg) (c : Nat) (hA : AtA w A args) (hT : Tab w) (hk : ∀ a ∈ args, ∀ v ∈ FArg.vs a, InR v.2.1 ∧ (vtext v).size ≤ 1000) (hmany : (args.flatMap FArg.vs).length ≤ 1000000) :
    Calls Tryd.prog 31 #[.agg #[.slice A args.length c]] w fun e w' => e = .returned (vv (vstr ⟨(ctexts (args.flatMap FArg.vs)).toArray⟩)) ∧ Below w.heap.size w w' := by
  obtain ⟨ti, hi, hz, hsize, hby⟩ := info_parts byteInfo
  have HK := Lib.hid hk
  have hml := Lib.hid hmany
  have hall : ∀ l : List V3, (∀ v ∈ l, v ∈ args.flatMap FArg.vs) → l.length ≤ 1000000 → (ctexts l).length ≤ 1000000000 := by
    intro l hl hn
    have h1 := ctexts_le (l := l) (m := 1000) (fun v hv => by
      obtain ⟨a, ha, hva⟩ := List.mem_flatMap.1 (hl v hv)
      exact (hk a ha v hva).2)
    omega
  have HALL := Lib.hid hall
  clear hk hmany hall
  have hb0 := ((Below.refl w.heap.size w).alloc (Nat.le_refl _) (.cells #[.slice A args.length c] 44)).alloc (by simp) (.cells #[.int .i64 0, .int .i64 0, .string ⟨#[]⟩] 31)
  have hX : ((w.alloc (.cells #[.slice A args.length c] 44)).alloc (.cells #[.int .i64 0, .int .i64 0, .string ⟨#[]⟩] 31)).heap[w.heap.size + 1]? = some (.cells #[.int .i64 0, .int .i64 0, .string ⟨#[]⟩] 31 (0, 0)) := by rw [← World.size_alloc w (.cells #[.slice A args.length c] 44)]; exact heap_alloc_new _ _
  have hA1 := hA.below hb0
  have hT1 := hT.on hb0
  have hbnd := hA.1
  go_enter Tryd.func31, Tryd.ntmps31
  go_wp2_with fail
  obtain ⟨W, hW⟩ : ∃ W, W = (w.alloc (.cells #[.slice A args.length c] 44)).alloc (.cells #[.int .i64 0, .int .i64 0, .string ⟨#[]⟩] 31) := ⟨_, rfl⟩
  rw [← hW] at hb0 hA1 hX hT1 ⊢
  obtain ⟨R, hR⟩ : ∃ R, w.heap.size + 1 = R := ⟨_, rfl⟩
  rw [hR] at hX ⊢
  have hRl : w.heap.size ≤ R := by omega
  clear hW hR hT
  go_loopw [3, 11] (fun v u wr => ∃ k : Nat, k ≤ args.length ∧ u = .int .i64 k ∧ wr.ownsRow W.heap.size 5 1 v (ctexts ((args.take k).flatMap FArg.vs)).length ((ctexts ((args.take k).flatMap FArg.vs)).map vByte) ∧ Below W.heap.size W wr) (fun _ u _ => args.length - (intOf u).toNat)
  case atStart => exact ⟨0, Nat.zero_le _, rfl, World.ownsRow_nil _ _ _ _, Below.refl _ _⟩
  case round =>
    obtain ⟨k, hk, rfl, hown, hbr⟩ := hrel
    obtain ⟨B, cb, rfl, _, _⟩ := own_form hown
    have hsr := hbr.size
    by_cases hlt : k < args.length
    · have hi1 := Lib.hid (show k + 1 ≤ args.length by omega)
      have hi2 := Lib.hid (show args.length - (k + 1) < args.length - k by omega)
      have hAr := hA1.below hbr
      obtain ⟨b, o, hAe, hcells⟩ := hAr.2.2 (by omega)
      obtain ⟨x, hx⟩ : ∃ x, args[k]? = some x := ⟨_, List.getElem?_eq_getElem hlt⟩
      obtain ⟨c0, c1, c2⟩ := hcells k x hx
      have hm := List.mem_of_getElem? hx
      have hav := hA1.2.1 x hm
      have hkx := Lib.hid (HK.out x hm)
      have htk := Lib.hid (flat_take hx)
      have hcnt : ∀ j, (ctexts ((args.take k).flatMap FArg.vs ++ x.vs.take j)).length ≤ 1000000000 := fun j => by
        refine HALL.out _ (fun v hv => ?_) ?_
        · rcases List.mem_append.1 hv with hv | hv
          · obtain ⟨a, ha, hva⟩ := List.mem_flatMap.1 hv
            exact List.mem_flatMap.2 ⟨a, List.mem_of_mem_take ha, hva⟩
          · exact List.mem_flatMap.2 ⟨x, hm, List.mem_of_mem_take hv⟩
        · have h1 : ((args.take (k + 1)).flatMap FArg.vs).length ≤ (args.flatMap FArg.vs).length := by
            conv => rhs; rw [← List.take_append_drop (k + 1) args]
            rw [List.flatMap_append, List.length_append]
            omega
          rw [flat_take hx, List.length_append] at h1
          have := hml.out
          rw [List.length_append, List.length_take]
          omega
      have hcnt := Lib.hid hcnt
      obtain ⟨xr, xc, xA, xv, xcap⟩ := x
      simp only at c0 c1 c2 hav hkx htk hcnt
      subst hAe
      clear hcells hAr
      obtain ⟨L, hL⟩ : ∃ L, L = (args.take k).flatMap FArg.vs := ⟨_, rfl⟩
      rw [← hL] at hown htk hcnt ⊢
      have hvl := hav.1
      have hbE := hbr.alloc hsr (.cells #[.bool xr, .int .i64 xc, .slice xA xv.length xcap] 27)
      have hoE := hown.alloc (.cells #[.bool xr, .int .i64 xc, .slice xA xv.length xcap] 27)
      clear hL hown
      obtain ⟨nL, hnL⟩ : ∃ nL, (ctexts L).length = nL := ⟨_, rfl⟩
      rw [hnL] at hoE ⊢
      go_wp2_with fail
      obtain ⟨we, hwe⟩ : ∃ we, we = wr.alloc (.cells #[.bool xr, .int .i64 xc, .slice xA xv.length xcap] 27) := ⟨_, rfl⟩
      rw [← hwe] at hbE hoE ⊢
      clear hwe
      go_loopw [3, 18] (fun v u wi => ∃ j : Nat, j ≤ xv.length ∧ u = .int .i64 j ∧ wi.ownsRow W.heap.size 5 1 v (ctexts (L ++ xv.take j)).length ((ctexts (L ++ xv.take j)).map vByte) ∧ Below W.heap.size W wi) (fun _ u _ => xv.length - (intOf u).toNat)
      case atStart => exact ⟨0, Nat.zero_le _, rfl, by rw [List.take_zero, List.append_nil, hnL]; exact hoE, hbE⟩
      case round =>
        generalize wr = wi at *
        obtain ⟨j, hj, rfl, hown2, hbi⟩ := hrel
        obtain ⟨B2, cb2, rfl, _, _⟩ := own_form hown2
        have hsi := hbi.size
        clear hoE hbE
        by_cases hlt3 : j < xv.length
        · have hj1 := Lib.hid (show j + 1 ≤ xv.length by omega)
          have hj2 := Lib.hid (show xv.length - (j + 1) < xv.length - j by omega)
          obtain ⟨b2, o2, hAe2, hcells2⟩ := (hav.below hbi).2 (by omega)
          obtain ⟨y, hy⟩ : ∃ y, xv[j]? = some y := ⟨_, List.getElem?_eq_getElem hlt3⟩
          obtain ⟨d0, d1, d2⟩ := hcells2 j y hy
          have hky := hkx.out y (List.mem_of_getElem? hy)
          have hc9 := hcnt.out j
          have e2 : ctexts (L ++ xv.take (j + 1)) = ctexts (L ++ xv.take j) ++ (vtext y).data.toList := by rw [val_take hy, ← List.append_assoc, ctexts_app, ctexts_one]
          obtain ⟨yk, yn, ys⟩ := y
          simp only at d0 d1 d2 hky e2
          obtain ⟨hky1, hky2⟩ := hky
          subst hAe2
          obtain ⟨M, hM⟩ : ∃ M, ctexts (L ++ xv.take j) = M := ⟨_, rfl⟩
          rw [hM] at hown2 hc9 e2 ⊢
          have E2 := Lib.hid e2
          obtain ⟨m, hm9⟩ : ∃ m, M.length = m := ⟨_, rfl⟩
          rw [hm9] at hown2 hc9 ⊢
          have HM := Lib.hid hm9
          have hTI : Tab wi := hT1.on hbi
          have hown3 := hown2.alloc (.cells #[.int .i64 yk, .int .i64 yn, .string ys] 31)
          have hb3 := hbi.alloc hsi (.cells #[.int .i64 yk, .int .i64 yn, .string ys] 31)
          have hs3 := hb3.size
          have hT3 : Tab (wi.alloc (.cells #[.int .i64 yk, .int .i64 yn, .string ys] 31)) := hTI.on ((Below.refl _ _).alloc (Nat.le_refl _) _)
          have TX := Lib.hid (text_any (wi.alloc (.cells #[.int .i64 yk, .int .i64 yn, .string ys] 31)) yk yn ys hky1 hT3)
          obtain ⟨t, ht⟩ : ∃ t, vtext (yk, yn, ys) = t := ⟨_, rfl⟩
          rw [ht] at TX E2 hky2
          clear hM e2 hm9 hy hcells2 hown2 hbi hTI hT3 ht
          go_wp2_with fail
          refine TX.out.mono ?_
          rintro e w4 ⟨rfl, hb4⟩
          have hown4 := own_below hown3 hb4
          have hb5 := hb3.trans (hb4.mono hs3)
          have hs5 := hb5.size
          clear hown3 hb3 hb4 TX d0 d1 d2
          go_wp2_with (at_builtin; refine Lib.wpList_append_own_string _ rfl _ _ 52 9 rfl W.heap.size 5 ti Tryd.underlying52 Tryd.underlying9 hi hz hsize hby _ _ _ rfl hown4 t rfl (by unfold maxLen; omega) (by omega) hs5 ?_; intro v1 w9 hown9 hg1 hk1; obtain ⟨A9, c9, rfl, _⟩ := own_form hown9)
          go_roundw
          case rel =>
            refine ⟨j + 1, hj1.out, by go_num, ?_, below_grown hb5 hown4 hg1 (Nat.le_refl _) hs5⟩
            rw [E2.out, List.length_append, List.map_append, HM.out]
            exact hown9
          case measure => first | (simp [intOf]; done) | exact hj2.out | (have := hj2.out; simp [intOf]; omega)
        · have hje : j = xv.length := by omega
          subst hje
          rw [List.take_length, ← htk.out] at hown2
          rw [List.take_length, ← htk.out]
          have HO := Lib.hid hown2
          clear hown2
          go_wp2
          go_roundw
          case rel => exact ⟨k + 1, hi1.out, by go_num, HO.out, hbi⟩
          case measure => first | (simp [intOf]; done) | exact hi2.out | (have := hi2.out; simp [intOf]; omega)
    · have hie : k = args.length := by omega
      subst hie
      rw [List.take_length] at hown ⊢
      have hc9 := HALL.out _ (fun v hv => hv) hml.out
      obtain ⟨L, hL⟩ : ∃ L, ctexts (args.flatMap FArg.vs) = L := ⟨_, rfl⟩
      rw [hL] at hown hc9 ⊢
      have HL := Lib.hid hL
      have hstr := run_str_con (P := Tryd.prog) (src := 52) (dst := 9) (c := cb) Tryd.underlying52 Tryd.underlying5 Tryd.underlying9 rfl (At1.of_own hown (by omega))
      have hXr := (hbr.block R (Array.getElem?_eq_some_iff.1 hX).1).trans hX
      have hbz := hb0.trans (hbr.mono hb0.size)
      have HRL := Lib.hid hRl
      clear hbr hX hown hL
      go_wp2_with fail
      refine (str_any _ _).mono ?_
      rintro e w5 ⟨rfl, hb5⟩
      obtain ⟨sk, sn, ss, hs9⟩ : ∃ sk sn ss, vstr ⟨L.toArray⟩ = (sk, sn, ss) := ⟨_, _, _, rfl⟩
      rw [hs9]
      have HS9 := Lib.hid hs9
      simp only [vv]
      have hX5 := (hb5.block R (Array.getElem?_eq_some_iff.1 hXr).1).trans hXr
      have hb6 := hbz.trans (hb5.mono hbz.size)
      clear hXr hbz hb5 hs9 hstr
      obtain ⟨v0, v1, v2, z0, z1, z2⟩ := val3 hX5
      go_wp2
      have hz := val_store (x := .int .i64 sk) (y := .int .i64 sn) (z := .string ss) hX5
      obtain ⟨u0, u1, u2, _⟩ := val3 hz
      refine bodyPost_ret (v := .agg #[.int .i64 sk, .int .i64 sn, .string ss]) ?_ rfl ?_
      · simp [results, Tryd.f31, go_sem, u0, u1, u2]
      · exact ⟨by rw [HL.out, HS9.out], ((hb6.setCell (p := ⟨R, 0, none⟩) HRL.out _).setCell (p := ⟨R, 1, none⟩) HRL.out _).setCell (p := ⟨R, 2, none⟩) HRL.out _⟩
end Go.Proofs.YtcbaioagcemmnaaDoor
