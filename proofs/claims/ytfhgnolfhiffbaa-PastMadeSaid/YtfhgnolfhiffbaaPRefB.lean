/- chequerref21.depths, Depth. -/
import Derived.Test.YtfhgnolfhiffbaaPRefA
namespace Go.Proofs.Ytfhgnolfhiffbaa
open Go.RowKit Go.Maps
theorem dep_at {l : List HC} (h : Hist l) {i : Nat} {c : HC} (hc : l[i]? = some c) : dep l c.id = dN (depF (l.take i)) c.ps ∧ ∀ p, posN (idsOf l) p < i → (depF (l.take i) p).getD 0 = dep l p := by
  have hil := (List.getElem?_eq_some_iff.1 hc).1
  have hpos := h.once i c hc
  refine ⟨?_, fun p hp => ?_⟩
  · have := depF_other h (s := c.id) l.length (i + 1) (by omega) (by omega) (Nat.le_refl _)
    rw [List.take_length] at this
    unfold dep
    rw [this, depF_snoc hc]
    unfold depStep
    rw [if_pos rfl]
    rfl
  · have := depF_other h (s := p) l.length i hp (by omega) (Nat.le_refl _)
    rw [List.take_length] at this
    unfold dep
    rw [this]
def vI (d : Int) : Value := .int .i64 d
def depL (l : List HC) : List Int := l.map (fun c => dep l c.id)
theorem depL_len (l : List HC) : (depL l).length = l.length := by simp [depL]
theorem depL_get {l : List HC} {i : Nat} {c : HC} (hc : l[i]? = some c) : (depL l)[i]? = some (dep l c.id) := by simp [depL, hc]
def RDepPost (w : World) (l : List HC) (e : Ending) (w' : World) : Prop := ∃ B cap, e = .returned (.slice B l.length cap) ∧ w'.ownsRow w.heap.size 3 1 (.slice B l.length cap) l.length ((depL l).map vI) ∧ Below w.heap.size w w'
set_option maxRecDepth 100000 in
set_option maxHeartbeats 2000000 in
theorem rdepths_any (w : World) (A : Option Addr) (l : List HC) (c : Nat) (h : AtC w A l) (hh : HistIn l) :
    Calls Try.prog 35 #[.slice A l.length c] w (RDepPost w l) := by
  have hlen := hh.len
  have hmax := @run_max2 Try.prog
  go_enter Try.func35, Try.ntmps35
  go_wp2_with fail
  go_loopw [3, 4] (fun v u wr => ∃ i : Nat, i ≤ l.length ∧ u = .int .i64 i ∧ wr.ownsRow w.heap.size 3 1 v i (((depL l).take i).map vI) ∧ Below w.heap.size w wr) (fun _ u _ => l.length - (intOf u).toNat)
  case atStart => exact ⟨0, Nat.zero_le _, rfl, World.ownsRow_nil _ _ _ _, Below.refl _ _⟩
  case round =>
    obtain ⟨i, hi, rfl, hown, hb⟩ := hrel
    obtain ⟨D, dc, rfl, _, _⟩ := own_form hown
    have hsr := hb.size
    by_cases hlt : i < l.length
    · obtain ⟨y, hy⟩ : ∃ y, l[i]? = some y := ⟨_, List.getElem?_eq_getElem hlt⟩
      have hym := List.mem_of_getElem? hy
      have hatr := h.below hb
      obtain ⟨bb, oo, hAe, hcc⟩ := hatr.2.2 (by omega)
      obtain ⟨_, c1, _, _⟩ := hcc i y hy
      have hP := hatr.2.1 y hym
      have hpl := hP.1
      obtain ⟨hd0, hd1⟩ := dep_at hh.hist hy
      have HLE := Lib.hid (depF_le l i)
      have HAH := Lib.hid (hh.hist.ahead i y hy)
      have HSNOC := Lib.hid (show ((depL l).take (i + 1)).map vI = ((depL l).take i).map vI ++ [vI (dep l y.id)] by
        have e := depL_get hy
        obtain ⟨z1, z2⟩ := List.getElem?_eq_some_iff.1 e
        rw [take_snoc z1, z2, List.map_append]; rfl)
      have HD1 := Lib.hid hd1
      obtain ⟨f, hf⟩ : ∃ f, depF (l.take i) = f := ⟨_, rfl⟩
      rw [hf] at hd0 HLE HD1
      have HD0 := Lib.hid hd0
      have HF := Lib.hid hf
      clear hf hd0 hd1 hcc hy
      subst hAe
      go_wp2_with fail
      go_loopw [5, 6] (fun n u wi => ∃ j : Nat, j ≤ y.ps.length ∧ u = .int .i64 j ∧ n = .int .i64 (dN f (y.ps.take j)) ∧ wi = wr) (fun _ u _ => y.ps.length - (intOf u).toNat)
      case atStart => exact ⟨0, Nat.zero_le _, rfl, rfl, rfl⟩
      case round =>
        generalize hgen : wr = wi at *
        obtain ⟨j, hj, rfl, rfl, rfl⟩ := hrel
        have hnb := dN_le (f := f) (B := i) (by omega) HLE.out (y.ps.take j)
        by_cases hjl : j < y.ps.length
        · obtain ⟨p, hp⟩ : ∃ p, y.ps[j]? = some p := ⟨_, List.getElem?_eq_getElem hjl⟩
          obtain ⟨pa, hpa, hpc⟩ := hP.2 (by omega)
          have p0 := hpc j p hp
          have hpi := HAH.out p (List.mem_of_getElem? hp)
          obtain ⟨m, hm⟩ : ∃ m, posN (idsOf l) p = m := ⟨_, rfl⟩
          rw [hm] at hpi
          have HP := Lib.hid (show posI (idsOf l) p = (m : Int) by rw [posI_of (by rw [idsOf_len, hm]; omega), hm])
          have hml : m < l.length := by omega
          obtain ⟨z, hz, hzp⟩ := posN_id (l := l) (x := p) (by omega)
          rw [hm] at hz
          have hdz := depL_get hz
          rw [hzp] at hdz
          have hdm : (((depL l).take i).map vI)[m]? = some (.int .i64 (dep l p)) := by
            rw [List.getElem?_map, List.getElem?_take, if_pos hpi, hdz]; rfl
          obtain ⟨g, hD, hgc⟩ := own_cellN hown hdm
          have HDN := Lib.hid (dN_snoc (f := f) hp)
          have hv : 0 ≤ (f p).getD 0 ∧ (f p).getD 0 ≤ i := by
            cases hfp : f p with
            | none => simp
            | some d => have := HLE.out p d hfp; simpa using this
          have hdp := HD1.out p (by omega)
          rw [hdp] at HDN hv
          obtain ⟨d, hd⟩ : ∃ d, dep l p = d := ⟨_, rfl⟩
          obtain ⟨n, hn⟩ : ∃ n, dN f (y.ps.take j) = n := ⟨_, rfl⟩
          rw [hd] at HDN hv hgc
          rw [hn] at HDN hnb ⊢
          subst hD
          rw [hpa] at c1
          clear hpc hp hm hz hzp hdz hdm hdp hd hn hpa hP
          go_wp2_with fail
          refine (at_any _ _ l c hatr p).mono ?_
          rintro e w5 ⟨rfl, rfl⟩
          rw [HP.out]
          go_wp2_with fail
          go_roundw
          case rel => exact ⟨j + 1, by omega, by go_num, by rw [HDN.out], by first | rfl | trivial⟩
          case measure => first | (simp [intOf]; done) | (simp [intOf]; omega)
        · have hje : j = y.ps.length := by omega
          subst hje
          rw [List.take_length] at hnb ⊢
          obtain ⟨n, hn⟩ : ∃ n, dN f y.ps = n := ⟨_, rfl⟩
          rw [hn] at hnb HD0 ⊢
          clear hn
          go_wp2_with (at_builtin; refine wpList_app1 eIntP rfl rfl hown rfl rfl rfl rfl (by omega) hsr ?_; intro v1 w9 hown9 hg1 hk1; obtain ⟨A9, c9, rfl, _⟩ := own_form hown9; have hb9 := below_grown hb hown hg1 (Nat.le_refl _) hsr)
          go_roundw
          case rel => exact ⟨i + 1, by omega, by go_num, by rw [HSNOC.out, HD0.out]; exact hown9, hb9⟩
          case measure => first | (simp [intOf]; done) | (simp [intOf]; omega)
    · have hie : i = l.length := by omega
      subst hie
      rw [show (depL l).take l.length = depL l from by rw [← depL_len, List.take_length]] at hown
      go_wp2_with fail
      refine bodyPost_ret (v := .slice D l.length dc) (by simp [results, Try.f35, go_sem]) rfl ⟨D, dc, rfl, hown, hb⟩
set_option maxRecDepth 100000 in
theorem rdepth_any (w : World) (A : Option Addr) (l : List HC) (c : Nat) (h : AtC w A l) (hh : HistIn l) (x : ByteArray) :
    Calls Try.prog 25 #[.slice A l.length c, .string x] w fun e w' => e = .returned (.int .i64 (depI l x)) ∧ Below w.heap.size w w' := by
  by_cases hx : posN (idsOf l) x < l.length
  · obtain ⟨k, hk⟩ : ∃ k, posN (idsOf l) x = k := ⟨_, rfl⟩
    have hxi := mem_ids.2 hx
    obtain ⟨z, hz, hzx⟩ := posN_id hx
    rw [hk] at hz hx
    have hp : posI (idsOf l) x = (k : Int) := by rw [posI_of (by rw [idsOf_len, hk]; exact hx), hk]
    have hd := (dep_depI hxi hh.hist).1
    have hdk := depL_get hz
    rw [hzx] at hdk
    go_enter Try.func25, Try.ntmps25
    go_wp2_with fail
    refine (at_any _ A l c h x).mono ?_
    rintro e w1 ⟨rfl, rfl⟩
    rw [hp]
    go_wp2_with fail
    refine (rdepths_any _ A l c h hh).mono ?_
    rintro e w2 ⟨B, cap, rfl, hown, hb⟩
    obtain ⟨g, hB, hgc⟩ := own_cellN hown (show ((depL l).map vI)[k]? = some (.int .i64 (dep l x)) by rw [List.getElem?_map, hdk]; rfl)
    subst hB
    clear hown
    go_wp2_with fail
    go_ret
    exact ⟨by rw [hd]; rfl, hb⟩
  · have hp : posI (idsOf l) x = -1 := posI_no (by rw [idsOf_len]; exact hx)
    have hd : depI l x = -1 := by
      unfold depI
      have key : ∀ k, depF (l.take k) x = none := by
        intro k
        induction k with
        | zero => simp [depF]
        | succ k ih =>
          by_cases hkl : k < l.length
          · rw [depF_snoc (List.getElem?_eq_getElem hkl)]
            unfold depStep
            rw [if_neg, ih]
            intro e
            apply hx
            exact mem_ids.1 (by rw [e]; exact List.mem_map.2 ⟨_, List.getElem_mem hkl, rfl⟩)
          · rw [List.take_of_length_le (by omega), ← List.take_of_length_le (l := l) (i := k) (by omega)]; exact ih
      have := key l.length
      rw [List.take_length] at this
      rw [this]
      rfl
    go_enter Try.func25, Try.ntmps25
    go_wp2_with fail
    refine (at_any _ A l c h x).mono ?_
    rintro e w1 ⟨rfl, rfl⟩
    rw [hp]
    go_wp2_with fail
    go_ret
    exact ⟨by rw [hd]; rfl, Below.refl _ _⟩
end Go.Proofs.Ytfhgnolfhiffbaa
