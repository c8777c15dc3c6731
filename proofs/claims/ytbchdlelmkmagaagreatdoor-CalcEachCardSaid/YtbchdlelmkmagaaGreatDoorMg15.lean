/- CmVh CmVi CmEw Open -/
import Derived.ProofKit
import Derived.Test.YtbchdlelmkmagaaGreatDoorMg14
namespace Go.Proofs.YtbchdlelmkmagaaGreatDoor.VM
open Go
set_option linter.unusedVariables false
set_option linter.unusedSectionVars false
set_option linter.unusedSimpArgs false
set_option maxRecDepth 20000
noncomputable section
theorem findN_self {t : Sht} : ∀ {bk : Bok} {j i0 : Nat}, Rises bk → bk[j]? = some t → findN bk t.name i0 = some (i0 + j)
 | [], j, i0, _, h => by simp at h
 | s :: bk, 0, i0, hb, h => by
  simp only [List.getElem?_cons_zero, Option.some.injEq] at h
  subst h
  rw [findN, if_pos rfl]; rfl
 | s :: bk, j + 1, i0, hb, h => by
  simp only [List.getElem?_cons_succ] at h
  have hp := List.pairwise_cons.1 hb
  have hlt := hp.1 t (List.mem_of_getElem? h)
  have hne : s.name ≠ t.name := fun e => by rw [e, slt_irr] at hlt; cases hlt
  rw [findN, if_neg hne, findN_self hp.2 h]
  congr 1; omega
def getP (bk : Bok) (g : Grd) (x : Spt) : Vl := match findN bk x.s 0 with
 | some i => getG g i x.r x.c
 | none => vl0
theorem getG_set_ne (g : Grd) (i r c : Nat) (x : Vl) {j s d : Nat} (h : ¬ (j = i ∧ s = r ∧ d = c)) : getG (setG g i r c x) j s d = getG g j s d := by
 unfold getG setG
 rw [List.getElem?_modify]
 by_cases e1 : i = j
 ·subst e1
  cases hg : g[i]? with
  | none => simp
  | some rows =>
   simp only [if_true, Option.map_eq_map, Option.map_some, Option.getD_some]
   rw [List.getElem?_modify]
   by_cases e2 : r = s
   ·subst e2
    cases hr : rows[r]? with
    | none => simp
    | some row =>
     simp only [if_true, Option.map_eq_map, Option.map_some, Option.getD_some]
     rw [List.getElem?_set_ne fun e => h ⟨rfl, rfl, e.symm⟩]
   ·cases rows[s]? <;> simp [e2]
 ·cases g[j]? <;> simp [e1]
theorem getG_set_eq {g : Grd} {i r c : Nat} {x : Vl} {row : List Vl} (a : At2 g i r row) (hc : c < row.length) : getG (setG g i r c x) i r c = x := by
 obtain ⟨rows, hi, hr⟩ := a
 unfold getG setG
 rw [List.getElem?_modify, hi]
 simp only [if_true, Option.map_eq_map, Option.map_some, Option.getD_some]
 rw [List.getElem?_modify, hr]
 simp only [if_true, Option.map_eq_map, Option.map_some, Option.getD_some]
 rw [List.getElem?_set_self hc]; rfl
section
variable {bk : Bok}
theorem getP_put (hb : Rises bk) {g : Grd} (f : Fits2 bk g) {s x : Spt} (hs : s ∈ allSpots bk) (hx : x ∈ allSpots bk) (v : Vl) : getP bk (putS bk g s v) x = if x = s then v else getP bk g x := by
 obtain ⟨i, t, row, k1, k2, k3, k4, k5⟩ := at_spot hb hs
 obtain ⟨j, t', row', m1, m2, m3, m4, m5⟩ := at_spot hb hx
 obtain ⟨vr, hat, hvl⟩ := f.at2 k2 k4
 rw [putS_at k1]
 unfold getP
 rw [m1]
 by_cases e : x = s
 ·rw [if_pos e]
  subst e
  rw [k1] at m1; cases m1
  exact getG_set_eq hat (by omega)
 ·rw [if_neg e]
  apply getG_set_ne
  rintro ⟨e1, e2, e3⟩
  subst e1
  rw [k2] at m2; cases m2
  apply e
  obtain ⟨a, b, c⟩ := x
  obtain ⟨a', b', c'⟩ := s
  simp only at *
  rw [← k3, ← m3, e2, e3]
theorem cycG_fits : ∀ (L : List Spt) (g : Grd), Fits2 bk g → Fits2 bk (cycG bk L g)
 | [], g, f => f
 | s :: L, g, f => cycG_fits L _ (putS_fits f s _)
theorem ordG_fits : ∀ (L : List Spt) (g : Grd), Fits2 bk g → Fits2 bk (ordG bk L g)
 | [], g, f => f
 | s :: L, g, f => ordG_fits L _ (putS_fits f s _)
theorem ordG_app (L M : List Spt) (g : Grd) : ordG bk (L ++ M) g = ordG bk M (ordG bk L g) := by unfold ordG; rw [List.foldl_append]
theorem cyc_get (hb : Rises bk) {x : Spt} (hx : x ∈ allSpots bk) : ∀ (L : List Spt) (g : Grd), Fits2 bk g → (∀ s ∈ L, s ∈ allSpots bk) → getP bk (cycG bk L g) x = if x ∈ L then vlE 6 else getP bk g x
 | [], g, f, _ => by simp [cycG]
 | s :: L, g, f, hL => by
  have ih := cyc_get hb hx L (putS bk g s (vlE 6)) (putS_fits f s _) fun t ht => hL t (by simp [ht])
  have e : cycG bk (s :: L) g = cycG bk L (putS bk g s (vlE 6)) := rfl
  rw [e, ih, getP_put hb f (hL s (by simp)) hx]
  by_cases h1 : x ∈ L
  ·rw [if_pos h1, if_pos (by simp [h1])]
  ·rw [if_neg h1]
   by_cases h2 : x = s
   ·rw [if_pos h2, if_pos (by simp [h2])]
   ·rw [if_neg h2, if_neg (by simp [h1, h2])]
theorem ord_out (hb : Rises bk) {x : Spt} (hx : x ∈ allSpots bk) : ∀ (L : List Spt) (g : Grd), Fits2 bk g → (∀ s ∈ L, s ∈ allSpots bk) → x ∉ L → getP bk (ordG bk L g) x = getP bk g x
 | [], g, f, _, _ => rfl
 | s :: L, g, f, hL, hn => by
  have e : ordG bk (s :: L) g = ordG bk L (putS bk g s (evF bk g s)) := rfl
  rw [e, ord_out hb hx L _ (putS_fits f s _) (fun t ht => hL t (by simp [ht])) (fun q => hn (by simp [q])), getP_put hb f (hL s (by simp)) hx, if_neg fun q => hn (by simp [q])]
theorem refS_congr {g g' : Grd} {own : List Nat} {d : Nk} (H : ∀ x ∈ allSpots bk, x.s = ownS own d.s → x.r = d.r → x.c = d.c → getP bk g x = getP bk g' x) : refS bk g own d = refS bk g' own d := by
 unfold refS
 cases e : findN bk (ownS own d.s) 0 with
 | none => rfl
 | some i =>
  obtain ⟨_, t, h1, h2, _⟩ := findN_some e
  rw [Nat.sub_zero] at h1
  simp only [h1]
  cases hr : t.rows[d.r]? with
  | none => rfl
  | some row =>
   simp only
   by_cases hc : d.c < row.length
   ·rw [if_pos hc, if_pos hc]
    have := H ⟨ownS own d.s, d.r, d.c⟩ (allSpots_mem.2 ⟨t, List.mem_of_getElem? h1, h2.symm, row, hr, hc⟩) rfl rfl rfl
    unfold getP at this
    simp only [e] at this
    exact this
   ·rw [if_neg hc, if_neg hc]
theorem rowsS_congr {g g' : Grd} {i c0 c1 : Nat} : ∀ (n r : Nat), (∀ r' c', r ≤ r' → r' < r + n → c0 ≤ c' → c' < c1 → getG g i r' c' = getG g' i r' c') → rowsS g i c0 c1 n r = rowsS g' i c0 c1 n r
 | 0, r, _ => rfl
 | n + 1, r, H => by
  rw [rowsS, rowsS, rowsS_congr n (r + 1) fun r' c' h1 h2 => H r' c' (by omega) (by omega)]
  congr 1
  unfold cellsS
  apply List.map_congr_left
  intro j hj
  have := List.mem_range.1 hj
  exact H r (c0 + j) (Nat.le_refl _) (by omega) (by omega) (by omega)
theorem spanS_congr (hco : GoodRows bk) {g g' : Grd} {own : List Nat} {d : Nk} (H : ∀ x ∈ allSpots bk, x.s = ownS own d.s → d.r ≤ x.r → x.r ≤ d.r1 → d.c ≤ x.c → x.c ≤ d.c1 → getP bk g x = getP bk g' x) : spanS bk g own d = spanS bk g' own d := by
 unfold spanS
 cases e : findN bk (ownS own d.s) 0 with
 | none => rfl
 | some i =>
  obtain ⟨_, t, h1, h2, _⟩ := findN_some e
  rw [Nat.sub_zero] at h1
  simp only [h1]
  apply rowsS_congr
  intro r c k1 k2 k3 k4
  obtain ⟨row, hrow⟩ : ∃ row, t.rows[r]? = some row := ⟨_, List.getElem?_eq_getElem (by omega)⟩
  have hl := (hco t (List.mem_of_getElem? h1)).1 row (List.mem_of_getElem? hrow)
  have := H ⟨ownS own d.s, r, c⟩ (allSpots_mem.2 ⟨t, List.mem_of_getElem? h1, h2.symm, row, hrow, by simp only; omega⟩) rfl k1 (by simp only; omega) k3 (by simp only; omega)
  unfold getP at this
  simp only [e] at this
  exact this
theorem evN_congr {ns : List Nk} (hns : okNs ns = true) {g g' : Grd} {own : List Nat} (H5 : ∀ d ∈ ns, d.k = 5 → refS bk g own d = refS bk g' own d) (H6 : ∀ d ∈ ns, d.k = 6 → spanS bk g own d = spanS bk g' own d) : ∀ (f i : Nat), evN ns bk g own f i = evN ns bk g' own f i
 | 0, i => rfl
 | f + 1, i => by
  have ih := evN_congr hns H5 H6 f
  rw [evN, evN]
  cases hd : ns[i]? with
  | none => rfl
  | some d =>
   simp only
   refine ite_congr rfl (fun _ => rfl) fun h1 => ?_
   refine ite_congr rfl (fun _ => rfl) fun h2 => ?_
   refine ite_congr rfl (fun _ => rfl) fun h4 => ?_
   refine ite_congr rfl (fun h5 => H5 d (List.mem_of_getElem? hd) h5) fun h5 => ?_
   refine ite_congr rfl (fun h7 => ?_) fun h7 => ?_
   ·have hok := okNs_at hns hd
    unfold okNk at hok
    rw [if_neg (by omega), if_pos h7] at hok
    rcases hk : d.kids with _ | ⟨a, _ | ⟨b, _ | ⟨c, _ | ⟨e, l⟩⟩⟩⟩
    ·rfl
    ·simp only
     rw [hk] at hok
     simp only [Bool.and_eq_true, decide_eq_true_eq] at hok
     have h6 := hok.2.1.2
     cases ha : ns[a]? with
     | none => rfl
     | some e =>
      unfold kAt at h6
      rw [ha] at h6
      simp only
      rw [H6 e (List.mem_of_getElem? ha) h6]
    ·rfl
    ·simp only
     rw [ih a, ih b, ih c]
    ·rfl
   ·rcases hk : d.kids with _ | ⟨a, _ | ⟨b, _ | ⟨c, l⟩⟩⟩
    ·rfl
    ·rfl
    ·simp only
     rw [ih a, ih b]
    ·rfl
theorem ndsK_mem {own : List Nat} {d : Nk} {q : Rct} : ∀ {ns : List Nk} {b : Nat}, d ∈ ns → (∀ b, Nd.rect own (ndK b d) = some q) → q ∈ rectsN own (ndsK b ns)
 | [], b, h, _ => by cases h
 | e :: ns, b, h, hq => by
  have : rectsN own (ndsK b (e :: ns)) = (rectsN own [ndK b e]) ++ rectsN own (ndsK (nxK b e) ns) := by
   show rectsN own (ndK b e :: ndsK (nxK b e) ns) = _
   unfold rectsN
   rw [← List.filterMap_append]; rfl
  rw [this, List.mem_append]
  rcases List.mem_cons.1 h with rfl | h
  ·left
   unfold rectsN
   rw [List.mem_filterMap]
   exact ⟨_, by simp, hq b⟩
  ·exact .inr (ndsK_mem h hq)
theorem need_of {s x : Spt} {ns : List Nk} (hns : nksT (getC bk s) = some ns) (hx : x ∈ allSpots bk) {d : Nk} (hd : d ∈ ns) {q : Rct} (hq : ∀ b, Nd.rect s.s (ndK b d) = some q) (hh : q.has x = true) : x ∈ ndR bk s := by
 unfold ndR needsR
 refine List.mem_filter.2 ⟨hx, ?_⟩
 unfold named rectsT formR
 rw [hns]
 simp only [Option.map_some]
 exact List.any_eq_true.2 ⟨q, ndsK_mem hd hq, hh⟩
theorem evF_congr (hco : GoodRows bk) (tx : TextsIn bk) {s : Spt} {g g' : Grd} (H : ∀ x ∈ ndR bk s, getP bk g x = getP bk g' x) : evF bk g s = evF bk g' s := by
 unfold evF
 cases hns : nksT (getC bk s) with
 | none => rfl
 | some ns =>
  simp only
  have hok : okNs ns = true := List.all_eq_true.1 nodes_okNs ns (List.mem_filterMap.2 ⟨_, getC_in tx s, hns⟩)
  unfold evS
  refine evN_congr hok (fun d hd h5 => refS_congr fun x hx k1 k2 k3 => ?_) (fun d hd h6 => spanS_congr hco fun x hx k1 k2 k3 k4 k5 => ?_) _ _
  ·refine H x (need_of hns hx hd (q := ⟨ownS s.s d.s, d.r, d.c, d.r, d.c⟩) (fun b => ?_) ?_)
   ·unfold Nd.rect ndK ownS
    simp only [h5, if_true]
   ·simp [Rct.has, k1, k2, k3]
  ·refine H x (need_of hns hx hd (q := ⟨ownS s.s d.s, d.r, d.c, d.r1, d.c1⟩) (fun b => ?_) ?_)
   ·unfold Nd.rect ndK ownS
    simp only [h6, if_true]
    rfl
   ·simp [Rct.has, k1, k2, k3, k4, k5]
theorem plain_get (hb : Rises bk) {x : Spt} (hx : x ∈ allSpots bk) : getP bk (plainG bk) x = plainS (getC bk x) := by
 obtain ⟨i, t, row, k1, k2, k3, k4, k5⟩ := at_spot hb hx
 have hf := findR_some hb (List.mem_of_getElem? k2)
 rw [k3] at hf
 have hc : row[x.c]? = some row[x.c] := List.getElem?_eq_getElem k5
 unfold getP getC
 rw [k1, hf]
 simp only [k4, hc, Option.getD_some]
 refine getG_at (row := plainR row) ⟨plainH t, by unfold plainG; rw [List.getElem?_map, k2]; rfl, by unfold plainH; rw [List.getElem?_map, k4]; rfl⟩ ?_
 unfold plainR
 rw [List.getElem?_map, hc]; rfl
def eachS (bk : Bok) (x : Spt) : Vl := if x ∈ cycL bk then vlE 6 else match nksT (getC bk x) with
 | none => plainS (getC bk x)
 | some ns => evS ns bk (valsG bk) x.s
theorem each_law (gd : Good bk) (tx : TextsIn bk) (hco : GoodRows bk) {x : Spt} (hx : x ∈ allSpots bk) : getP bk (valsG bk) x = eachS bk x := by
 have hb := gd.ris
 have hp := orderR_perm (nd := ndR bk) (fCells bk).length (fCells bk) (Nat.le_refl _)
 have hnd : (ordL bk ++ cycL bk).Nodup := hp.nodup_iff.2 (fCells_ris gd).nodup
 obtain ⟨hn1, hn2, hn3⟩ := List.nodup_append.1 hnd
 have hO : ∀ s ∈ ordL bk, s ∈ allSpots bk := fun s hs => (fCells_all (ordL_in hs)).1
 have hC : ∀ s ∈ cycL bk, s ∈ allSpots bk := fun s hs => (fCells_all (cycL_in hs)).1
 have f1 := cycG_fits (cycL bk) _ (Fits2.plain bk)
 unfold eachS
 by_cases hc : x ∈ cycL bk
 ·rw [if_pos hc]
  unfold valsG
  rw [ord_out hb hx _ _ f1 hO (fun q => hn3 x q x hc rfl), cyc_get hb hx _ _ (Fits2.plain bk) hC, if_pos hc]
 ·rw [if_neg hc]
  have hcy : getP bk (cycG bk (cycL bk) (plainG bk)) x = plainS (getC bk x) := by
   rw [cyc_get hb hx _ _ (Fits2.plain bk) hC, if_neg hc, plain_get hb hx]
  cases hns : nksT (getC bk x) with
  | none =>
   have hno : x ∉ ordL bk := fun q => by
    obtain ⟨ns, e⟩ := fCells_nks (ordL_in q)
    rw [hns] at e; cases e
   simp only
   unfold valsG
   rw [ord_out hb hx _ _ f1 hO hno, hcy]
  | some ns =>
   simp only
   have hxF : x ∈ fCells bk := List.mem_filter.2 ⟨hx, by unfold hasF formR; rw [hns]; rfl⟩
   have hxO : x ∈ ordL bk := by
    rcases List.mem_append.1 (hp.mem_iff.2 hxF) with q | q
    ·exact q
    ·exact absurd q hc
   obtain ⟨k, hk⟩ := List.getElem?_of_mem hxO
   have hkl := (List.getElem?_eq_some_iff.1 hk).1
   obtain ⟨g0, hg0⟩ : ∃ g0, g0 = cycG bk (cycL bk) (plainG bk) := ⟨_, rfl⟩
   have hV : valsG bk = ordG bk ((ordL bk).drop k) (ordG bk ((ordL bk).take k) g0) := by
    rw [← ordG_app, List.take_append_drop, hg0]; rfl
   have hdrop : (ordL bk).drop k = x :: (ordL bk).drop (k + 1) := by
    rw [List.drop_eq_getElem_cons hkl, (List.getElem?_eq_some_iff.1 hk).2]
   have hndk : (x :: (ordL bk).drop (k + 1)).Nodup := by rw [← hdrop]; exact hn1.sublist (List.drop_sublist _ _)
   rw [← hg0] at f1
   have f2 : Fits2 bk (ordG bk ((ordL bk).take k) g0) := ordG_fits _ _ f1
   have hsub : ∀ s ∈ (ordL bk).drop k, s ∈ allSpots bk := fun s hs => hO s (List.mem_of_mem_drop hs)
   have h1 : getP bk (valsG bk) x = evF bk (ordG bk ((ordL bk).take k) g0) x := by
    rw [hV, hdrop]
    show getP bk (ordG bk ((ordL bk).drop (k + 1)) (putS bk (ordG bk ((ordL bk).take k) g0) x _)) x = _
    rw [ord_out hb hx _ _ (putS_fits f2 x _) (fun s hs => hO s (List.mem_of_mem_drop hs)) (List.nodup_cons.1 hndk).1, getP_put hb f2 hx hx, if_pos rfl]
   have h2 : evF bk (ordG bk ((ordL bk).take k) g0) x = evF bk (valsG bk) x := by
    refine evF_congr hco tx fun y hy => ?_
    have hya := needsR_sub hy
    have hyd : y ∉ (ordL bk).drop k := fun q => by
     have hyF : y ∈ fCells bk := ordL_in (List.mem_of_mem_drop q)
     have hyt : y ∈ (ordL bk).take k := orderR_pre _ _ k x hk y hy hyF
     have hn := hn1
     rw [← List.take_append_drop k (ordL bk)] at hn
     exact (List.nodup_append.1 hn).2.2 y hyt y q rfl
    rw [hV, ord_out hb hya _ _ f2 hsub hyd]
   rw [h1, h2]
   unfold evF
   rw [hns]
end
end
end Go.Proofs.YtbchdlelmkmagaaGreatDoor.VM
namespace Go.Proofs.YtbchdlelmkmagaaGreatDoor.VM
open Go
set_option linter.unusedVariables false
set_option linter.unusedSectionVars false
set_option linter.unusedSimpArgs false
set_option maxRecDepth 20000
noncomputable section
attribute [local instance] syZ
section
variable {bk : Bok} {M N b2 : Nat} {sv gv cv : V} {B : Nat → Nat → Nat} {sp : Nat → Prop} (Q : V → Hp → Prop)
theorem len_loop2 (hl : bk.length < 1000000) {h : Hp} (a : VS bk M N b2 sv gv B sp (valsG bk) h) (hco : GoodRows bk) {i : Nat} {t : Sht} (ht : bk[i]? = some t) (hq : L_law14_CalcEach_1 Q (.ptr b2 0) gv cv (.int .i64 ((i + 1 : Nat) : Int)) h) :
  ∀ (j r : Nat), t.rows.length - r = j → r ≤ t.rows.length → L_law14_CalcEach_2 Q (.ptr b2 0) gv cv (.int .i64 i) (.int .i64 r) h := by
 have hi := (List.getElem?_eq_some_iff.1 ht).1
 have hr1 := (hco t (List.mem_of_getElem? ht)).2.2
 obtain ⟨rows, k1, k2, k3⟩ := a.fits.2 i t ht
 obtain ⟨b, o, w, us, a1, a2, a3, a4⟩ := a.gr.sheet k1
 rw [k2] at a3
 obtain ⟨b3, o3, rv, g1, g2, g3, vs, f, ro, g4, g5⟩ := sht_get a.sh s_sl_api_Sheet l_api_Sheet ht
 intro j
 induction j with
 | zero =>
  intro r hj hr
  apply r_law14_CalcEach_2
  unfold t_law14_CalcEach_2
  rw [a1, a2, pu_len a3 s_sl_sl_api_Val, pu_lssN, decide_eq_false (by omega : ¬ r < t.rows.length), pu_cond_f, pu_inc _ _ _ _ (by omega)]
  exact hq
 | succ j ih =>
  intro r hj hr
  have hrR : r < t.rows.length := by omega
  obtain ⟨row, hrow⟩ : ∃ row, t.rows[r]? = some row := ⟨_, List.getElem?_eq_getElem hrR⟩
  obtain ⟨vr, m1, m2⟩ := k3 r row hrow
  obtain ⟨b4, o4, u, a5, a6, a7, a8⟩ := a4 r vr m1
  obtain ⟨b5, o5, w5, p1, p2, p3⟩ := rows_get g3 s_sl_sl_string l_sl_string hrow
  apply r_law14_CalcEach_2
  unfold t_law14_CalcEach_2
  rw [a1, a2, pu_len a3 s_sl_sl_api_Val, pu_lssN, decide_eq_true hrR, pu_cond_t, a1, a2, a5, a6, pu_len (leaf_rd a7 a8) s_sl_api_Val, fa_api_Book_0, pu_load1 l_sl_api_Sheet a.box (v := sv) rfl, g1, fa_api_Sheet_2, pu_load1 l_sl_sl_string g4 (g5 2 _ rfl), p1, p2, pu_len p3.1 s_sl_string, neqN, decide_eq_true m2, Bool.not_true, pu_cond_f, pu_inc _ _ _ _ (by omega)]
  exact ih (r + 1) (by omega) (by omega)
theorem len_loop1 (hl : bk.length < 1000000) {h : Hp} (a : VS bk M N b2 sv gv B sp (valsG bk) h) (hco : GoodRows bk) (hq : L_law14_CalcEach_3 Q (.ptr b2 0) gv cv (.int .i64 ((0 : Nat) : Int)) h) :
  ∀ (j i : Nat), bk.length - i = j → i ≤ bk.length → L_law14_CalcEach_1 Q (.ptr b2 0) gv cv (.int .i64 i) h := by
 obtain ⟨cs, hrd⟩ := a.sh.rd
 intro j
 induction j with
 | zero =>
  intro i hj hi
  apply r_law14_CalcEach_1
  unfold t_law14_CalcEach_1
  rw [fa_api_Book_0, pu_load1 l_sl_api_Sheet a.box (v := sv) rfl, pu_len hrd s_sl_api_Sheet, pu_lssN, decide_eq_false (by omega : ¬ i < bk.length), pu_cond_f]
  exact hq
 | succ j ih =>
  intro i hj hi
  have hiS : i < bk.length := by omega
  obtain ⟨t, ht⟩ : ∃ t, bk[i]? = some t := ⟨_, List.getElem?_eq_getElem hiS⟩
  obtain ⟨rows, k1, k2, k3⟩ := a.fits.2 i t ht
  obtain ⟨b, o, w, us, a1, a2, a3, a4⟩ := a.gr.sheet k1
  obtain ⟨b3, o3, rv, g1, g2, g3, vs, f, ro, g4, g5⟩ := sht_get a.sh s_sl_api_Sheet l_api_Sheet ht
  obtain ⟨_, hrr⟩ := g3.rd
  apply r_law14_CalcEach_1
  unfold t_law14_CalcEach_1
  rw [fa_api_Book_0, pu_load1 l_sl_api_Sheet a.box (v := sv) rfl, pu_len hrd s_sl_api_Sheet, pu_lssN, decide_eq_true hiS, pu_cond_t, a1, a2, pu_len a3 s_sl_sl_api_Val, fa_api_Book_0, pu_load1 l_sl_api_Sheet a.box (v := sv) rfl, g1, fa_api_Sheet_2, pu_load1 l_sl_sl_string g4 (g5 2 _ rfl), pu_len hrr s_sl_sl_string, neqN, decide_eq_true k2, Bool.not_true, pu_cond_f]
  exact len_loop2 Q hl a hco ht (ih (i + 1) (by omega) (by omega)) t.rows.length 0 (by omega) (Nat.zero_le _)
theorem each_loop6 (gd : Good bk) (tx : TextsIn bk) (hco : GoodRows bk) (hl : bk.length < 1000000) {hA : Hp} (a : VS bk M N b2 sv gv B sp (valsG bk) hA) (oC : OwnS 0 hA cv (cycL bk)) (hcl : (cycL bk).length < 1000000) {i r c : Nat} {t : Sht} {row : List (List Nat)} (ht : bk[i]? = some t) (hrow : t.rows[r]? = some row) (hc : c < row.length) (hc1 : c < 1000000)
  {bs bw : Nat} (d1 : hA.n ≤ bs) (d2 : hA.n ≤ bw) (d3 : bs ≠ bw) {w0 : Vl} (hw0 : w0 = match nksT (getC bk ⟨t.name, r, c⟩) with | none => plainS (getC bk ⟨t.name, r, c⟩) | some ns => evS ns bk (valsG bk) t.name)
  (hq : ∀ h', Ext hA.n hA h' → L_law14_CalcEach_5 Q (.ptr b2 0) gv cv (.int .i64 i) (.int .i64 r) (.int .i64 ((c + 1 : Nat) : Int)) h') :
  ∀ (j k : Nat), (cycL bk).length - k = j → k ≤ (cycL bk).length → ∀ h : Hp, Ext hA.n hA h → bs < h.n → bw < h.n → h.t.get bs = some (.cells (spC ⟨t.name, r, c⟩) 42 false) → h.t.get bw = some (.cells (vlC (if (⟨t.name, r, c⟩ : Spt) ∈ (cycL bk).take k then vlE 6 else w0)) 48 false) →
   L_law14_CalcEach_6 Q (.ptr b2 0) gv cv (.int .i64 i) (.int .i64 r) (.int .i64 c) (.ptr bs 0) (.ptr bw 0) (.int .i64 k) h := by
 intro j
 induction j with
 | zero =>
  intro k hj hk h x l1 l2 hbs hbw
  have hx : (⟨t.name, r, c⟩ : Spt) ∈ allSpots bk := allSpots_mem.2 ⟨t, List.mem_of_getElem? ht, rfl, row, hrow, hc⟩
  rw [List.take_of_length_le (by omega)] at hbw
  have hlaw := each_law gd tx hco hx
  have hfi := findN_self (i0 := 0) gd.ris ht
  rw [Nat.zero_add] at hfi
  unfold getP at hlaw
  simp only [hfi] at hlaw
  have e : eachS bk ⟨t.name, r, c⟩ = if (⟨t.name, r, c⟩ : Spt) ∈ cycL bk then vlE 6 else w0 := by rw [hw0]; rfl
  rw [e] at hlaw
  obtain ⟨vr, hat, hvl⟩ := a.fits.at2 ht hrow
  obtain ⟨q1, q2, q3, q4, q5, q6, p1, p2, p3, p4, p5, p6⟩ := (a.gr.keep x).row hat
  have hxx : vr[c]? = some vr[c] := List.getElem?_eq_getElem (by omega)
  rw [getG_at hat hxx] at hlaw
  apply r_law14_CalcEach_6
  unfold t_law14_CalcEach_6
  have oC' : OwnS 0 h cv (cycL bk) := oC.keep x.n fun b hb => x.old b (oC.in_ b hb)
  rw [pu_len oC'.sps s_sl_api_Spot, pu_lssN, decide_eq_false (by omega : ¬ k < (cycL bk).length), pu_cond_f, p1, p2, p3, p4, leaf_addr p5 (by omega), leaf_load p6 hxx, pu_loadS l_api_Val hbw (l := vlC (if (⟨t.name, r, c⟩ : Spt) ∈ cycL bk then vlE 6 else w0)) rfl]
  show (Pu EE).bin .neq _ _ _ (valV vr[c]) (valV (if (⟨t.name, r, c⟩ : Spt) ∈ cycL bk then vlE 6 else w0)) _
  rw [pu_vne, decide_eq_true hlaw, Bool.not_true, pu_cond_f, pu_inc _ _ _ _ (by omega)]
  exact hq h x
 | succ j ih =>
  intro k hj hk h x l1 l2 hbs hbw
  have hkC : k < (cycL bk).length := by omega
  obtain ⟨s', hs'⟩ : ∃ s', (cycL bk)[k]? = some s' := ⟨_, List.getElem?_eq_getElem hkC⟩
  have oC' : OwnS 0 h cv (cycL bk) := oC.keep x.n fun b hb => x.old b (oC.in_ b hb)
  obtain ⟨b3, o3, m1, m2, _⟩ := sps_get oC'.sps s_sl_api_Spot l_api_Spot hs'
  apply r_law14_CalcEach_6
  unfold t_law14_CalcEach_6
  rw [pu_len oC'.sps s_sl_api_Spot, pu_lssN, decide_eq_true hkC, pu_cond_t, m1, m2, pu_loadS l_api_Spot hbs (l := spC ⟨t.name, r, c⟩) rfl]
  show (Pu EE).bin .eql _ _ _ (spV s') (spV ⟨t.name, r, c⟩) _
  rw [pu_speq, pu_cond_d]
  refine ⟨fun e => ?_, fun e => ?_⟩
  ·rw [pu_build so_api_Val _ (fun p hp => by simp at hp; rcases hp with rfl | rfl <;> exact c1_int _ _) rfl]
   show (Pu EE).store h 48 (.ptr bw 0) (valV (vlE 6)) _
   refine pu_storeX l_api_Val hbw (x := valV (vlE 6)) rfl rfl (r := vlC (vlE 6)) rfl fun h8 w8 => ?_
   have n8 := w8.n
   rw [pu_inc _ _ _ _ (by omega)]
   refine ih (k + 1) (by omega) (by omega) h8 ⟨by have := x.n; omega, fun b hb => by rw [w8.other b (by omega), x.old b hb]⟩ (by omega) (by omega) (by rw [w8.other bs d3]; exact hbs) ?_
   rw [take_snoc1 hs', if_pos (by simp [e])]
   exact w8.at_
  ·rw [pu_inc _ _ _ _ (by omega)]
   refine ih (k + 1) (by omega) (by omega) h x l1 l2 hbs ?_
   have e2 : ((⟨t.name, r, c⟩ : Spt) ∈ (cycL bk).take (k + 1)) = ((⟨t.name, r, c⟩ : Spt) ∈ (cycL bk).take k) := by
    rw [take_snoc1 hs']
    simp only [List.mem_append, List.mem_singleton, eq_iff_iff]
    exact ⟨fun q => q.resolve_right fun q => e q.symm, .inl⟩
   simp only [e2]
   exact hbw
theorem each_loop5 (gd : Good bk) (tx : TextsIn bk) (hco : GoodRows bk) (hl : bk.length < 1000000) (hcl : (cycL bk).length < 1000000) {i r : Nat} {t : Sht} {row : List (List Nat)} (ht : bk[i]? = some t) (hrow : t.rows[r]? = some row) (hr1 : r < 1000000) (hrl : row.length < 1000000) {h0 : Hp}
  (hq : ∀ h', VS bk M N b2 sv gv B sp (valsG bk) h' → OwnS 0 h' cv (cycL bk) → L_law14_CalcEach_4 Q (.ptr b2 0) gv cv (.int .i64 i) (.int .i64 ((r + 1 : Nat) : Int)) h') :
  ∀ (j c : Nat), row.length - c = j → c ≤ row.length → ∀ h : Hp, VS bk M N b2 sv gv B sp (valsG bk) h → OwnS 0 h cv (cycL bk) → L_law14_CalcEach_5 Q (.ptr b2 0) gv cv (.int .i64 i) (.int .i64 r) (.int .i64 c) h := by
 intro j
 induction j with
 | zero =>
  intro c hj hc h a oC
  obtain ⟨vr, hat, hvl⟩ := a.fits.at2 ht hrow
  obtain ⟨q1, q2, q3, q4, q5, q6, p1, p2, p3, p4, p5, p6⟩ := a.gr.row hat
  apply r_law14_CalcEach_5
  unfold t_law14_CalcEach_5
  rw [p1, p2, p3, p4, pu_len (leaf_rd p5 p6) s_sl_api_Val, pu_lssN, decide_eq_false (by omega : ¬ c < vr.length), pu_cond_f, pu_inc _ _ _ _ (by omega)]
  exact hq h a oC
 | succ j ih =>
  intro c hj hc h a oC
  have hcC : c < row.length := by omega
  obtain ⟨vr, hat, hvl⟩ := a.fits.at2 ht hrow
  obtain ⟨q1, q2, q3, q4, q5, q6, p1, p2, p3, p4, p5, p6⟩ := a.gr.row hat
  obtain ⟨b3, o3, rv, g1, g2, g3, vs, f, ro, g4, g5⟩ := sht_get a.sh s_sl_api_Sheet l_api_Sheet ht
  have htx := getC_in tx ⟨t.name, r, c⟩
  apply r_law14_CalcEach_5
  unfold t_law14_CalcEach_5
  rw [p1, p2, p3, p4, pu_len (leaf_rd p5 p6) s_sl_api_Val, pu_lssN, decide_eq_true (by omega : c < vr.length), pu_cond_t, fa_api_Book_0, pu_load1 l_sl_api_Sheet a.box (v := sv) rfl, g1, fa_api_Sheet_0, pu_load1 l_string g4 (g5 0 _ rfl), mk_spot]
  refine pu_allocX l_api_Spot fun h14 bs w14 => ?_
  have n14 := w14.n
  have e14 := w14.b
  refine pu_storeX l_api_Spot w14.at_ (x := spV ⟨t.name, r, c⟩) rfl rfl (r := spC ⟨t.name, r, c⟩) rfl fun h16 w16 => ?_
  have n16 := w16.n
  have X16 : Ext h.n h h16 := ⟨by omega, fun b hb => by rw [w16.other b (by omega), w14.old b hb]⟩
  have a16 := a.keep X16
  rw [pu_loadS l_api_Book a16.box (l := [sv]) rfl, pu_loadS l_api_Spot w16.at_ (l := spC ⟨t.name, r, c⟩) rfl]
  refine (rget_ok M h16 _ bk ⟨t.name, r, c⟩ ⟨sv, rfl, a16.sh⟩ (Nat.le_trans a16.mN a16.nh) hl).mono ?_
  rintro y h20 ⟨rfl, x20⟩
  have n20 := x20.n
  refine (form_okB hook_R htx h20).mono ?_
  rintro y h22 ⟨x22, hf⟩
  have n22 := x22.n
  have hs22 : h22.t.get bs = some (.cells (spC ⟨t.name, r, c⟩) 42 false) := by rw [x22.old bs (by omega), x20.old bs (by omega)]; exact w16.at_
  have a22 := (a16.keep x20).keep x22
  have key : ∀ (lv : V) (ok : Bool), y = .tup [lv, .bool ok] → (ok = (nksT (getC bk ⟨t.name, r, c⟩)).isSome) → (∀ ns, nksT (getC bk ⟨t.name, r, c⟩) = some ns → lv = lvK h20.n ns ∧ NdC h22 h20.n ns) → (Pu EE).extr y 0 fun x23 => (Pu EE).extr y 1 fun x24 =>
    (Pu EE).load h22 26 (.ptr b2 0) fun x25 => (Pu EE).load h22 42 (.ptr bs 0) fun x26 => (Pu EE).call 12 [x25, x26] h22 fun x27 h28 => (Pu EE).call 13 [x27] h28 fun x29 h30 => (Pu EE).alloc h30 48 fun x31 h32 b33 => (Pu EE).store h32 48 x31 x29 fun h34 =>
    (Pu EE).cond x24 (fun _ => (Pu EE).faddr 42 (.ptr bs 0) 0 fun x35 => (Pu EE).load h34 9 x35 fun x36 => (Pu EE).load h34 26 (.ptr b2 0) fun x37 => (Pu EE).call 14 [x23, x36, x37, gv] h34 fun x38 h39 => (Pu EE).store h39 48 x31 x38 fun h40 => L_law14_CalcEach_7 Q (.ptr b2 0) gv cv (.int .i64 i) (.int .i64 r) (.int .i64 c) (.ptr bs 0) x31 h40)
     (fun _ => L_law14_CalcEach_7 Q (.ptr b2 0) gv cv (.int .i64 i) (.int .i64 r) (.int .i64 c) (.ptr bs 0) x31 h34) := by
   rintro lv ok rfl hok hnd
   rw [pu_extr0, pu_extr1, pu_loadS l_api_Book a22.box (l := [sv]) rfl, pu_loadS l_api_Spot hs22 (l := spC ⟨t.name, r, c⟩) rfl]
   refine (rget_ok M h22 _ bk ⟨t.name, r, c⟩ ⟨sv, rfl, a22.sh⟩ (Nat.le_trans a22.mN a22.nh) hl).mono ?_
   rintro y h28 ⟨rfl, x28⟩
   have n28 := x28.n
   refine (plain_ok hook_plB htx h28).mono ?_
   rintro y h30 ⟨rfl, x30⟩
   have n30 := x30.n
   refine pu_allocX l_api_Val fun h32 bw w32 => ?_
   have n32 := w32.n
   have e32 := w32.b
   refine pu_storeX l_api_Val w32.at_ (x := valV (plainS (getC bk ⟨t.name, r, c⟩))) rfl rfl (r := vlC (plainS (getC bk ⟨t.name, r, c⟩))) rfl fun h34 w34 => ?_
   have n34 := w34.n
   have X34 : Ext h22.n h22 h34 := ⟨by omega, fun b hb => by rw [w34.other b (by omega), w32.old b (by omega), x30.old b (by omega), x28.old b hb]⟩
   have XA : Ext h.n h h34 := X16.trans ((x20.mono (by omega)).trans ((x22.mono (by omega)).trans (X34.mono (by omega))))
   have hs34 : h34.t.get bs = some (.cells (spC ⟨t.name, r, c⟩) 42 false) := (X34.old bs (by omega)).trans hs22
   have a34 := a22.keep X34
   have fin : ∀ (h40 : Hp) (w0 : Vl), w0 = (match nksT (getC bk ⟨t.name, r, c⟩) with | none => plainS (getC bk ⟨t.name, r, c⟩) | some ns => evS ns bk (valsG bk) t.name) → Ext h.n h h40 → bs < h40.n → bw < h40.n → h40.t.get bs = some (.cells (spC ⟨t.name, r, c⟩) 42 false) → h40.t.get bw = some (.cells (vlC w0) 48 false) → L_law14_CalcEach_7 Q (.ptr b2 0) gv cv (.int .i64 i) (.int .i64 r) (.int .i64 c) (.ptr bs 0) (.ptr bw 0) h40 := by
    intro h40 w0 hw0 X40 l1 l2 k1 k2
    apply r_law14_CalcEach_7
    unfold t_law14_CalcEach_7
    refine each_loop6 Q gd tx hco hl a oC hcl ht hrow hcC (by omega) (bs := bs) (bw := bw) (by omega) (by omega) (by omega) hw0 (fun h' X' => ih (c + 1) (by omega) (by omega) h' (a.keep X') (oC.keep X'.n fun b hb => X'.old b (oC.in_ b hb))) (cycL bk).length 0 (by omega) (Nat.zero_le _) h40 X40 l1 l2 k1 ?_
    rw [List.take_zero, if_neg (by simp)]
    exact k2
   cases hns : nksT (getC bk ⟨t.name, r, c⟩) with
   | none =>
    rw [hns] at hok
    subst hok
    show (Pu EE).cond (.bool false) _ _
    rw [pu_cond_f]
    exact fin h34 _ (by rw [hns]) XA (by omega) (by omega) hs34 w34.at_
   | some ns =>
    rw [hns] at hok
    subst hok
    obtain ⟨rfl, nd⟩ := hnd ns hns
    have hnL : ns ∈ nodesL := List.mem_filterMap.2 ⟨_, htx, hns⟩
    have cx : NCx M h20.n ns sv gv bk (valsG bk) h34 := ⟨a34.ev hl, nd.ext X34⟩
    show (Pu EE).cond (.bool true) _ _
    rw [pu_cond_t, fa_api_Spot_0, pu_load1 l_string hs34 (v := .str t.name) rfl, pu_loadS l_api_Book a34.box (l := [sv]) rfl]
    refine (eval_ok t.name hnL hco cx).mono ?_
    rintro y h39 ⟨rfl, x39⟩
    have n39 := x39.n
    have hw39 : h39.t.get bw = some (.cells (vlC (plainS (getC bk ⟨t.name, r, c⟩))) 48 false) := (x39.old bw (by omega)).trans w34.at_
    refine pu_storeX l_api_Val hw39 (x := valV (evS ns bk (valsG bk) t.name)) rfl rfl (r := vlC (evS ns bk (valsG bk) t.name)) rfl fun h40 w40 => ?_
    have n40 := w40.n
    exact fin h40 _ (by rw [hns]) ⟨by have := XA.n; omega, fun b hb => by rw [w40.other b (by omega), x39.old b (by omega), XA.old b hb]⟩ (by omega) (by omega) (by rw [w40.other bs (by omega), x39.old bs (by omega)]; exact hs34) w40.at_
  cases hns : nksT (getC bk ⟨t.name, r, c⟩) with
  | none =>
   rw [hns] at hf
   exact key .nils false hf (by rw [hns]; rfl) fun ns e => by rw [hns] at e; cases e
  | some ns =>
   rw [hns] at hf
   obtain ⟨e1, nb, nn⟩ := hf
   exact key _ true e1 (by rw [hns]; rfl) fun ns' e => by rw [hns] at e; cases e; exact ⟨rfl, ⟨nb, nn⟩⟩
theorem each_loop4 (gd : Good bk) (tx : TextsIn bk) (hco : GoodRows bk) (hl : bk.length < 1000000) (hcl : (cycL bk).length < 1000000) {i : Nat} {t : Sht} (ht : bk[i]? = some t)
  (hq : ∀ h', VS bk M N b2 sv gv B sp (valsG bk) h' → OwnS 0 h' cv (cycL bk) → L_law14_CalcEach_3 Q (.ptr b2 0) gv cv (.int .i64 ((i + 1 : Nat) : Int)) h') :
  ∀ (j r : Nat), t.rows.length - r = j → r ≤ t.rows.length → ∀ h : Hp, VS bk M N b2 sv gv B sp (valsG bk) h → OwnS 0 h cv (cycL bk) → L_law14_CalcEach_4 Q (.ptr b2 0) gv cv (.int .i64 i) (.int .i64 r) h := by
 have hi := (List.getElem?_eq_some_iff.1 ht).1
 obtain ⟨hc1, hc2, hr1⟩ := hco t (List.mem_of_getElem? ht)
 intro j
 induction j with
 | zero =>
  intro r hj hr h a oC
  obtain ⟨rows, k1, k2, k3⟩ := a.fits.2 i t ht
  obtain ⟨b, o, w, us, a1, a2, a3, a4⟩ := a.gr.sheet k1
  apply r_law14_CalcEach_4
  unfold t_law14_CalcEach_4
  rw [a1, a2, pu_len a3 s_sl_sl_api_Val, pu_lssN, decide_eq_false (by omega : ¬ r < rows.length), pu_cond_f, pu_inc _ _ _ _ (by omega)]
  exact hq h a oC
 | succ j ih =>
  intro r hj hr h a oC
  obtain ⟨rows, k1, k2, k3⟩ := a.fits.2 i t ht
  obtain ⟨b, o, w, us, a1, a2, a3, a4⟩ := a.gr.sheet k1
  obtain ⟨row, hrow⟩ : ∃ row, t.rows[r]? = some row := ⟨_, List.getElem?_eq_getElem (by omega)⟩
  have := hc1 row (List.mem_of_getElem? hrow)
  apply r_law14_CalcEach_4
  unfold t_law14_CalcEach_4
  rw [a1, a2, pu_len a3 s_sl_sl_api_Val, pu_lssN, decide_eq_true (by omega : r < rows.length), pu_cond_t]
  exact each_loop5 Q gd tx hco hl hcl ht hrow (by omega) (by omega) (h0 := h) (fun h' a' o' => ih (r + 1) (by omega) (by omega) h' a' o') row.length 0 (by omega) (Nat.zero_le _) h a oC
theorem each_loop3 (gd : Good bk) (tx : TextsIn bk) (hco : GoodRows bk) (hl : bk.length < 1000000) (hcl : (cycL bk).length < 1000000) (hq : ∀ h', Q (.bool true) h') :
  ∀ (j i : Nat), bk.length - i = j → i ≤ bk.length → ∀ h : Hp, VS bk M N b2 sv gv B sp (valsG bk) h → OwnS 0 h cv (cycL bk) → L_law14_CalcEach_3 Q (.ptr b2 0) gv cv (.int .i64 i) h := by
 intro j
 induction j with
 | zero =>
  intro i hj hi h a oC
  obtain ⟨cs, hrd⟩ := a.sh.rd
  apply r_law14_CalcEach_3
  unfold t_law14_CalcEach_3
  rw [fa_api_Book_0, pu_load1 l_sl_api_Sheet a.box (v := sv) rfl, pu_len hrd s_sl_api_Sheet, pu_lssN, decide_eq_false (by omega : ¬ i < bk.length), pu_cond_f]
  refine (awake_any h).mono ?_
  rintro x h' rfl
  exact hq h'
 | succ j ih =>
  intro i hj hi h a oC
  obtain ⟨cs, hrd⟩ := a.sh.rd
  obtain ⟨t, ht⟩ : ∃ t, bk[i]? = some t := ⟨_, List.getElem?_eq_getElem (by omega)⟩
  apply r_law14_CalcEach_3
  unfold t_law14_CalcEach_3
  rw [fa_api_Book_0, pu_load1 l_sl_api_Sheet a.box (v := sv) rfl, pu_len hrd s_sl_api_Sheet, pu_lssN, decide_eq_true (by omega : i < bk.length), pu_cond_t]
  exact each_loop4 Q gd tx hco hl hcl ht (fun h' a' o' => ih (i + 1) (by omega) (by omega) h' a' o') t.rows.length 0 (by omega) (Nat.zero_le _) h a oC
end
theorem each_ok {h : Hp} {v0 : V} {ns : List Nat} {sh : Nat} (rd : Rd h 1 v0 ns.length (ns.map fun (n : Nat) => V.int .u8 (n : Int))) (in_ : In h.n v0) (lt : ∀ n ∈ ns, n < 256) (hsh : sh < 256) :
  Ans EE 4 [v0, .int .u8 sh] h fun x _ => x = .bool true := by
 apply a_law14_CalcEach
 unfold t_law14_CalcEach_0
 rw [pu_len rd s_sl_uint8, show (60 : Int) = ((60 : Nat) : Int) from rfl, gtrN, pu_cond_d]
 refine ⟨fun _ => awake_any h, fun hlen => ?_⟩
 have hg := book_good (sh := sh) lt
 have sm := book_sm (sh := sh) lt
 have hS := sm.len
 refine (book_ok hsh ⟨rfl, rd, in_, lt, by omega⟩).mono ?_
 rintro bv h1 ⟨hb1, x1⟩
 obtain ⟨sv, rfl, hs1⟩ := hb1
 obtain ⟨cs, hrd1⟩ := hs1.rd
 have cS := hrd1.c1
 refine pu_allocX l_api_Book fun h2 b2 w2 => ?_
 refine pu_storeX l_api_Book w2.at_ (x := .agg [sv]) rfl (cells1 cS.2) (r := [sv]) rfl fun h3 w3 => ?_
 have n2 := w2.n
 have n3 := w3.n
 have e2 := w2.b
 have X3 : Ext h1.n h1 h3 := ⟨by omega, fun c hc => by rw [w3.other c (by omega), w2.old c hc]⟩
 have hs3 : ShsAt h1.n h3 sv (bookT ns sh) := hs1.ext X3
 rw [pu_loadS l_api_Book w3.at_ (l := [sv]) rfl]
 refine (values_ok h1.n h3 sv (bookT ns sh) hs3 (by omega) hg (book_mays lt hsh) (fun s _ => book_few lt s) sm book_rowsOK).mono ?_
 rintro gv h4 ⟨N0, B0, s0, p1, p2, G0, F0, M0, x4⟩
 have n4 := x4.n
 have hb4 : h4.t.get b2 = some (.cells [sv] 26 false) := by rw [x4.old b2 (by omega)]; exact w3.at_
 have hs4 : ShsAt h1.n h4 sv (bookT ns sh) := hs3.ext (x4.mono (by omega))
 obtain ⟨_, hrd4⟩ := hs4.rd
 obtain ⟨_, hgv⟩ := G0.rd
 rw [F0.1] at hgv
 rw [pu_len hgv s_sl_sl_sl_api_Val, fa_api_Book_0, pu_load1 l_sl_api_Sheet hb4 (v := sv) rfl, pu_len hrd4 s_sl_api_Sheet, neqN, decide_eq_true rfl, Bool.not_true, pu_cond_f, pu_loadS l_api_Book hb4 (l := [sv]) rfl]
 have a4 : VS (bookT ns sh) h1.n N0 b2 sv gv B0 s0 (valsG (bookT ns sh)) h4 := ⟨hb4, by omega, hs4, G0, by omega, p2, F0, M0⟩
 refine (dorder_own h1.n h4 _ (bookT ns sh) ⟨sv, rfl, hs4⟩ (by omega) hg (book_mays lt hsh) fun s _ => book_few lt s).mono ?_
 rintro y h5 ⟨ov, cv, rfl, oO, oC, x5⟩
 rw [pu_extr0, pu_extr1]
 have hFl := fCells_len hg
 have hlens : (cycL (bookT ns sh)).length ≤ 100000 := by
  have := (orderR_perm (nd := ndR (bookT ns sh)) (fCells (bookT ns sh)).length (fCells (bookT ns sh)) (Nat.le_refl _)).length_eq
  rw [List.length_append] at this
  unfold cycL
  omega
 have a5 := a4.keep x5
 exact len_loop1 _ (by omega) a5 book_rowsOK (each_loop3 _ hg sm.txt book_rowsOK (by omega) (by omega) (fun _ => rfl) (bookT ns sh).length 0 (by omega) (Nat.zero_le _) h5 a5 oC) (bookT ns sh).length 0 (by omega) (Nat.zero_le _)
end
end Go.Proofs.YtbchdlelmkmagaaGreatDoor.VM
namespace Go.Proofs.YtbchdlelmkmagaaGreatDoor
open Go Go.RowKit VM
set_option linter.unusedVariables false
set_option maxRecDepth 20000
theorem calcEach_walk (W : World) (A0 : Option Addr) (l0 : List UInt8) (c0 : Nat) (n1 : Int) (h0 : At1 vByte W A0 l0) (w1 : (Lit.int .u8 n1).wf = true) (htabs : Tabs W) :
  Calls Tryz.prog 4 #[.slice A0 l0.length c0, .int .u8 n1] W fun e W' => e = .returned (.bool true) ∧ Below W.heap.size W W' := by
 simp [Lit.wf, IntKind.min, IntKind.max, IntKind.signed, IntKind.bits] at w1
 obtain ⟨obj, o2, hG, hW⟩ := glOK_of htabs
 letI := syE obj o2
 obtain ⟨cs, h, σ, hcs, O⟩ := opened_all W hW (blocksOf A0 l0) fun b hb => blocks_ok h0 b hb
 obtain ⟨v0, r0, d0, i0⟩ := opened_list (g := fun x => V.int .u8 (x.toNat : Int)) told_byte O (c := c0) h0 fun b hb => hcs b hb
 obtain ⟨sh, rfl⟩ := Int.eq_ofNat_of_zero_le w1.1
 have A := each_ok (sh := sh) (rd_of d0) (in_of d0 i0) (u8_lt l0) (by omega)
 refine (calls_of_ans hG Tryz.func4 (by kernel_rfl) A O.rel (.cons _ _ _ _ r0 (.cons _ _ _ _ (.int _ _) .nil))).mono ?_
 rintro e W' ⟨v, h', x, rfl, rfl, σ', _, _, hr, _, hb⟩
 cases hr
 exact ⟨rfl, hb⟩
end Go.Proofs.YtbchdlelmkmagaaGreatDoor
namespace Go.Proofs.YtbchdlelmkmagaaGreatDoor
open Go.ChangeShapes Go.WideShapes Go.ChangeAt Go.RowKit
section
variable {H : Type} {enc : TypeId × Value → H} {P : Program} {w : World} {base : Nat} {spare : Nat → Bool} {held : Bool} {r : Reach} {b0 : Nat} {t e : TypeId} {v : Value} {d : DataW H} {p : List MemPlace}
theorem getElem?_take_getD {α : Type} {l : List α} {n i : Nat} {x y : α} (h : (l.take n)[i]? = some x) : i < l.length ∧ l.getD i y = x := by
 rw [List.getElem?_take] at h
 split at h
 ·obtain ⟨h1, h2⟩ := List.getElem?_eq_some_iff.1 h
  exact ⟨h1, by simp [List.getD, h]⟩
 ·cases h
theorem open_ints_at {k : IntKind} (ht : P.underlying t = some (.slice e)) (he : P.underlying e = some (.int k)) (hc : P.cellsOf e = 1) (hval : Value.okWide P w r b0 t v) (h : DataW.Trod enc P w base spare held t v d p) :
  ∃ A c zs, v = .slice A zs.length c ∧ At1 (Value.int k) w A zs ∧ (∀ n ∈ zs, (Lit.int k n).wf = true) := by
 obtain ⟨a, len, cap, rfl⟩ := okWide_slice ht hval
 obtain ⟨fuel, hf⟩ := h
 rcases open_ints ht he hc hf with ⟨hcs, _⟩ | ⟨x, l, c, zs, hcs, _, hl, hm, hz, _, hcell, hwz⟩
 ·simp [Value.cells] at hcs
  obtain ⟨rfl, rfl, rfl⟩ := hcs
  exact ⟨none, 0, [], rfl, At1.nil _ _ _, by simp⟩
 ·simp [Value.cells] at hcs
  obtain ⟨rfl, rfl, rfl⟩ := hcs
  have hz' : len ≤ zs.length := by rw [hz]; split <;> omega
  refine ⟨some x, cap, zs.take len, by rw [List.length_take, Nat.min_eq_left hz'], ⟨?_, fun _ => ⟨x, rfl, fun i y hy => ?_⟩⟩, fun n hn => hwz n (List.mem_of_mem_take hn)⟩
  ·rw [List.length_take]; unfold maxLen at hm; omega
  ·obtain ⟨h1, h2⟩ := getElem?_take_getD (y := 0) hy
   rw [hcell i h1, h2]
theorem open_bytes_at (ht : P.underlying t = some (.slice e)) (he : P.underlying e = some (.int .u8)) (hc : P.cellsOf e = 1) (hval : Value.okWide P w r b0 t v) (h : DataW.Trod enc P w base spare held t v d p) :
  ∃ A c ns, v = .slice A ns.length c ∧ At1 vByte w A ns := by
 obtain ⟨A, c, zs, rfl, h1, h2⟩ := open_ints_at ht he hc hval h
 refine ⟨A, c, zs.map fun n => UInt8.ofNat n.toNat, by simp, by simpa using h1.1, fun hn => ?_⟩
 obtain ⟨ad, rfl, hcell⟩ := h1.2 (by simpa using hn)
 refine ⟨ad, rfl, fun i x hx => ?_⟩
 rw [List.getElem?_map] at hx
 cases hz : zs[i]? with
 | none => rw [hz] at hx; cases hx
 | some z =>
  rw [hz] at hx
  injection hx with hx
  subst hx
  have hw := h2 z (List.mem_of_getElem? hz)
  simp [Lit.wf, IntKind.min, IntKind.max, IntKind.signed, IntKind.bits] at hw
  rw [hcell i z hz]
  have hlt : z.toNat < 256 := by omega
  show some (Value.int .u8 z) = some (Value.int .u8 ((UInt8.ofNat z.toNat).toNat : Int))
  rw [UInt8.toNat_ofNat_of_lt' hlt]
  congr 2
  omega
end
end Go.Proofs.YtbchdlelmkmagaaGreatDoor
