/- chequerlaw13.DepsOrder, by labels. · chequerlaw13.DepsOrder at worlds: it answers true. · A law's arguments opened: what came in reads as lists. No program in sight. -/
import Derived.ProofKit
import Derived.Test.YtlllhhjlfmhmlaaGreatDoorMg12
namespace Go.Proofs.YtlllhhjlfmhmlaaGreatDoor.VM
open Go
set_option linter.unusedVariables false
set_option linter.unusedSectionVars false
set_option linter.unusedSimpArgs false
set_option maxRecDepth 20000
noncomputable section
attribute [local instance] syZ
theorem pu_gval_u (w : Bool) (f : (V → Prop) → Prop) (k : V → Prop) : (Pu EE).gval undefV w f k ↔ k undefV := by
  show (∃ c, wantV undefV w = some c ∧ (c = true → f k) ∧ (c = false → k undefV)) ↔ _
  simp [wantV, undefV]
theorem pu_geff_u (w : Bool) (f : (V → Hp → Prop) → Prop) (h : Hp) (k : V → Hp → Prop) : (Pu EE).geff undefV w f h k ↔ k undefV h := by
  show (∃ c, wantV undefV w = some c ∧ (c = true → f k) ∧ (c = false → k undefV h)) ↔ _
  simp [wantV, undefV]
theorem formR_bool {t : List Nat} (ht : TextIs t) (h : Hp) : Ans EE 16 [.str t] h fun v h' => (∃ x, v = .tup [x, .bool (formR t).isSome]) ∧ Ext h.n h h' := by
  refine (rform_ok ht h).mono ?_
  rintro v h' ⟨x, hm⟩
  refine ⟨?_, x⟩
  cases e : formR t with
  | none => rw [e] at hm; exact ⟨.nils, hm⟩
  | some ds => rw [e] at hm; obtain ⟨sv, ds', rfl, _⟩ := hm; exact ⟨sv, rfl⟩
/-- what DepsOrder stands on -/
structure OX (bk : Bok) (g : Hp) (M b2 : Nat) (sv ov cv av : V) (O C : List Spt) : Prop where
  good : Good bk
  few : ∀ s, Few bk s
  box : g.t.get b2 = some (.cells [sv] 24 false)
  b2 : b2 < g.n
  shs : ShsAt M g sv bk
  M : M ≤ g.n
  so : Sps g ov O
  io : In g.n ov
  sc : Sps g cv C
  ic : In g.n cv
  sa : Sps g av (allSpots bk)
  ia : In g.n av
  eO : O = (orderR (ndR bk) (fCells bk).length (fCells bk)).1
  eC : C = (orderR (ndR bk) (fCells bk).length (fCells bk)).2
section
variable {bk : Bok} {g : Hp} {M b2 : Nat} {sv ov cv av : V} {O C : List Spt}
theorem OX.perm (X : OX bk g M b2 sv ov cv av O C) : (O ++ C).Perm (fCells bk) := by rw [X.eO, X.eC]; exact orderR_perm _ _ (Nat.le_refl _)
theorem OX.len (X : OX bk g M b2 sv ov cv av O C) : O.length + C.length = (fCells bk).length := by have := X.perm.length_eq; rw [List.length_append] at this; exact this
theorem OX.nodup (X : OX bk g M b2 sv ov cv av O C) : (O ++ C).Nodup := X.perm.nodup_iff.2 (fCells_ris X.good).nodup
theorem hasF_of {bk : Bok} {s : Spt} (h : s ∈ fCells bk) : hasF bk s = true := (List.mem_filter.1 h).2
theorem OX.memO (X : OX bk g M b2 sv ov cv av O C) {s : Spt} (h : s ∈ O) : s ∈ fCells bk := X.perm.mem_iff.1 (List.mem_append_left _ h)
theorem OX.book (X : OX bk g M b2 sv ov cv av O C) {h : Hp} (e : Ext g.n g h) (q : V → Prop) : (Pu EE).load h 24 (.ptr b2 0) q ↔ q (.agg [sv]) := pu_loadS l_api_Book (l := [sv]) (by rw [e.old b2 X.b2]; exact X.box) rfl q
theorem OX.bok (X : OX bk g M b2 sv ov cv av O C) {h : Hp} (e : Ext g.n g h) : BokAt M h (.agg [sv]) bk := ⟨sv, rfl, X.shs.ext (e.mono X.M)⟩
/-- a cell's text, and whether it is a formula -/
theorem OX.look (X : OX bk g M b2 sv ov cv av O C) {h : Hp} (e : Ext g.n g h) (s : Spt) {q : V → Hp → Prop} (hq : ∀ x h', Ext h.n h h' → q (.tup [x, .bool (hasF bk s)]) h') :
    Ans EE 17 [.agg [sv], spV s] h fun x h' => Ans EE 16 [x] h' q := by
  have en := e.n
  have hM := X.M
  refine (rget_ok M h _ bk s (X.bok e) (by omega) X.good.fit.len).mono ?_
  rintro x h1 ⟨rfl, x1⟩
  have n1 := x1.n
  refine (formR_bool (X.good.get s) h1).mono ?_
  rintro v h2 ⟨⟨y, rfl⟩, x2⟩
  exact hq y h2 (x1.trans (x2.mono n1))
theorem count_loop1 (Q : V → Hp → Prop) (X : OX bk g M b2 sv ov cv av O C) (hq : ∀ h, Ext g.n g h → L_law13_DepsOrder_2 Q (.ptr b2 0) ov cv (.int .i64 (0 : Nat)) h) :
    ∀ (j i : Nat), (allSpots bk).length - i = j → i ≤ (allSpots bk).length → ∀ h : Hp, Ext g.n g h → L_law13_DepsOrder_1 Q (.ptr b2 0) ov cv av (.int .i64 (((allSpots bk).take i).filter (hasF bk)).length) (.int .i64 i) h := by
  have hfit := X.good.fit.spots
  intro j
  induction j with
  | zero =>
    intro i hj hi h e
    apply r_law13_DepsOrder_1
    unfold t_law13_DepsOrder_1
    rw [pu_len (X.sa.ext e X.ia) s_sl_api_Spot, pu_lssN, decide_eq_false (by omega : ¬ i < (allSpots bk).length), pu_cond_f, pu_len (X.so.ext e X.io) s_sl_api_Spot, pu_len (X.sc.ext e X.ic) s_sl_api_Spot]
    have hl := X.len
    have hF := fCells_len X.good
    rw [addN _ _ (by omega), neqN, List.take_of_length_le (by omega)]
    have hz : O.length + C.length = ((allSpots bk).filter (hasF bk)).length := hl
    rw [decide_eq_true hz, Bool.not_true, pu_cond_f]
    exact hq h e
  | succ j ih =>
    intro i hj hi h e
    have hii : i < (allSpots bk).length := by omega
    obtain ⟨s, hs⟩ : ∃ s, (allSpots bk)[i]? = some s := ⟨_, List.getElem?_eq_getElem hii⟩
    apply r_law13_DepsOrder_1
    unfold t_law13_DepsOrder_1
    rw [pu_len (X.sa.ext e X.ia) s_sl_api_Spot, pu_lssN, decide_eq_true hii, pu_cond_t, X.book e]
    obtain ⟨b3, o3, g1, g2, _⟩ := sps_get (X.sa.ext e X.ia) s_sl_api_Spot l_api_Spot hs
    rw [g1, g2]
    refine X.look e s fun x h1 x1 => ?_
    have en := e.n
    have e1 := e.trans (x1.mono en)
    have hfl : (((allSpots bk).take i).filter (hasF bk)).length ≤ 100000 := Nat.le_trans (List.length_filter_le _ _) (by rw [List.length_take]; omega)
    rw [pu_extr0, pu_extr1]
    have hn := ih (i + 1) (by omega) (by omega) h1 e1
    rw [take_snoc' hs, List.filter_append, List.length_append] at hn
    cases hf : hasF bk s with
    | true =>
      rw [pu_cond_t, pu_inc _ _ _ _ (by omega), pu_inc _ _ _ _ (by omega)]
      rw [List.filter_cons_of_pos hf] at hn
      exact hn
    | false =>
      rw [pu_cond_f, pu_inc _ _ _ _ (by omega)]
      rw [List.filter_cons_of_neg (by rw [hf]; decide)] at hn
      exact hn
theorem atI_lt {l : List Spt} {s : Spt} {k : Nat} (h : s ∈ l.take k) : ∃ j : Nat, atI l s = (j : Int) ∧ j < k := by
  obtain ⟨j, h1, h2⟩ := atR_lt (i := 0) h
  refine ⟨j, ?_, h2⟩
  unfold atI
  rw [h1, Nat.zero_add]
theorem atI_ge (l : List Spt) (s : Spt) : decide (0 ≤ atI l s) = l.contains s := by
  unfold atI
  rw [Bool.eq_iff_iff, decide_eq_true_iff, List.contains_iff_mem]
  cases e : atR l s 0 with
  | none =>
    have := atR_none.1 e
    simp [this]
  | some j =>
    have : s ∈ l := by
      by_cases h : s ∈ l
      · exact h
      · have := (atR_none (i := 0)).2 h
        rw [e] at this; cases this
    simp [this]
theorem pre_loop3 (Q : V → Hp → Prop) (X : OX bk g M b2 sv ov cv av O C) {i : Nat} {s : Spt} (hs : O[i]? = some s) {nv : V} {gn : Hp} (xg : Ext g.n g gn) (hnv : Sps gn nv (ndR bk s)) (inv : In gn.n nv)
    (hq : ∀ h, Ext g.n g h → L_law13_DepsOrder_2 Q (.ptr b2 0) ov cv (.int .i64 (i + 1 : Nat)) h) :
    ∀ (j k : Nat), (ndR bk s).length - k = j → k ≤ (ndR bk s).length → ∀ h : Hp, Ext gn.n gn h → L_law13_DepsOrder_3 Q (.ptr b2 0) ov cv (.int .i64 i) nv (.int .i64 k) h := by
  have hnl := ndR_len X.good s
  have hgn := xg.n
  have hl := X.len
  have hFl := fCells_len X.good
  have hil := (List.getElem?_eq_some_iff.1 hs).1
  intro j
  induction j with
  | zero =>
    intro k hj hk h e
    apply r_law13_DepsOrder_3
    unfold t_law13_DepsOrder_3
    rw [pu_len (hnv.ext e inv) s_sl_api_Spot, pu_lssN, decide_eq_false (by omega : ¬ k < (ndR bk s).length), pu_cond_f, pu_inc _ _ _ _ (by omega)]
    exact hq h (xg.trans (e.mono hgn))
  | succ j ih =>
    intro k hj hk h e
    have en := e.n
    have E0 := xg.trans (e.mono hgn)
    have hkk : k < (ndR bk s).length := by omega
    obtain ⟨n, hn⟩ : ∃ n, (ndR bk s)[k]? = some n := ⟨_, List.getElem?_eq_getElem hkk⟩
    apply r_law13_DepsOrder_3
    unfold t_law13_DepsOrder_3
    rw [pu_len (hnv.ext e inv) s_sl_api_Spot, pu_lssN, decide_eq_true hkk, pu_cond_t, X.book E0]
    obtain ⟨b3, o3, g1, g2, _⟩ := sps_get (hnv.ext e inv) s_sl_api_Spot l_api_Spot hn
    rw [g1, g2]
    refine X.look E0 n fun x h1 x1 => ?_
    have n1 := x1.n
    have e1 := e.trans (x1.mono en)
    have E1 := xg.trans (e1.mono hgn)
    rw [pu_extr0, pu_extr1]
    cases hf : hasF bk n with
    | true =>
      simp only [pu_gval_y, pu_geff_y]
      obtain ⟨b4, o4, g3, g4, _⟩ := sps_get (hnv.ext e1 inv) s_sl_api_Spot l_api_Spot hn
      rw [g3, g4]
      have hnF : n ∈ fCells bk := List.mem_filter.2 ⟨needsR_sub (List.mem_of_getElem? hn), hf⟩
      have hnO : n ∈ O.take i := by
        have := X.eO
        subst this
        exact orderR_pre _ _ _ _ hs n (List.mem_of_getElem? hn) hnF
      obtain ⟨a, ha, hai⟩ := atI_lt hnO
      refine (at_ok g.n h1 ov O n (X.so.ext E1 X.io) (X.io.mono E1.n) (by omega)).mono ?_
      rintro y h2 ⟨rfl, x2⟩
      have n2 := x2.n
      have e2 := e1.trans (x2.mono (by omega))
      have E2 := xg.trans (e2.mono hgn)
      rw [ha, pu_lss, decide_eq_false (by omega : ¬ (a : Int) < 0)]
      simp only [pu_gval_y, pu_geff_y]
      obtain ⟨b5, o5, g5, g6, _⟩ := sps_get (hnv.ext e2 inv) s_sl_api_Spot l_api_Spot hn
      rw [g5, g6]
      refine (at_ok g.n h2 ov O n (X.so.ext E2 X.io) (X.io.mono E2.n) (by omega)).mono ?_
      rintro y h3 ⟨rfl, x3⟩
      rw [ha, geqN, decide_eq_false (by omega : ¬ i ≤ a), pu_pick_f, pu_pick_t, pu_cond_f, pu_inc _ _ _ _ (by omega)]
      exact ih (k + 1) (by omega) (by omega) h3 (e2.trans (x3.mono (by omega)))
    | false =>
      simp only [pu_gval_ft, pu_geff_ft, pu_gval_u, pu_geff_u]
      rw [pu_pick_f, pu_cond_f, pu_inc _ _ _ _ (by omega)]
      exact ih (k + 1) (by omega) (by omega) h1 e1
theorem each_loop2 (Q : V → Hp → Prop) (X : OX bk g M b2 sv ov cv av O C) (hq : ∀ h, Ext g.n g h → L_law13_DepsOrder_4 Q (.ptr b2 0) cv (.int .i64 (0 : Nat)) h) :
    ∀ (j i : Nat), O.length - i = j → i ≤ O.length → ∀ h : Hp, Ext g.n g h → L_law13_DepsOrder_2 Q (.ptr b2 0) ov cv (.int .i64 i) h := by
  have hl := X.len
  have hFl := fCells_len X.good
  have hM := X.M
  intro j
  induction j with
  | zero =>
    intro i hj hi h e
    apply r_law13_DepsOrder_2
    unfold t_law13_DepsOrder_2
    rw [pu_len (X.so.ext e X.io) s_sl_api_Spot, pu_lssN, decide_eq_false (by omega : ¬ i < O.length), pu_cond_f]
    exact hq h e
  | succ j ih =>
    intro i hj hi h e
    have en := e.n
    have hii : i < O.length := by omega
    obtain ⟨s, hs⟩ : ∃ s, O[i]? = some s := ⟨_, List.getElem?_eq_getElem hii⟩
    apply r_law13_DepsOrder_2
    unfold t_law13_DepsOrder_2
    rw [pu_len (X.so.ext e X.io) s_sl_api_Spot, pu_lssN, decide_eq_true hii, pu_cond_t, X.book e]
    obtain ⟨b3, o3, g1, g2, _⟩ := sps_get (X.so.ext e X.io) s_sl_api_Spot l_api_Spot hs
    rw [g1, g2]
    refine X.look e s fun x h1 x1 => ?_
    have n1 := x1.n
    have e1 := e.trans (x1.mono en)
    rw [pu_extr0, pu_extr1, hasF_of (X.memO (List.mem_of_getElem? hs)), pu_not, Bool.not_true]
    simp only [pu_gval_y, pu_geff_y]
    obtain ⟨b4, o4, g3, g4, _⟩ := sps_get (X.so.ext e1 X.io) s_sl_api_Spot l_api_Spot hs
    rw [g3, g4]
    have hat : atI O s = (i : Int) := by
      have hOn := (List.nodup_append.1 X.nodup).1
      unfold atI
      rw [atR_self (i := 0) hOn hs, Nat.zero_add]
    refine (at_ok g.n h1 ov O s (X.so.ext e1 X.io) (X.io.mono e1.n) (by omega)).mono ?_
    rintro y h2 ⟨rfl, x2⟩
    have n2 := x2.n
    have e2 := e1.trans (x2.mono (by omega))
    rw [hat, neqN, decide_eq_true rfl, Bool.not_true, pu_pick_f, pu_cond_f, X.book e2]
    obtain ⟨b5, o5, g5, g6, _⟩ := sps_get (X.so.ext e2 X.io) s_sl_api_Spot l_api_Spot hs
    rw [g5, g6]
    refine (dneeds_ok M h2 _ bk s (X.bok e2) (by omega) X.good (X.few s)).mono ?_
    rintro nv h3 ⟨o6, x3⟩
    have n3 := x3.n
    exact pre_loop3 Q X hs (e2.trans (x3.mono (by omega))) o6.sps o6.in_ (fun h' e' => ih (i + 1) (by omega) (by omega) h' e') (ndR bk s).length 0 (by omega) (Nat.zero_le _) h3 (Ext.refl _ _)
theorem some_loop5 (Q : V → Hp → Prop) (X : OX bk g M b2 sv ov cv av O C) {i : Nat} {s : Spt} (hs : C[i]? = some s) {nv : V} {gn : Hp} (xg : Ext g.n g gn) (hnv : Sps gn nv (ndR bk s)) (inv : In gn.n nv)
    (hq : ∀ h, Ext g.n g h → L_law13_DepsOrder_4 Q (.ptr b2 0) cv (.int .i64 (i + 1 : Nat)) h) :
    ∀ (j k : Nat), (ndR bk s).length - k = j → k ≤ (ndR bk s).length → ∀ h : Hp, Ext gn.n gn h → L_law13_DepsOrder_5 Q (.ptr b2 0) cv (.int .i64 i) nv (.bool (((ndR bk s).take k).any fun n => C.contains n)) (.int .i64 k) h := by
  have hnl := ndR_len X.good s
  have hgn := xg.n
  have hl := X.len
  have hFl := fCells_len X.good
  have hil := (List.getElem?_eq_some_iff.1 hs).1
  intro j
  induction j with
  | zero =>
    intro k hj hk h e
    have en := e.n
    have E0 := xg.trans (e.mono hgn)
    have hall : ((ndR bk s).take k).any (fun n => C.contains n) = true := by
      rw [List.take_of_length_le (by omega)]
      have hC := X.eC
      have := orderR_left (nd := ndR bk) (fCells bk).length (fCells bk) (Nat.le_refl _) s (by rw [← hC]; exact List.mem_of_getElem? hs)
      rw [← hC] at this
      exact this
    apply r_law13_DepsOrder_5
    unfold t_law13_DepsOrder_5
    rw [pu_len (hnv.ext e inv) s_sl_api_Spot, pu_lssN, decide_eq_false (by omega : ¬ k < (ndR bk s).length), pu_cond_f, hall, pu_not, Bool.not_true]
    simp only [pu_gval_y]
    rw [gtr0]
    by_cases hi0 : 0 < i
    · rw [decide_eq_true hi0]
      simp only [pu_gval_y, pu_geff_y]
      obtain ⟨a, ha⟩ : ∃ a, C[i - 1]? = some a := ⟨_, List.getElem?_eq_getElem (by omega)⟩
      rw [sub1 hi0 (by omega)]
      obtain ⟨b3, o3, g1, g2, _⟩ := sps_get (X.sc.ext E0 X.ic) s_sl_api_Spot l_api_Spot ha
      obtain ⟨b4, o4, g3, g4, _⟩ := sps_get (X.sc.ext E0 X.ic) s_sl_api_Spot l_api_Spot hs
      rw [g1, g2, g3, g4]
      have hlt : spLt a s = true := by
        have hris : Ris C := by rw [X.eC]; exact (fCells_ris X.good).sub (orderR_sub _ _)
        obtain ⟨q1, q2⟩ := List.getElem?_eq_some_iff.1 ha
        obtain ⟨q3, q4⟩ := List.getElem?_eq_some_iff.1 hs
        have := List.pairwise_iff_getElem.1 hris (i - 1) i q1 q3 (by omega)
        rw [q2, q4] at this
        exact this
      refine (cmp_ok a s h).mono ?_
      rintro y h1 ⟨rfl, x1⟩
      have hz := (cmp_lt a s).2 hlt
      rw [pu_geq, decide_eq_false (by omega : ¬ (0 : Int) ≤ spCmpZ a s), pu_pick_t, pu_pick_f, pu_cond_f, pu_inc _ _ _ _ (by omega)]
      exact hq h1 (E0.trans (x1.mono E0.n))
    · rw [decide_eq_false hi0]
      simp only [pu_gval_ft, pu_geff_ft]
      rw [pu_pick_f, pu_pick_f, pu_cond_f, pu_inc _ _ _ _ (by omega)]
      exact hq h E0
  | succ j ih =>
    intro k hj hk h e
    have en := e.n
    have E0 := xg.trans (e.mono hgn)
    have hkk : k < (ndR bk s).length := by omega
    obtain ⟨n, hn⟩ : ∃ n, (ndR bk s)[k]? = some n := ⟨_, List.getElem?_eq_getElem hkk⟩
    apply r_law13_DepsOrder_5
    unfold t_law13_DepsOrder_5
    rw [pu_len (hnv.ext e inv) s_sl_api_Spot, pu_lssN, decide_eq_true hkk, pu_cond_t]
    have hnext : ((ndR bk s).take (k + 1)).any (fun n => C.contains n) = (((ndR bk s).take k).any (fun n => C.contains n) || C.contains n) := by
      rw [take_snoc' hn, List.any_append]; simp
    have hn2 := ih (k + 1) (by omega) (by omega)
    rw [hnext] at hn2
    cases hacc : ((ndR bk s).take k).any (fun n => C.contains n) with
    | true =>
      simp only [pu_gval_tf, pu_geff_tf]
      rw [pu_pick_t, pu_inc _ _ _ _ (by omega)]
      rw [hacc, Bool.true_or] at hn2
      exact hn2 h e
    | false =>
      simp only [pu_gval_y, pu_geff_y]
      obtain ⟨b3, o3, g1, g2, _⟩ := sps_get (hnv.ext e inv) s_sl_api_Spot l_api_Spot hn
      rw [g1, g2]
      refine (at_ok g.n h cv C n (X.sc.ext E0 X.ic) (X.ic.mono E0.n) (by omega)).mono ?_
      rintro y h1 ⟨rfl, x1⟩
      rw [pu_geq, atI_ge, pu_pick_f, pu_inc _ _ _ _ (by omega)]
      rw [hacc, Bool.false_or] at hn2
      exact hn2 h1 (e.trans (x1.mono en))
theorem cyc_loop4 (X : OX bk g M b2 sv ov cv av O C) : ∀ (j i : Nat), C.length - i = j → i ≤ C.length → ∀ h : Hp, Ext g.n g h → L_law13_DepsOrder_4 (fun x _ => x = .bool true) (.ptr b2 0) cv (.int .i64 i) h := by
  have hM := X.M
  intro j
  induction j with
  | zero =>
    intro i hj hi h e
    apply r_law13_DepsOrder_4
    unfold t_law13_DepsOrder_4
    rw [pu_len (X.sc.ext e X.ic) s_sl_api_Spot, pu_lssN, decide_eq_false (by omega : ¬ i < C.length), pu_cond_f]
    exact awake_any h
  | succ j ih =>
    intro i hj hi h e
    have en := e.n
    have hii : i < C.length := by omega
    obtain ⟨s, hs⟩ : ∃ s, C[i]? = some s := ⟨_, List.getElem?_eq_getElem hii⟩
    apply r_law13_DepsOrder_4
    unfold t_law13_DepsOrder_4
    rw [pu_len (X.sc.ext e X.ic) s_sl_api_Spot, pu_lssN, decide_eq_true hii, pu_cond_t, X.book e]
    obtain ⟨b3, o3, g1, g2, _⟩ := sps_get (X.sc.ext e X.ic) s_sl_api_Spot l_api_Spot hs
    rw [g1, g2]
    refine (dneeds_ok M h _ bk s (X.bok e) (by omega) X.good (X.few s)).mono ?_
    rintro nv h3 ⟨o6, x3⟩
    have n3 := x3.n
    have := some_loop5 _ X hs (e.trans (x3.mono en)) o6.sps o6.in_ (fun h' e' => ih (i + 1) (by omega) (by omega) h' e') (ndR bk s).length 0 (by omega) (Nat.zero_le _) h3 (Ext.refl _ _)
    rw [List.take_zero] at this
    exact this
end
theorem order_ok {h : Hp} {v0 : V} {ns : List Nat} {sh : Nat} (rd : Rd h 1 v0 ns.length (ns.map fun (n : Nat) => V.int .u8 (n : Int))) (in_ : In h.n v0) (lt : ∀ n ∈ ns, n < 256) (hsh : sh < 256) :
    Ans EE 5 [v0, .int .u8 sh] h fun x _ => x = .bool true := by
  apply a_law13_DepsOrder
  unfold t_law13_DepsOrder_0
  rw [pu_len rd s_sl_uint8, show (80 : Int) = ((80 : Nat) : Int) from rfl, gtrN, pu_cond_d]
  refine ⟨fun _ => awake_any h, fun hlen => ?_⟩
  have hg := book_good (sh := sh) lt
  refine (book_ok hsh ⟨rfl, rd, in_, lt, by omega⟩).mono ?_
  rintro bv h1 ⟨hb1, x1⟩
  obtain ⟨sv, rfl, hs1⟩ := hb1
  obtain ⟨cs, hrd1⟩ := hs1.rd
  have cS := hrd1.c1
  refine pu_allocX l_api_Book fun h2 b2 w2 => ?_
  refine pu_storeX l_api_Book w2.at_ (x := .agg [sv]) rfl (cells1 cS.2) (r := [sv]) rfl fun h3 w3 => ?_
  have n2 := w2.n
  have n3 := w3.n
  have e2 := w2.b
  have X3 : Ext h1.n h1 h3 := ⟨by omega, fun c hc => by rw [w3.other c (by omega), w2.old c hc]⟩
  have hs3 : ShsAt h1.n h3 sv (bookT ns sh) := hs1.ext X3
  rw [pu_loadS l_api_Book w3.at_ (l := [sv]) rfl]
  refine (dorder_ok h1.n h3 _ (bookT ns sh) ⟨sv, rfl, hs3⟩ (by omega) hg (book_mays lt hsh) fun s _ => book_few lt s).mono ?_
  rintro x h7 ⟨ov, cv, rfl, ho7, hc7, io7, ic7, x7⟩
  have n7 := x7.n
  rw [pu_extr0, pu_extr1]
  have hb7 : h7.t.get b2 = some (.cells [sv] 24 false) := by rw [x7.old b2 (by omega)]; exact w3.at_
  have hs7 : ShsAt h1.n h7 sv (bookT ns sh) := hs3.ext (x7.mono (by omega))
  rw [pu_loadS l_api_Book hb7 (l := [sv]) rfl]
  refine (all_ok h1.n h7 _ (bookT ns sh) ⟨sv, rfl, hs7⟩ (by omega) hg.fit).mono ?_
  rintro av h8 ⟨o8, x8⟩
  have n8 := x8.n
  have X : OX (bookT ns sh) h8 h1.n b2 sv ov cv av _ _ := ⟨hg, fun s => book_few lt s, by rw [x8.old b2 (by omega)]; exact hb7, by omega, hs7.ext (x8.mono (by omega)), by omega, ho7.ext x8 io7, io7.mono n8, hc7.ext x8 ic7, ic7.mono n8, o8.sps, o8.in_, rfl, rfl⟩
  have := count_loop1 (fun x _ => x = .bool true) X (fun h' e' => each_loop2 _ X (fun h'' e'' => cyc_loop4 X _ 0 rfl (Nat.zero_le _) h'' e'') _ 0 rfl (Nat.zero_le _) h' e') (allSpots (bookT ns sh)).length 0 (by omega) (Nat.zero_le _) h8 (Ext.refl _ _)
  rw [List.take_zero] at this
  exact this
end
end Go.Proofs.YtlllhhjlfmhmlaaGreatDoor.VM
namespace Go.Proofs.YtlllhhjlfmhmlaaGreatDoor
open Go Go.RowKit VM
set_option linter.unusedVariables false
set_option maxRecDepth 20000
theorem depsOrder_walk (W : World) (A0 : Option Addr) (l0 : List UInt8) (c0 : Nat) (n1 : Int) (h0 : At1 vByte W A0 l0) (w1 : (Lit.int .u8 n1).wf = true) (htabs : Tabs W) :
    Calls Tryz.prog 5 #[.slice A0 l0.length c0, .int .u8 n1] W fun e W' => e = .returned (.bool true) ∧ Below W.heap.size W W' := by
  simp [Lit.wf, IntKind.min, IntKind.max, IntKind.signed, IntKind.bits] at w1
  obtain ⟨u, v, ty, fz, he⟩ := htabs
  obtain ⟨o2, ho2⟩ : ∃ o2, o2 = Obj.cells #[.iface u v] ty fz := ⟨_, rfl⟩
  rw [← ho2] at he
  letI := syE o2
  have hW : ∀ p ∈ Sy.tab, p.1 < W.heap.size ∧ W.heap[p.1]? = some p.2 := fun p hp => by
    have hp2 : p ∈ [(0, o2)] := hp
    rw [List.mem_singleton] at hp2
    subst hp2
    exact ⟨(Array.getElem?_eq_some_iff.1 he).1, he⟩
  obtain ⟨cs, h, σ, hcs, O⟩ := opened_all W hW (blocksOf A0 l0) fun b hb => blocks_ok h0 b hb
  obtain ⟨v0, r0, d0, i0⟩ := opened_list (g := fun x => V.int .u8 (x.toNat : Int)) told_byte O (c := c0) h0 fun b hb => hcs b hb
  obtain ⟨sh, rfl⟩ := Int.eq_ofNat_of_zero_le w1.1
  have A := order_ok (sh := sh) (rd_of d0) (in_of d0 i0) (u8_lt l0) (by omega)
  refine (calls_of_ans (globOK_of ho2) Tryz.func5 (by kernel_rfl) A O.rel (.cons _ _ _ _ r0 (.cons _ _ _ _ (.int _ _) .nil))).mono ?_
  rintro e W' ⟨v, h', x, rfl, rfl, σ', _, _, hr, _, hb⟩
  cases hr
  exact ⟨rfl, hb⟩
end Go.Proofs.YtlllhhjlfmhmlaaGreatDoor
namespace Go.Proofs.YtlllhhjlfmhmlaaGreatDoor
open Go.ChangeShapes Go.WideShapes Go.ChangeAt Go.RowKit
section
variable {H : Type} {enc : TypeId × Value → H} {P : Program} {w : World} {base : Nat} {spare : Nat → Bool} {held : Bool} {r : Reach} {b0 : Nat} {t e : TypeId} {v : Value} {d : DataW H} {p : List MemPlace}

theorem getElem?_take_getD {α : Type} {l : List α} {n i : Nat} {x y : α} (h : (l.take n)[i]? = some x) : i < l.length ∧ l.getD i y = x := by
  rw [List.getElem?_take] at h
  split at h
  · obtain ⟨h1, h2⟩ := List.getElem?_eq_some_iff.1 h
    exact ⟨h1, by simp [List.getD, h]⟩
  · cases h

theorem open_ints_at {k : IntKind} (ht : P.underlying t = some (.slice e)) (he : P.underlying e = some (.int k)) (hc : P.cellsOf e = 1) (hval : Value.okWide P w r b0 t v) (h : DataW.Trod enc P w base spare held t v d p) :
    ∃ A c zs, v = .slice A zs.length c ∧ At1 (Value.int k) w A zs ∧ (∀ n ∈ zs, (Lit.int k n).wf = true) := by
  obtain ⟨a, len, cap, rfl⟩ := okWide_slice ht hval
  obtain ⟨fuel, hf⟩ := h
  rcases open_ints ht he hc hf with ⟨hcs, _⟩ | ⟨x, l, c, zs, hcs, _, hl, hm, hz, _, hcell, hwz⟩
  · simp [Value.cells] at hcs
    obtain ⟨rfl, rfl, rfl⟩ := hcs
    exact ⟨none, 0, [], rfl, At1.nil _ _ _, by simp⟩
  · simp [Value.cells] at hcs
    obtain ⟨rfl, rfl, rfl⟩ := hcs
    have hz' : len ≤ zs.length := by rw [hz]; split <;> omega
    refine ⟨some x, cap, zs.take len, by rw [List.length_take, Nat.min_eq_left hz'], ⟨?_, fun _ => ⟨x, rfl, fun i y hy => ?_⟩⟩, fun n hn => hwz n (List.mem_of_mem_take hn)⟩
    · rw [List.length_take]; unfold maxLen at hm; omega
    · obtain ⟨h1, h2⟩ := getElem?_take_getD (y := 0) hy
      rw [hcell i h1, h2]

theorem open_bytes_at (ht : P.underlying t = some (.slice e)) (he : P.underlying e = some (.int .u8)) (hc : P.cellsOf e = 1) (hval : Value.okWide P w r b0 t v) (h : DataW.Trod enc P w base spare held t v d p) :
    ∃ A c ns, v = .slice A ns.length c ∧ At1 vByte w A ns := by
  obtain ⟨A, c, zs, rfl, h1, h2⟩ := open_ints_at ht he hc hval h
  refine ⟨A, c, zs.map fun n => UInt8.ofNat n.toNat, by simp, by simpa using h1.1, fun hn => ?_⟩
  obtain ⟨ad, rfl, hcell⟩ := h1.2 (by simpa using hn)
  refine ⟨ad, rfl, fun i x hx => ?_⟩
  rw [List.getElem?_map] at hx
  cases hz : zs[i]? with
  | none => rw [hz] at hx; cases hx
  | some z =>
    rw [hz] at hx
    injection hx with hx
    subst hx
    have hw := h2 z (List.mem_of_getElem? hz)
    simp [Lit.wf, IntKind.min, IntKind.max, IntKind.signed, IntKind.bits] at hw
    rw [hcell i z hz]
    have hlt : z.toNat < 256 := by omega
    show some (Value.int .u8 z) = some (Value.int .u8 ((UInt8.ofNat z.toNat).toNat : Int))
    rw [UInt8.toNat_ofNat_of_lt' hlt]
    congr 2
    omega

theorem open_strs_at (ht : P.underlying t = some (.slice e)) (he : P.underlying e = some .string) (hc : P.cellsOf e = 1) (hval : Value.okWide P w r b0 t v) (h : DataW.Trod enc P w base spare held t v d p) :
    ∃ A c ss, v = .slice A ss.length c ∧ At1 vStr w A ss ∧ (∀ s ∈ ss, s.size ≤ 9223372036854775807) := by
  obtain ⟨a, len, cap, rfl⟩ := okWide_slice ht hval
  obtain ⟨fuel, hf⟩ := h
  rcases open_strings ht he hc hf with ⟨hcs, _⟩ | ⟨x, l, c, zs, hcs, _, hl, hm, hz, _, hcell, hwz⟩
  · simp [Value.cells] at hcs
    obtain ⟨rfl, rfl, rfl⟩ := hcs
    exact ⟨none, 0, [], rfl, At1.nil _ _ _, by simp⟩
  · simp [Value.cells] at hcs
    obtain ⟨rfl, rfl, rfl⟩ := hcs
    have hz' : len ≤ zs.length := by rw [hz]; split <;> omega
    refine ⟨some x, cap, zs.take len, by rw [List.length_take, Nat.min_eq_left hz'], ⟨?_, fun _ => ⟨x, rfl, fun i y hy => ?_⟩⟩, fun n hn => hwz n (List.mem_of_mem_take hn)⟩
    · rw [List.length_take]; unfold maxLen at hm; omega
    · obtain ⟨h1, h2⟩ := getElem?_take_getD (y := ByteArray.empty) hy
      rw [hcell i h1, h2]
end
end Go.Proofs.YtlllhhjlfmhmlaaGreatDoor
