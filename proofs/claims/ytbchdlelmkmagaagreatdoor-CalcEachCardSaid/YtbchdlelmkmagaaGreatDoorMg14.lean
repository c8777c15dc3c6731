/- CmQ CmR CmS CmU CmX CmY CmA4 CmRa CmRb CmRc CmRd CmRe CmRf CmRg CmRh CmRi CmRj CmRk CmRl CmRm CmRn CmRo CmRp CmRq CmRr CmRs CmVa CmVb CmVc CmVd CmVe CmVf CmA5 CmVg -/
import Derived.Test.YtbchdlelmkmagaaGreatDoorMg13
namespace Go.Proofs.YtbchdlelmkmagaaGreatDoor.VM
open Go
set_option linter.unusedVariables false
set_option linter.unusedSectionVars false
set_option linter.unusedSimpArgs false
set_option maxRecDepth 20000
noncomputable section
attribute [local instance] syZ
theorem nkCs_at : ∀ (l : List Nk) (b i : Nat) (d : Nk), l[i]? = some d → ∃ j, ((nkCs b l).drop (i * 14)).take 14 = nkC (b + j) d ∧ (d.kids ≠ [] → (kidPs l)[j]? = some (intsV d.kids, 3))
 | [], b, i, d, h => by simp at h
 | a :: l, b, 0, d, h => by
  simp only [List.getElem?_cons_zero, Option.some.injEq] at h
  subst h
  refine ⟨0, ?_, fun hk => ?_⟩
  ·rw [nkCs, Nat.zero_mul, List.drop_zero]
   have : (nkC b a).length = 14 := rfl
   rw [← this, List.take_left]; rfl
  ·cases hh : a.kids with
   | nil => exact absurd hh hk
   | cons x r => rw [(kid_cons hh l).2.1, List.getElem?_cons_zero, hh]
 | a :: l, b, i + 1, d, h => by
  simp only [List.getElem?_cons_succ] at h
  have e : ∀ c, (nkC b a ++ nkCs c l).drop ((i + 1) * 14) = (nkCs c l).drop (i * 14) := fun c => by
   have e1 : (i + 1) * 14 = 14 + i * 14 := by omega
   rw [e1, ← List.drop_drop]
   congr 1
  rw [nkCs, e]
  cases hh : a.kids with
  | nil =>
   have e1 : nxK b a = b := by unfold nxK; rw [hh]
   rw [e1, (kid_nil hh l).2.1]
   exact nkCs_at l b i d h
  | cons x r =>
   have e1 : nxK b a = b + 1 := by unfold nxK; rw [hh]
   obtain ⟨j, h1, h2⟩ := nkCs_at l (b + 1) i d h
   rw [e1, (kid_cons hh l).2.1]
   exact ⟨j + 1, by rw [h1, show b + 1 + j = b + (j + 1) by omega], fun hk => by rw [List.getElem?_cons_succ]; exact h2 hk⟩
structure NdC (h : Hp) (k : Nat) (l : List Nk) : Prop where
 nb : NodesB h k l
 lt : k + (fragN l).length ≤ h.n
theorem NdC.ext {h h' : Hp} {k : Nat} {l : List Nk} (a : NdC h k l) (x : Ext h.n h h') : NdC h' k l := ⟨a.nb.mono x a.lt (Nat.le_refl _), by have := a.lt; have := x.n; omega⟩
def lvK (k : Nat) (l : List Nk) : V := .slo k 0 l.length l.length 14
theorem node_at {h : Hp} {k : Nat} {l : List Nk} (a : NdC h k l) {i : Nat} {d : Nk} (hd : l[i]? = some d) :
  ∃ kb b o vs f ro, (∀ (kk : IntKind) (q : V → Prop), (Pu EE).iaddr 43 (lvK k l) (.int kk i) q ↔ q (.ptr b o)) ∧ (∀ q : V → Prop, (Pu EE).load h 88 (.ptr b o) q ↔ q (.agg (nkC kb d))) ∧ h.t.get b = some (.cells vs f ro) ∧ (∀ (j : Nat) (x : V), (nkC kb d)[j]? = some x → vs[o + j]? = some x) ∧
   Rd h 1 (kidV kb d) d.kids.length (intsV d.kids) ∧ In h.n (kidV kb d) ∧ b < h.n := by
 obtain ⟨j, h1, h2⟩ := nkCs_at l (k + 1) i d hd
 obtain ⟨b, o, g1, g2, g3, vs, f, ro, g4, g5, g6⟩ := rd_getS a.nb.rd s_sl_api_Node l_api_Node (by omega) (List.getElem?_eq_some_iff.1 hd).1 h1
 have hlt := a.lt
 have hfl : (fragN l).length = kidN l + 1 := fragN_len l
 refine ⟨k + 1 + j, b, o, vs, f, ro, g1, g2, g4, g6, ?_, ?_, ?_⟩
 ·cases hk : d.kids with
  | nil => exact ⟨by simp [intsV], .inl ⟨.inl (by unfold kidV; rw [hk]), rfl⟩⟩
  | cons x r =>
   obtain ⟨rest, ro2, k1⟩ := a.nb.kid (h2 (by rw [hk]; simp))
   rw [hk] at k1
   refine ⟨by simp [intsV], .inr ⟨k + 1 + j, 0, _, rdCells_of k1, ?_, ?_⟩⟩
   ·unfold sub
    have : ((intsV (x :: r) ++ rest).drop 0).take ((x :: r).length * 1) = intsV (x :: r) := by
     rw [List.drop_zero, Nat.mul_one, show (x :: r).length = (intsV (x :: r)).length by simp [intsV], List.take_left]
    simp only [this]
    simp [intsV]
   ·unfold kidV
    rw [hk]
    simp only
    cases Nat.beq d.k 7
    ·exact .inl ⟨_, rfl⟩
    ·exact .inr ⟨_, _, rfl⟩
 ·intro c hc
  unfold kidV at hc
  cases hk : d.kids with
  | nil => rw [hk] at hc; cases hc
  | cons x r =>
   have h3 := h2 (by rw [hk]; simp)
   have h4 := (List.getElem?_eq_some_iff.1 h3).1
   rw [kidPs_len] at h4
   rw [hk] at hc
   simp only at hc
   cases hb : Nat.beq d.k 7 <;> rw [hb] at hc <;> cases hc <;> omega
 ·cases g3
  omega
theorem kid_get {h : Hp} {v : V} {l : List Nat} (r : Rd h 1 v l.length (intsV l)) {i a : Nat} (ha : l[i]? = some a) :
  ∃ b o, (∀ (k : IntKind) (q : V → Prop), (Pu EE).iaddr 86 v (.int k i) q ↔ q (.ptr b o)) ∧ (∀ q : V → Prop, (Pu EE).load h 3 (.ptr b o) q ↔ q (.int .i64 (a : Int))) ∧ blkOf v = some b :=
 rd_get1 r s_sl_int l_int (i := i) (x := .int .i64 (a : Int)) (by unfold intsV; rw [List.getElem?_map, ha]; rfl)
def kAt (ns : List Nk) (i : Nat) : Nat := match ns[i]? with | some d => d.k | none => 6
def isNum (ns : List Nk) (i : Nat) (n : Int) : Bool := match ns[i]? with | some d => decide (d.k = 1) && decide (d.n = n) | none => false
def okNk (ns : List Nk) (i : Nat) (d : Nk) : Bool :=
 decide (d.c < 1000) && decide (d.r < 1000) && decide (d.c1 < 1000) && decide (d.r1 < 1000) && decide (Fit64 d.n) && d.t.all (fun x => decide (x < 256)) &&
 (if d.k = 1 ∨ d.k = 2 ∨ d.k = 5 ∨ d.k = 6 then true
 else if d.k = 7 then (match d.kids with
  | [a] => decide (d.t = sumK) && decide (a < i) && decide (kAt ns a = 6) && decide (a < ns.length)
  | [a, b, c] => decide (d.t = ifK) && decide (a < i) && decide (b < i) && decide (c < i) && decide (kAt ns a ≠ 6) && decide (kAt ns b ≠ 6) && decide (kAt ns c ≠ 6)
  | _ => false)
 else match d.kids with
  | [a, b] => decide (a < i) && decide (b < i) && decide (kAt ns a ≠ 6) && decide (kAt ns b ≠ 6) && (decide (d.k = 13) || decide (d.k = 15) || decide (d.k = 16) || (decide (d.k = 18) && isNum ns b 2) || (decide (d.k = 19) && isNum ns a 1 && (isNum ns b 0 || isNum ns b 1)))
  | _ => false)
def okNs (ns : List Nk) : Bool := (List.range ns.length).all (fun i => match ns[i]? with | some d => okNk ns i d | none => false) && decide (0 < ns.length) && decide (kAt ns (ns.length - 1) ≠ 6) && decide (ns.length < 1000)
theorem nodes_okNs : nodesL.all okNs = true := by kernel_rfl
theorem okNs_at {ns : List Nk} (h : okNs ns = true) {i : Nat} {d : Nk} (hd : ns[i]? = some d) : okNk ns i d = true := by
 unfold okNs at h
 simp only [Bool.and_eq_true] at h
 have := List.all_eq_true.1 h.1.1.1 i (List.mem_range.2 (List.getElem?_eq_some_iff.1 hd).1)
 rw [hd] at this
 exact this
end
end Go.Proofs.YtbchdlelmkmagaaGreatDoor.VM
namespace Go.Proofs.YtbchdlelmkmagaaGreatDoor.VM
open Go
set_option linter.unusedVariables false
set_option linter.unusedSectionVars false
set_option linter.unusedSimpArgs false
set_option maxRecDepth 20000
noncomputable section
attribute [local instance] syZ
structure NCx (M : Nat) (k : Nat) (ns : List Nk) (sv gv : V) (bk : Bok) (g : Grd) (h : Hp) : Prop where
 ev : EvC M h sv bk gv g
 nd : NdC h k ns
theorem NCx.ext {M k : Nat} {ns : List Nk} {sv gv : V} {bk : Bok} {g : Grd} {h h' : Hp} (a : NCx M k ns sv gv bk g h) (x : Ext h.n h h') : NCx M k ns sv gv bk g h' := ⟨a.ev.ext x, a.nd.ext x⟩
theorem c1_lv (k : Nat) (ns : List Nk) : C1 (lvK k ns) := ⟨rfl, rfl⟩
theorem rd_s1 {h : Hp} {sz len : Nat} {v : V} {cs : List V} (r : Rd h sz v len cs) : same1 v v = true := by
 rcases r.at_ with ⟨rfl | rfl, _⟩ | ⟨b, off, vs, _, _, ⟨c, rfl⟩ | ⟨lo, z, rfl⟩⟩ <;> simp [same1]
theorem same_ev {M k : Nat} {ns : List Nk} {sv gv : V} {bk : Bok} {g : Grd} {h : Hp} (a : NCx M k ns sv gv bk g h) (own : List Nat) (q : Prop) : (Pu EE).same (.agg (evC (lvK k ns) own sv gv)) (.agg (evC (lvK k ns) own sv gv)) q ↔ q := by
 show (sameV _ _ = true ∧ q) ↔ q
 obtain ⟨cs, h1⟩ := a.ev.sh.rd
 obtain ⟨N, B, sp, G⟩ := a.ev.gr
 obtain ⟨ws, h2, _⟩ := G.out
 have : sameV (.agg (evC (lvK k ns) own sv gv)) (.agg (evC (lvK k ns) own sv gv)) = true := by
  show sameL (evC (lvK k ns) own sv gv) (evC (lvK k ns) own sv gv) = true
  simp [evC, sameL, rd_s1 h1, rd_s1 h2]
  simp [lvK, same1, seq_dec]
 simp [this]
def NodeOK (M k : Nat) (ns : List Nk) (sv gv : V) (bk : Bok) (g : Grd) (own : List Nat) (i : Nat) (v : Vl) : Prop :=
 MayV v ∧ ∀ h, NCx M k ns sv gv bk g h → ∀ z : Int, z = (i : Int) → Ans EE 37 [.agg (evC (lvK k ns) own sv gv), .int .i64 z] h fun x h' => x = valV v ∧ Ext h.n h h'
theorem two_eval {M k : Nat} {ns : List Nk} {sv gv : V} {bk : Bok} {g : Grd} {own : List Nat} {kb : Nat} {d : Nk} {i1 i2 : Nat} {v1 v2 : Vl} (hk : d.kids = [i1, i2]) (h1 : NodeOK M k ns sv gv bk g own i1 v1) (h2 : NodeOK M k ns sv gv bk g own i2 v2) (hop : TwoOK d.k v1 v2) {h : Hp} (cx : NCx M k ns sv gv bk g h) (hr : Rd h 1 (kidV kb d) d.kids.length (intsV d.kids)) (hi : In h.n (kidV kb d)) :
  Ans EE 71 [.agg (evC (lvK k ns) own sv gv), .agg (nkC kb d)] h fun x h' => x = valV (twoS d.k v1 v2) ∧ Ext h.n h h' := by
 apply a_calc_eval_two
 unfold t_calc_eval_two_0
 refine pu_boxX (cs := evC (lvK k ns) own sv gv) (evC_cells (c1_lv k ns) cx.ev.c1s cx.ev.c1g) fun hA b1 w1 => ?_
 refine pu_boxX (cs := nkC kb d) (nkC_cells kb d) fun hB b2 w2 => ?_
 refine pu_allocX l_api_Val fun h3 b3 w3 => ?_
 have n1 := w1.n
 have e1 := w1.b
 have n2 := w2.n
 have e2 := w2.b
 have n3 := w3.n
 have e3 := w3.b
 have hb1 : h3.t.get b1 = some (.cells (evC (lvK k ns) own sv gv) 74 false) := by rw [w3.old b1 (by omega), w2.old b1 (by omega)]; exact w1.at_
 have hb2 : h3.t.get b2 = some (.cells (nkC kb d) 88 false) := by rw [w3.old b2 (by omega)]; exact w2.at_
 have X3 : Ext h.n h h3 := ⟨by omega, fun c hc => by rw [w3.old c (by omega), w2.old c (by omega), w1.old c (by omega)]⟩
 have hr3 := hr.ext X3 hi
 have hi3 : In h3.n (kidV kb d) := hi.mono (by omega)
 have k0 : d.kids[0]? = some i1 := by rw [hk]; rfl
 have k1 : d.kids[1]? = some i2 := by rw [hk]; rfl
 obtain ⟨c, o, g1, g2, g3⟩ := kid_get hr3 k0
 have g1' := g1 .i64
 rw [show ((0 : Nat) : Int) = 0 from rfl] at g1'
 have hcl : c < h3.n := hi3 c g3
 rw [pu_loadS l_calc_eval hb1 (l := evC (lvK k ns) own sv gv) rfl, fa_api_Node_5, pu_load1 l_sl_int hb2 (v := kidV kb d) rfl, g1', g2]
 refine pu_allocX l_api_Val fun h4 b4 w4 => ?_
 have n4 := w4.n
 have e4 := w4.b
 have hb1' : h4.t.get b1 = some (.cells (evC (lvK k ns) own sv gv) 74 false) := by rw [w4.old b1 (by omega)]; exact hb1
 have hb2' : h4.t.get b2 = some (.cells (nkC kb d) 88 false) := by rw [w4.old b2 (by omega)]; exact hb2
 rw [load_keep (w4.old c hcl), g2, same_int, pu_load1 l_sl_int hb2' (v := kidV kb d) rfl, same_rd hr3, pu_loadS l_calc_eval hb1' (l := evC (lvK k ns) own sv gv) rfl]
 have X4 : Ext h.n h h4 := X3.trans (w4.ext (by omega))
 have cx4 := cx.ext X4
 rw [same_ev cx4]
 refine (h1.2 h4 cx4 _ rfl).mono ?_
 rintro x h5 ⟨rfl, x5⟩
 have n5 := x5.n
 have hz : h5.t.get b4 = some (.cells [.int .i64 0, .int .i64 0, .str []] 48 false) := by rw [x5.old b4 (by omega)]; exact w4.at_
 refine ⟨⟨_, by rw [← e4]; exact hz, rfl⟩, ?_⟩
 refine pu_storeX l_api_Val hz (x := valV v1) rfl rfl (r := vlC v1) rfl fun h6 w6 => ?_
 have n6 := w6.n
 have hold : ∀ c, c < h4.n → c ≠ b4 → h6.t.get c = h4.t.get c := fun c hc hne => by rw [w6.other c hne, x5.old c hc]
 have hb1c : h6.t.get b1 = some (.cells (evC (lvK k ns) own sv gv) 74 false) := by rw [hold b1 (by omega) (by omega)]; exact hb1'
 have hb2c : h6.t.get b2 = some (.cells (nkC kb d) 88 false) := by rw [hold b2 (by omega) (by omega)]; exact hb2'
 have hb3c : h6.t.get b3 = some (.cells [.int .i64 0, .int .i64 0, .str []] 48 false) := by rw [hold b3 (by omega) (by omega), w4.old b3 (by omega)]; exact w3.at_
 have X6 : Ext h.n h h6 := ⟨by omega, fun c hc => by rw [hold c (by omega) (by omega), X4.old c hc]⟩
 have hr6 := hr.ext X6 hi
 obtain ⟨c', o', g4, g5, g6⟩ := kid_get hr6 k1
 have g4' := g4 .i64
 rw [show ((1 : Nat) : Int) = 1 from rfl] at g4'
 rw [fa_api_Node_0, pu_load1 l_int hb2c (v := .int .i64 (d.k : Int)) rfl, pu_loadS l_api_Val w6.at_ (l := vlC v1) rfl, pu_loadS l_calc_eval hb1c (l := evC (lvK k ns) own sv gv) rfl, fa_api_Node_5, pu_load1 l_sl_int hb2c (v := kidV kb d) rfl, g4', g5]
 refine (h2.2 h6 (cx.ext X6) _ rfl).mono ?_
 rintro x h7 ⟨rfl, x7⟩
 have n7 := x7.n
 have hb4c : h7.t.get b4 = some (.cells (vlC v1) 48 false) := by rw [x7.old b4 (by omega)]; exact w6.at_
 have hb2d : h7.t.get b2 = some (.cells (nkC kb d) 88 false) := by rw [x7.old b2 (by omega)]; exact hb2c
 rw [pu_loadS l_api_Val hb4c (l := vlC v1) rfl]
 show (Pu EE).same (valV v1) (valV v1) _
 rw [same_val, pu_load1 l_int hb2d (v := .int .i64 (d.k : Int)) rfl, same_int]
 refine (two_ok d.k v1 v2 h1.1 h2.1 hop h7).mono ?_
 rintro x h8 ⟨rfl, x8⟩
 have n8 := x8.n
 refine retV (by rw [x8.old b3 (by omega), x7.old b3 (by omega)]; exact hb3c) rfl _ fun h9 w9 => ⟨rfl, by have := w9.n; omega, fun c hc => ?_⟩
 rw [w9.other c (by omega), x8.old c (by omega), x7.old c (by omega), X6.old c hc]
end
end Go.Proofs.YtbchdlelmkmagaaGreatDoor.VM
namespace Go.Proofs.YtbchdlelmkmagaaGreatDoor.VM
open Go
set_option linter.unusedVariables false
set_option linter.unusedSectionVars false
set_option linter.unusedSimpArgs false
set_option maxRecDepth 20000
noncomputable section
attribute [local instance] syZ
theorem noIntA : ∃ iu, EE.ty.get 131 = some iu ∧ ∀ k, iu.k ≠ .int k := by
 obtain ⟨i, h1, h2⟩ := s_sl_api_Arg; exact ⟨i, h1, fun k => by rw [h2]; simp⟩
structure AgS (N : Nat) (h : Hp) (v : V) (ds : List AD) : Prop where
 own : Own N h v 133 3 ds.length (agCs ds)
 at_ : ∀ (i : Nat) (d : AD), ds[i]? = some d → RdV h d.w d.l ∧ In h.n d.w ∧ (∀ b, blkOf d.w = some b → blkOf v ≠ some b)
theorem AgS.g {N : Nat} {h : Hp} {v : V} {ds : List AD} (a : AgS N h v ds) : ArgG h v ds := ⟨a.own.rd, a.own.in_, fun i d hd => ⟨(a.at_ i d hd).1, (a.at_ i d hd).2.1⟩⟩
theorem AgS.ext {N : Nat} {h h' : Hp} {v : V} {ds : List AD} (a : AgS N h v ds) (x : Ext h.n h h') : AgS N h' v ds := ⟨a.own.keep x.n fun c hc => x.old c (a.own.in_ c hc), fun i d hd => ⟨(a.at_ i d hd).1.ext x (a.at_ i d hd).2.1, (a.at_ i d hd).2.1.mono x.n, (a.at_ i d hd).2.2⟩⟩
theorem append_arg {N : Nat} {h : Hp} {v : V} {ds : List AD} (a : AgS N h v ds) (d : AD) (hr : RdV h d.w d.l) (hi : In h.n d.w) (hne : ∀ b, blkOf d.w = some b → blkOf v ≠ some b) (hlen : ds.length + 1 ≤ 1048576) (hN : N ≤ h.n) (q : V → Hp → Prop)
  (hq : ∀ v' h', AgS N h' v' (ds ++ [d]) → Ext N h h' → q v' h') :
  (Pu EE).bsl h 131 1 [(0, .agg (adC d))] fun x h1 _ => (Pu EE).ebui h1 #[131, 131] .append [v, x] q := by
 rw [pu_lit1 s_sl_api_Arg l_api_Arg _ rfl (by omega)]
 have hnew : ∀ b, b < h.n → (h.new (.cells (V.agg (adC d)).cells 133 false)).t.get b = h.t.get b := fun b hb => by rw [Hp.get_new, if_neg (by omega)]
 have o1 : Own N (h.new (.cells (V.agg (adC d)).cells 133 false)) v 133 3 ds.length (agCs ds) := a.own.keep (Nat.le_succ _) (fun c hc => hnew c (a.own.in_ c hc))
 obtain ⟨v', h', h1, h2, h3, h4, h5⟩ := own_append (ts := #[131, 131]) o1 rfl rfl s_sl_api_Arg noIntA l_api_Arg (elems_rd (rd_lit (h := h) (e := 133) (ws := (V.agg (adC d)).cells) rfl).rd).1 (fun e => by cases e) (by have := adC_c h d hr; exact this) hlen (Nat.le_succ_of_le hN)
 have nn : (h.new (.cells (V.agg (adC d)).cells 133 false)).n = h.n + 1 := rfl
 have hn' := h3.n
 have keep : ∀ c, c < h.n → blkOf v ≠ some c → h'.t.get c = h.t.get c := fun c hc hne => by rw [h4 c (by omega) hne, hnew c hc]
 refine (h1 q).2 (hq v' h' ⟨?_, fun i x hx => ?_⟩ ((Ext.new hN _).trans h3))
 ·have e : agCs (ds ++ [d]) = agCs ds ++ (V.agg (adC d)).cells := by unfold agCs; rw [List.flatMap_append]; simp; rfl
  show Own _ _ _ _ _ (ds ++ [d]).length _
  rw [List.length_append, e]
  exact h2
 ·have fin : ∀ x : AD, RdV h x.w x.l → In h.n x.w → (∀ b, blkOf x.w = some b → blkOf v ≠ some b) → RdV h' x.w x.l ∧ In h'.n x.w ∧ (∀ b, blkOf x.w = some b → blkOf v' ≠ some b) := fun x q1 q2 q3 => ⟨q1.same fun c hc => keep c (q2 c hc) (q3 c hc), q2.mono (by omega), fun b hb hv => by
   rcases h5 b hv with q | q
   ·exact q3 b hb q
   ·have := q2 b hb; omega⟩
  by_cases hil : i < ds.length
  ·rw [List.getElem?_append_left hil] at hx
   obtain ⟨q1, q2, q3⟩ := a.at_ i x hx
   exact fin x q1 q2 q3
  ·rw [List.getElem?_append_right (by omega)] at hx
   have : x = d := by
    cases hz : i - ds.length with
    | zero => rw [hz] at hx; cases hx; rfl
    | succ m => rw [hz] at hx; simp at hx
   subst this
   exact fin x hr hi hne
section
variable {M k : Nat} {ns : List Nk} {sv gv : V} {bk : Bok} {g : Grd} {own : List Nat} {h0 : Hp} {b1 b2 b3 kb : Nat} {d : Nk} {Q : QQ}
structure CL (M k : Nat) (ns : List Nk) (sv gv : V) (bk : Bok) (g : Grd) (own : List Nat) (h0 : Hp) (b1 b2 b3 kb : Nat) (d : Nk) : Prop where
 cx : NCx M k ns sv gv bk g h0
 hb1 : h0.t.get b1 = some (.cells (evC (lvK k ns) own sv gv) 74 false)
 hb2 : h0.t.get b2 = some (.cells (nkC kb d) 88 false)
 l1 : b1 < h0.n
 l2 : b2 < h0.n
 hr : Rd h0 1 (kidV kb d) d.kids.length (intsV d.kids)
 hi : In h0.n (kidV kb d)
theorem call_val (C : CL M k ns sv gv bk g own h0 b1 b2 b3 kb d) {j a : Nat} {v : Vl} {e : Nk} (ha : d.kids[j]? = some a) (he : ns[a]? = some e) (hk : e.k ≠ 6) (hv : NodeOK M k ns sv gv bk g own a v) {h : Hp} (x : Ext h0.n h0 h) {u : V} {ds : List AD} (A : AgS h0.n h u ds) (hj : j < 1000) (hd : ds.length < 1000)
  (hq : ∀ h' u' w, Ext h0.n h0 h' → AgS h0.n h' u' (ds ++ [⟨false, 0, w, [v]⟩]) → L_calc_eval_call_1 Q (.ptr b1 0) (.ptr b2 0) (.ptr b3 0) u' (kidV kb d) (.int .i64 (d.kids.length : Int)) (.int .i64 ((j + 1 : Nat) : Int)) h') :
  L_calc_eval_call_1 Q (.ptr b1 0) (.ptr b2 0) (.ptr b3 0) u (kidV kb d) (.int .i64 (d.kids.length : Int)) (.int .i64 (j : Int)) h := by
 have hjl := (List.getElem?_eq_some_iff.1 ha).1
 have xn := x.n
 have hb1 := (x.old b1 C.l1).trans C.hb1
 have cx := C.cx.ext x
 apply r_calc_eval_call_1
 unfold t_calc_eval_call_1
 rw [pu_lss, decide_eq_true (by omega), pu_cond_t]
 obtain ⟨c, o, g1, g2, g3⟩ := kid_get (C.hr.ext x C.hi) ha
 obtain ⟨kb2, b, o2, vs, f, ro, m1, m2, m3, m4, m5, m6, m7⟩ := node_at cx.nd he
 rw [g1, g2, fa_calc_eval_0, pu_load1 l_sl_api_Node hb1 (v := lvK k ns) rfl, m1, fa_api_Node_0, pu_load1 l_int m3 (m4 0 (.int .i64 (e.k : Int)) rfl), eqlK e.k 6 6 rfl, decide_eq_false hk, pu_cond_f, pu_loadS l_calc_eval hb1 (l := evC (lvK k ns) own sv gv) rfl]
 refine (hv.2 h cx _ rfl).mono ?_
 rintro y h5 ⟨rfl, x5⟩
 have n5 := x5.n
 have A5 := A.ext x5
 rw [pu_lit1 s_sl_api_Val l_api_Val _ rfl (by omega), pu_build so_api_Arg _ (fun p hp => by
   simp only [List.mem_cons, List.not_mem_nil, or_false] at hp
   rcases hp with rfl; exact ⟨rfl, rfl⟩) rfl]
 have x6 : Ext h5.n h5 (h5.new (.cells (valV v).cells 48 false)) := Ext.new (Nat.le_refl _) _
 have n6 : (h5.new (.cells (valV v).cells 48 false)).n = h5.n + 1 := rfl
 have A6 := A5.ext x6
 have hr6 : RdV (h5.new (.cells (valV v).cells 48 false)) (.sl h5.n 0 1 1) [v] := by
  have := (rd_lit (h := h5) (e := 48) (ws := vlC v) (sz := 3) rfl).rd
  have e : vlCs [v] = vlC v := by simp [vlCs]
  show Rd _ 3 _ 1 (vlCs [v])
  rw [e]; exact this
 refine append_arg A6 ⟨false, 0, .sl h5.n 0 1 1, [v]⟩ hr6 (fun b hb => by cases hb; omega) (fun b hb hu => by cases hb; have := A5.own.in_ _ hu; omega) (by omega) (by omega) _ fun u' h' A' x' => ?_
 rw [pu_inc _ _ _ _ (by omega)]
 exact hq h' u' _ (x.trans ((x5.mono (by omega)).trans ((x6.mono (by omega)).trans x'))) A'
theorem call_span (C : CL M k ns sv gv bk g own h0 b1 b2 b3 kb d) {j a : Nat} {e : Nk} (ha : d.kids[j]? = some a) (he : ns[a]? = some e) (hk : e.k = 6) (hco : ∀ t ∈ bk, (∀ row ∈ t.rows, row.length = t.cols) ∧ t.cols < 1000000 ∧ t.rows.length < 1000000) (hdc : e.c < 1000 ∧ e.r < 1000 ∧ e.c1 < 1000 ∧ e.r1 < 1000) (hlen : (spanS bk g own e).length ≤ 1000000) {h : Hp} (x : Ext h0.n h0 h) {u : V} {ds : List AD} (A : AgS h0.n h u ds) (hj : j < 1000) (hd : ds.length < 1000) (hu : ∀ b, blkOf u ≠ some b)
  (hq : ∀ h' u' cc w, Ext h0.n h0 h' → AgS h0.n h' u' (ds ++ [⟨(findN bk (ownS own e.s) 0).isSome, cc, w, spanS bk g own e⟩]) → L_calc_eval_call_1 Q (.ptr b1 0) (.ptr b2 0) (.ptr b3 0) u' (kidV kb d) (.int .i64 (d.kids.length : Int)) (.int .i64 ((j + 1 : Nat) : Int)) h') :
  L_calc_eval_call_1 Q (.ptr b1 0) (.ptr b2 0) (.ptr b3 0) u (kidV kb d) (.int .i64 (d.kids.length : Int)) (.int .i64 (j : Int)) h := by
 have hjl := (List.getElem?_eq_some_iff.1 ha).1
 have xn := x.n
 have hb1 := (x.old b1 C.l1).trans C.hb1
 have cx := C.cx.ext x
 apply r_calc_eval_call_1
 unfold t_calc_eval_call_1
 rw [pu_lss, decide_eq_true (by omega), pu_cond_t]
 obtain ⟨c, o, g1, g2, g3⟩ := kid_get (C.hr.ext x C.hi) ha
 obtain ⟨kb2, b, o2, vs, f, ro, m1, m2, m3, m4, m5, m6, m7⟩ := node_at cx.nd he
 rw [g1, g2, fa_calc_eval_0, pu_load1 l_sl_api_Node hb1 (v := lvK k ns) rfl, m1, fa_api_Node_0, pu_load1 l_int m3 (m4 0 (.int .i64 (e.k : Int)) rfl), eqlK e.k 6 6 rfl, decide_eq_true hk, pu_cond_t, pu_loadS l_calc_eval hb1 (l := evC (lvK k ns) own sv gv) rfl, fa_calc_eval_0, pu_load1 l_sl_api_Node hb1 (v := lvK k ns) rfl, m1, m2]
 refine (span_ok cx.ev (c1_lv k ns) own kb2 e hco hdc hlen).mono ?_
 rintro y h5 ⟨cc, w, rfl, r5, i5, x5⟩
 have n5 := x5.n
 have A5 := A.ext x5
 refine append_arg A5 ⟨(findN bk (ownS own e.s) 0).isSome, cc, w, spanS bk g own e⟩ r5 i5 (fun b hb => hu b) (by omega) (by omega) _ fun u' h' A' x' => ?_
 rw [pu_inc _ _ _ _ (by omega)]
 exact hq h' u' _ _ (x.trans ((x5.mono (by omega)).trans x')) A'
end
end
end Go.Proofs.YtbchdlelmkmagaaGreatDoor.VM
namespace Go.Proofs.YtbchdlelmkmagaaGreatDoor.VM
open Go
set_option linter.unusedVariables false
set_option linter.unusedSectionVars false
set_option linter.unusedSimpArgs false
set_option maxRecDepth 20000
noncomputable section
attribute [local instance] syZ
def GoodRows (bk : Bok) : Prop := ∀ t ∈ bk, (∀ row ∈ t.rows, row.length = t.cols) ∧ t.cols < 1000000 ∧ t.rows.length < 1000000
theorem may_getG {M : Nat} {h : Hp} {sv gv : V} {bk : Bok} {g : Grd} (a : EvC M h sv bk gv g) (i r c : Nat) : MayV (getG g i r c) := by
 unfold getG
 cases h1 : g[i]? with
 | none => rw [Option.getD_none]; simp; exact may0
 | some rows =>
  rw [Option.getD_some]
  cases h2 : rows[r]? with
  | none => rw [Option.getD_none]; simp; exact may0
  | some row =>
   rw [Option.getD_some]
   cases h3 : row[c]? with
   | none => rw [Option.getD_none]; exact may0
   | some v => rw [Option.getD_some]; exact a.may i r row ⟨rows, h1, h2⟩ v (List.mem_of_getElem? h3)
theorem may_ref {M : Nat} {h : Hp} {sv gv : V} {bk : Bok} {g : Grd} (a : EvC M h sv bk gv g) (own : List Nat) (d : Nk) : MayV (refS bk g own d) := by
 unfold refS
 split
 ·exact mayE (by omega) (by omega)
 ·split
  ·exact may0
  ·split
   ·exact may0
   ·split
    ·exact may_getG a _ _ _
    ·exact may0
theorem may_rows {M : Nat} {h : Hp} {sv gv : V} {bk : Bok} {g : Grd} (a : EvC M h sv bk gv g) (i c0 c1 : Nat) : ∀ n r, ∀ v ∈ rowsS g i c0 c1 n r, MayV v
 | 0, r, v, hv => by cases hv
 | n + 1, r, v, hv => by
  rcases List.mem_append.1 hv with hv | hv
  ·unfold cellsS at hv
   obtain ⟨j, _, rfl⟩ := List.mem_map.1 hv
   exact may_getG a _ _ _
  ·exact may_rows a i c0 c1 n (r + 1) v hv
theorem may_span {M : Nat} {h : Hp} {sv gv : V} {bk : Bok} {g : Grd} (a : EvC M h sv bk gv g) (own : List Nat) (d : Nk) : ∀ v ∈ spanS bk g own d, MayV v := by
 unfold spanS
 split
 ·intro v hv
  rw [List.mem_singleton] at hv
  subst hv; exact mayE (by omega) (by omega)
 ·split
  ·intro v hv; cases hv
  ·exact may_rows a _ _ _ _ _
theorem rowsS_len (g : Grd) (i c0 c1 : Nat) : ∀ n r, (rowsS g i c0 c1 n r).length = n * (c1 - c0)
 | 0, r => by simp [rowsS]
 | n + 1, r => by rw [rowsS, List.length_append, rowsS_len g i c0 c1 n (r + 1), Nat.succ_mul]; simp [cellsS]; omega
theorem span_len (bk : Bok) (g : Grd) (own : List Nat) (d : Nk) (h1 : d.c1 < 1000) (h2 : d.r1 < 1000) : (spanS bk g own d).length ≤ 1000000 := by
 unfold spanS
 split
 ·simp
 ·split
  ·simp
  ·rw [rowsS_len]
   refine Nat.le_trans (Nat.mul_le_mul (by omega : _ ≤ 1000) (by omega : _ ≤ 1000)) (by decide)
theorem may_if {x y z : Vl} (hx : MayV x) (hy : MayV y) (hz : MayV z) : MayV (ifS x y z) := by
 unfold ifS
 split
 ·exact hx
 ·split
  ·exact mayE (by omega) (by omega)
  ·exact hy
  ·exact hz
theorem may_addAll : ∀ (l : List Vl) (a : Vl), (∀ v ∈ l, MayV v) → MayV a → MayV (addAll l a) := by
 intro l a hl ha
 rw [← foldV_ints]
 exact may_fold _ _ (fun v hv => hl v (List.mem_filter.1 hv).1) ha
theorem may_sum {l : List Vl} (hl : ∀ v ∈ l, MayV v) : MayV (sumS l) := by
 unfold sumS
 split
 ·rename_i e he; exact hl e (List.mem_of_find?_eq_some he)
 ·exact may_addAll l _ hl (mayN (by simp [Fit64]))
section
variable {M k : Nat} {ns : List Nk} {sv gv : V} {bk : Bok} {g : Grd} {own : List Nat} {h0 : Hp} {b1 b2 b3 kb : Nat} {d : Nk} {Q : QQ}
theorem call_end (C : CL M k ns sv gv bk g own h0 b1 b2 b3 kb d) (hb3 : h0.t.get b3 = some (.cells [.int .i64 0, .int .i64 0, .str []] 48 false)) (l3 : b3 < h0.n) {h : Hp} (x : Ext h0.n h0 h) {u : V} {v : Vl} (H : Ans EE 107 [.str d.t, u] h fun y h' => y = valV v ∧ Ext h.n h h') (hk : d.kids.length < 1000)
  (hq : ∀ h', (∀ c, c < h0.n → c ≠ b3 → h'.t.get c = h0.t.get c) → h0.n ≤ h'.n → Q (valV v) h') :
  L_calc_eval_call_1 Q (.ptr b1 0) (.ptr b2 0) (.ptr b3 0) u (kidV kb d) (.int .i64 (d.kids.length : Int)) (.int .i64 (d.kids.length : Int)) h := by
 have xn := x.n
 apply r_calc_eval_call_1
 unfold t_calc_eval_call_1
 rw [pu_lss, decide_eq_false (by omega), pu_cond_f, fa_api_Node_2, pu_load1 l_string ((x.old b2 C.l2).trans C.hb2) (v := .str d.t) rfl]
 refine H.mono ?_
 rintro y h5 ⟨rfl, x5⟩
 have n5 := x5.n
 refine retV (by rw [x5.old b3 (by omega), x.old b3 l3]; exact hb3) rfl _ fun h6 w6 => hq h6 (fun c hc hne => by rw [w6.other c hne, x5.old c (by omega), x.old c hc]) (by rw [w6.n]; omega)
end
theorem call_open {M k : Nat} {ns : List Nk} {sv gv : V} {bk : Bok} {g : Grd} {own : List Nat} {kb : Nat} {d : Nk} {h : Hp} (cx : NCx M k ns sv gv bk g h) (hr : Rd h 1 (kidV kb d) d.kids.length (intsV d.kids)) (hi : In h.n (kidV kb d)) {Q : QQ}
  (H : ∀ h0 b1 b2 b3, CL M k ns sv gv bk g own h0 b1 b2 b3 kb d → h0.t.get b3 = some (.cells [.int .i64 0, .int .i64 0, .str []] 48 false) → b3 < h0.n → h.n ≤ b3 → Ext h.n h h0 → L_calc_eval_call_1 Q (.ptr b1 0) (.ptr b2 0) (.ptr b3 0) .nils (kidV kb d) (.int .i64 (d.kids.length : Int)) (.int .i64 ((0 : Nat) : Int)) h0) :
  Ans EE 69 [.agg (evC (lvK k ns) own sv gv), .agg (nkC kb d)] h Q := by
 apply a_calc_eval_call
 unfold t_calc_eval_call_0
 refine pu_boxX (cs := evC (lvK k ns) own sv gv) (evC_cells (c1_lv k ns) cx.ev.c1s cx.ev.c1g) fun h1 b1 w1 => ?_
 refine pu_boxX (cs := nkC kb d) (nkC_cells kb d) fun h2 b2 w2 => ?_
 refine pu_allocX l_api_Val fun h3 b3 w3 => ?_
 have n1 := w1.n
 have e1 := w1.b
 have n2 := w2.n
 have e2 := w2.b
 have n3 := w3.n
 have e3 := w3.b
 have hb1 : h3.t.get b1 = some (.cells (evC (lvK k ns) own sv gv) 74 false) := by rw [w3.old b1 (by omega), w2.old b1 (by omega)]; exact w1.at_
 have hb2 : h3.t.get b2 = some (.cells (nkC kb d) 88 false) := by rw [w3.old b2 (by omega)]; exact w2.at_
 have X3 : Ext h.n h h3 := ⟨by omega, fun c hc => by rw [w3.old c (by omega), w2.old c (by omega), w1.old c (by omega)]⟩
 rw [fa_api_Node_5, pu_load1 l_sl_int hb2 (v := kidV kb d) rfl, pu_len (hr.ext X3 hi) s_sl_int]
 exact H h3 b1 b2 b3 ⟨cx.ext X3, hb1, hb2, by omega, by omega, hr.ext X3 hi, hi.mono (by omega)⟩ w3.at_ (by omega) (by omega) X3
theorem sum_eval {M k : Nat} {ns : List Nk} {sv gv : V} {bk : Bok} {g : Grd} {own : List Nat} {kb : Nat} {d e : Nk} {a : Nat} {h : Hp} (cx : NCx M k ns sv gv bk g h) (hr : Rd h 1 (kidV kb d) d.kids.length (intsV d.kids)) (hi : In h.n (kidV kb d)) (hk : d.kids = [a]) (ht : d.t = sumK) (he : ns[a]? = some e) (hek : e.k = 6) (hco : GoodRows bk) (hdc : e.c < 1000 ∧ e.r < 1000 ∧ e.c1 < 1000 ∧ e.r1 < 1000) :
  Ans EE 69 [.agg (evC (lvK k ns) own sv gv), .agg (nkC kb d)] h fun x h' => x = valV (sumS (spanS bk g own e)) ∧ Ext h.n h h' := by
 refine call_open cx hr hi fun h0 b1 b2 b3 C hb3 l3 g3 X0 => ?_
 have hl := span_len bk g own e hdc.2.2.1 hdc.2.2.2
 refine call_span C (j := 0) (a := a) (e := e) (by rw [hk]; rfl) he hek hco hdc hl (Ext.refl _ _) (u := .nils) (ds := []) ⟨Own.nil _ _ _ _, fun i d hd => by simp at hd⟩ (by omega) (by simp) (fun b hb => by cases hb) fun h1 u cc w x1 A => ?_
 have hkl : d.kids.length = 1 := by rw [hk]; rfl
 have g := call_sum (d := ⟨(findN bk (ownS own e.s) 0).isSome, cc, w, spanS bk g own e⟩) A.g (by
  cases hf : findN bk (ownS own e.s) 0 with
  | some i => exact .inl rfl
  | none => exact .inr ⟨rfl, vlE 4, by show spanS bk g own e = _; unfold spanS; rw [hf], rfl⟩) (may_span cx.ev own e) hl
 have hend := call_end C hb3 l3 x1 (u := u) (v := sumS (spanS bk _ own e)) (by rw [ht]; exact g) (by omega) (Q := fun x h' => x = valV (sumS (spanS bk _ own e)) ∧ Ext h.n h h') fun h' q1 q2 => ⟨rfl, by have := X0.n; omega, fun c hc => by rw [q1 c (by have := X0.n; omega) (by omega), X0.old c hc]⟩
 rw [hkl] at hend ⊢
 exact hend
theorem if_eval {M k : Nat} {ns : List Nk} {sv gv : V} {bk : Bok} {g : Grd} {own : List Nat} {kb : Nat} {d e1 e2 e3 : Nk} {a1 a2 a3 : Nat} {v1 v2 v3 : Vl} {h : Hp} (cx : NCx M k ns sv gv bk g h) (hr : Rd h 1 (kidV kb d) d.kids.length (intsV d.kids)) (hi : In h.n (kidV kb d)) (hk : d.kids = [a1, a2, a3]) (ht : d.t = ifK)
  (he1 : ns[a1]? = some e1) (hk1 : e1.k ≠ 6) (he2 : ns[a2]? = some e2) (hk2 : e2.k ≠ 6) (he3 : ns[a3]? = some e3) (hk3 : e3.k ≠ 6) (h1 : NodeOK M k ns sv gv bk g own a1 v1) (h2 : NodeOK M k ns sv gv bk g own a2 v2) (h3 : NodeOK M k ns sv gv bk g own a3 v3) :
  Ans EE 69 [.agg (evC (lvK k ns) own sv gv), .agg (nkC kb d)] h fun x h' => x = valV (ifS v1 v2 v3) ∧ Ext h.n h h' := by
 refine call_open cx hr hi fun h0 b1 b2 b3 C hb3 l3 g3 X0 => ?_
 have hkl : d.kids.length = 3 := by rw [hk]; rfl
 refine call_val C (j := 0) (a := a1) (e := e1) (by rw [hk]; rfl) he1 hk1 h1 (Ext.refl _ _) (u := .nils) (ds := []) ⟨Own.nil _ _ _ _, fun i d hd => by simp at hd⟩ (by omega) (by simp) fun hA uA wA xA AA => ?_
 refine call_val C (j := 1) (a := a2) (e := e2) (by rw [hk]; rfl) he2 hk2 h2 xA AA (by omega) (by simp) fun hB uB wB xB AB => ?_
 refine call_val C (j := 2) (a := a3) (e := e3) (by rw [hk]; rfl) he3 hk3 h3 xB AB (by omega) (by simp) fun hC uC wC xC AC => ?_
 have AN : ArgN hC uC [wA, wB, wC] [v1, v2, v3] := ⟨AC.own.rd, rfl, AC.own.in_, fun i w x hw hx => by
  match i, hw, hx with
  | 0, hw, hx => cases hw; cases hx; exact ⟨(AC.at_ 0 _ rfl).1, (AC.at_ 0 _ rfl).2.1⟩
  | 1, hw, hx => cases hw; cases hx; exact ⟨(AC.at_ 1 _ rfl).1, (AC.at_ 1 _ rfl).2.1⟩
  | 2, hw, hx => cases hw; cases hx; exact ⟨(AC.at_ 2 _ rfl).1, (AC.at_ 2 _ rfl).2.1⟩⟩
 have hend := call_end C hb3 l3 xC (u := uC) (v := ifS v1 v2 v3) (by rw [ht]; exact call_if AN h1.1) (by omega) (Q := fun x h' => x = valV (ifS v1 v2 v3) ∧ Ext h.n h h') fun h' q1 q2 => ⟨rfl, by have := X0.n; omega, fun c hc => by rw [q1 c (by have := X0.n; omega) (by omega), X0.old c hc]⟩
 rw [hkl] at hend ⊢
 exact hend
end
end Go.Proofs.YtbchdlelmkmagaaGreatDoor.VM
namespace Go.Proofs.YtbchdlelmkmagaaGreatDoor.VM
open Go
set_option linter.unusedVariables false
set_option linter.unusedSectionVars false
set_option linter.unusedSimpArgs false
set_option maxRecDepth 20000
noncomputable section
attribute [local instance] syZ
section
variable {M k : Nat} {ns : List Nk} {sv gv : V} {bk : Bok} {g : Grd} {own : List Nat}
def doF (d : Nk) : Nat := if d.k = 5 then 68 else if d.k = 7 then 69 else if 8 < d.k then 71 else 67
theorem node_open {i : Nat} {d : Nk} {v : Vl} (hd : ns[i]? = some d) (h8 : d.k ≠ 8)
  (H : ∀ h kb, NCx M k ns sv gv bk g h → Rd h 1 (kidV kb d) d.kids.length (intsV d.kids) → In h.n (kidV kb d) → Ans EE (doF d) [.agg (evC (lvK k ns) own sv gv), .agg (nkC kb d)] h fun x h' => x = valV v ∧ Ext h.n h h') :
  ∀ h, NCx M k ns sv gv bk g h → ∀ z : Int, z = (i : Int) → Ans EE 37 [.agg (evC (lvK k ns) own sv gv), .int .i64 z] h fun x h' => x = valV v ∧ Ext h.n h h' := by
 intro h cx z hz
 subst hz
 apply a_calc_eval_node
 unfold t_calc_eval_node_0
 refine pu_boxX (cs := evC (lvK k ns) own sv gv) (evC_cells (c1_lv k ns) cx.ev.c1s cx.ev.c1g) fun h1 b1 w1 => ?_
 refine pu_allocX l_api_Val fun h2 b2 w2 => ?_
 have n1 := w1.n
 have e1 := w1.b
 have n2 := w2.n
 have e2 := w2.b
 have hb1 : h2.t.get b1 = some (.cells (evC (lvK k ns) own sv gv) 74 false) := by rw [w2.old b1 (by omega)]; exact w1.at_
 have X2 : Ext h.n h h2 := (w1.ext (Nat.le_refl _)).trans (w2.ext (by omega))
 have cx2 := cx.ext X2
 obtain ⟨kb, b, o, vs, f, ro, m1, m2, m3, m4, m5, m6, m7⟩ := node_at cx2.nd hd
 rw [fa_calc_eval_0, pu_load1 l_sl_api_Node hb1 (v := lvK k ns) rfl, m1, m2]
 refine sbox l_api_Node (nkC kb d) rfl (nkC_cells kb d) fun h3 b3 w3 => ?_
 have n3 := w3.n
 have e3 := w3.b
 have X3 : Ext h.n h h3 := X2.trans (w3.ext (by omega))
 have hb1' : h3.t.get b1 = some (.cells (evC (lvK k ns) own sv gv) 74 false) := by rw [w3.old b1 (by omega)]; exact hb1
 have hb2 : h3.t.get b2 = some (.cells [.int .i64 0, .int .i64 0, .str []] 48 false) := by rw [w3.old b2 (by omega)]; exact w2.at_
 have fin : L_calc_eval_node_1 (fun x h' => x = valV v ∧ Ext h.n h h') (.ptr b1 0) (.ptr b2 0) (.ptr b3 0) (.fn (.func (doF d)) [] []) h3 := by
  apply r_calc_eval_node_1
  unfold t_calc_eval_node_1
  rw [pu_loadS l_calc_eval hb1' (l := evC (lvK k ns) own sv gv) rfl, pu_loadS l_api_Node w3.at_ (l := nkC kb d) rfl]
  refine pu_callv ((H h3 kb (cx.ext X3) (m5.ext (w3.ext (Nat.le_refl _)) m6) (m6.mono (by omega))).mono ?_)
  rintro y h4 ⟨rfl, x4⟩
  have n4 := x4.n
  refine retV (by rw [x4.old b2 (by omega)]; exact hb2) rfl _ fun h5 w5 => ⟨rfl, by rw [w5.n]; omega, fun c hc => ?_⟩
  rw [w5.other c (by omega), x4.old c (by omega), X3.old c hc]
 rw [fa_api_Node_0, pu_load1 l_int w3.at_ (v := .int .i64 (d.k : Int)) rfl, eqlK d.k 5 5 rfl]
 by_cases k5 : d.k = 5
 ·rw [decide_eq_true k5, pu_cond_t]
  unfold doF at fin; rw [if_pos k5] at fin; exact fin
 rw [decide_eq_false k5, pu_cond_f, fa_api_Node_0, pu_load1 l_int w3.at_ (v := .int .i64 (d.k : Int)) rfl, eqlK d.k 7 7 rfl]
 by_cases k7 : d.k = 7
 ·rw [decide_eq_true k7, pu_cond_t]
  unfold doF at fin; rw [if_neg k5, if_pos k7] at fin; exact fin
 rw [decide_eq_false k7, pu_cond_f, fa_api_Node_0, pu_load1 l_int w3.at_ (v := .int .i64 (d.k : Int)) rfl, eqlK d.k 8 8 rfl, decide_eq_false h8, pu_cond_f, fa_api_Node_0, pu_load1 l_int w3.at_ (v := .int .i64 (d.k : Int)) rfl, pu_gtr]
 by_cases k8 : 8 < d.k
 ·rw [decide_eq_true (by omega), pu_cond_t]
  unfold doF at fin; rw [if_neg k5, if_neg k7, if_pos k8] at fin; exact fin
 ·rw [decide_eq_false (by omega), pu_cond_f]
  unfold doF at fin; rw [if_neg k5, if_neg k7, if_neg k8] at fin; exact fin
theorem kAt_some {i : Nat} (h : kAt ns i ≠ 6) : ∃ d, ns[i]? = some d ∧ d.k ≠ 6 := by
 unfold kAt at h
 cases hd : ns[i]? with
 | none => rw [hd] at h; exact absurd rfl h
 | some d => rw [hd] at h; exact ⟨d, rfl, h⟩
theorem isNum_ev {i : Nat} {n : Int} (h : isNum ns i n = true) (f : Nat) : evN ns bk g own (f + 1) i = vlN n := by
 unfold isNum at h
 cases hd : ns[i]? with
 | none => rw [hd] at h; cases h
 | some d =>
  rw [hd] at h
  simp only [Bool.and_eq_true, decide_eq_true_eq] at h
  rw [evN, hd]
  simp only
  rw [if_pos h.1, h.2]
theorem node_ok (hns : okNs ns = true) (hco : GoodRows bk) {hb : Hp} (cx0 : NCx M k ns sv gv bk g hb) : ∀ f i d, i < f → ns[i]? = some d → d.k ≠ 6 → NodeOK M k ns sv gv bk g own i (evN ns bk g own f i) := by
 intro f
 induction f with
 | zero => intro i d hi; omega
 | succ f ih =>
  intro i d hi hd hk6
  have ok := okNs_at hns hd
  unfold okNk at ok
  simp only [Bool.and_eq_true, decide_eq_true_eq] at ok
  obtain ⟨⟨⟨⟨⟨⟨oc, or_⟩, oc1⟩, or1⟩, ofit⟩, otx⟩, ok⟩ := ok
  have otx' : ∀ x ∈ d.t, x < 256 := fun x hx => by simpa using List.all_eq_true.1 otx x hx
  rw [evN, hd]
  simp only
  by_cases k1 : d.k = 1
  ·rw [if_pos k1]
   refine ⟨mayN ofit, node_open hd (by omega) fun h kb cx hr hi => ?_⟩
   have := leaf_ok cx.ev (c1_lv k ns) own kb d (.inl k1)
   rw [if_pos k1] at this
   unfold doF; rw [if_neg (by omega), if_neg (by omega), if_neg (by omega)]; exact this
  rw [if_neg k1]
  by_cases k2 : d.k = 2
  ·rw [if_pos k2]
   refine ⟨mayT otx', node_open hd (by omega) fun h kb cx hr hi => ?_⟩
   have := leaf_ok cx.ev (c1_lv k ns) own kb d (.inr k2)
   rw [if_neg (by omega)] at this
   unfold doF; rw [if_neg (by omega), if_neg (by omega), if_neg (by omega)]; exact this
  rw [if_neg k2]
  by_cases k5 : d.k = 5
  ·rw [if_neg (by omega), if_pos k5]
   refine ⟨may_ref cx0.ev own d, node_open hd (by omega) fun h kb cx hr hi => ?_⟩
   unfold doF; rw [if_pos k5]
   exact ref_ok cx.ev (c1_lv k ns) own kb d
  rw [if_neg (by omega : ¬ (d.k = 1 ∨ d.k = 2 ∨ d.k = 5 ∨ d.k = 6))] at ok
  by_cases k7 : d.k = 7
  ·rw [if_pos k7] at ok
   rw [if_neg (by omega), if_neg k5, if_pos k7]
   cases hkd : d.kids with
   | nil => rw [hkd] at ok; cases ok
   | cons a r =>
    rw [hkd] at ok
    match r, hkd, ok with
    | [], hkd, ok =>
     simp only [Bool.and_eq_true, decide_eq_true_eq] at ok
     obtain ⟨⟨⟨ot, oa⟩, o6⟩, oal⟩ := ok
     have he : ns[a]? = some ns[a] := List.getElem?_eq_getElem oal
     have hek : (ns[a]).k = 6 := by unfold kAt at o6; rw [he] at o6; exact o6
     have oe := okNs_at hns he
     unfold okNk at oe
     simp only [Bool.and_eq_true, decide_eq_true_eq] at oe
     obtain ⟨⟨⟨⟨⟨⟨ec, er⟩, ec1⟩, er1⟩, _⟩, _⟩, _⟩ := oe
     simp only
     rw [he]
     refine ⟨may_sum (may_span cx0.ev own _), node_open hd (by omega) fun h kb cx hr hi => ?_⟩
     unfold doF; rw [if_neg k5, if_pos k7]
     exact sum_eval cx hr hi hkd ot he hek hco ⟨ec, er, ec1, er1⟩
    | [b, c], hkd, ok =>
     simp only [Bool.and_eq_true, decide_eq_true_eq] at ok
     obtain ⟨⟨⟨⟨⟨⟨ot, oa⟩, ob⟩, oc'⟩, o1⟩, o2⟩, o3⟩ := ok
     obtain ⟨x1, hx1, hk1⟩ := kAt_some o1
     obtain ⟨x2, hx2, hk2⟩ := kAt_some o2
     obtain ⟨x3, hx3, hk3⟩ := kAt_some o3
     have v1 := ih a x1 (by omega) hx1 hk1
     have v2 := ih b x2 (by omega) hx2 hk2
     have v3 := ih c x3 (by omega) hx3 hk3
     simp only
     refine ⟨may_if v1.1 v2.1 v3.1, node_open hd (by omega) fun h kb cx hr hi => ?_⟩
     unfold doF; rw [if_neg k5, if_pos k7]
     exact if_eval cx hr hi hkd ot hx1 hk1 hx2 hk2 hx3 hk3 v1 v2 v3
    | [b], hkd, ok => cases ok
    | b :: c :: e :: r, hkd, ok => cases ok
  ·rw [if_neg k7] at ok
   rw [if_neg (by
    intro h4
    rw [h4] at ok
    split at ok
    ·simp at ok
    ·cases ok), if_neg k5, if_neg k7]
   cases hkd : d.kids with
   | nil => rw [hkd] at ok; cases ok
   | cons a r =>
    rw [hkd] at ok
    match r, hkd, ok with
    | [b], hkd, ok =>
     simp only [Bool.and_eq_true, Bool.or_eq_true, decide_eq_true_eq] at ok
     obtain ⟨⟨⟨⟨oa, ob⟩, o1⟩, o2⟩, oo⟩ := ok
     obtain ⟨x1, hx1, hk1⟩ := kAt_some o1
     obtain ⟨x2, hx2, hk2⟩ := kAt_some o2
     have v1 := ih a x1 (by omega) hx1 hk1
     have v2 := ih b x2 (by omega) hx2 hk2
     simp only
     obtain ⟨f', rfl⟩ : ∃ f', f = f' + 1 := ⟨f - 1, by omega⟩
     have hop : TwoOK d.k (evN ns bk g own (f' + 1) a) (evN ns bk g own (f' + 1) b) := by
      rcases oo with (((h | h) | h) | ⟨h, q⟩) | ⟨⟨h, q⟩, q2⟩
      ·exact .inl h
      ·exact .inr (.inl h)
      ·exact .inr (.inr (.inl h))
      ·exact .inr (.inr (.inr (.inl ⟨h, isNum_ev q f'⟩)))
      ·exact .inr (.inr (.inr (.inr ⟨h, isNum_ev q f', q2.imp (fun q => isNum_ev q f') (fun q => isNum_ev q f')⟩)))
     have h8 : 8 < d.k := by rcases oo with (((h | h) | h) | ⟨h, q⟩) | ⟨⟨h, q⟩, q2⟩ <;> omega
     refine ⟨may_two v1.1 v2.1 hop, node_open hd (by omega) fun h kb cx hr hi => ?_⟩
     unfold doF; rw [if_neg k5, if_neg k7, if_pos h8]
     exact two_eval hkd v1 v2 hop cx hr hi
    | [], hkd, ok => cases ok
    | b :: c :: r, hkd, ok => cases ok
end
end
end Go.Proofs.YtbchdlelmkmagaaGreatDoor.VM
namespace Go.Proofs.YtbchdlelmkmagaaGreatDoor.VM
open Go
set_option linter.unusedVariables false
set_option linter.unusedSectionVars false
set_option linter.unusedSimpArgs false
set_option maxRecDepth 20000
noncomputable section
attribute [local instance] syZ
theorem build_ev {lv sv gv : V} {own : List Nat} (hl : C1 lv) (hs : C1 sv) (hg : C1 gv) (q : V → Prop) : (Pu EE).build 74 [(0, lv), (1, .str own), (2, .agg [sv]), (3, gv)] q ↔ q (.agg (evC lv own sv gv)) := by
 obtain ⟨i, fs, h1, h2, h3, h4⟩ := so_calc_eval
 show (∃ v, vbuild EE 74 _ = some v ∧ q v) ↔ _
 have hf : fillV [(0, 1), (1, 1), (2, 1), (3, 1)] [.nils, .str [], .nils, .nils] [(0, lv), (1, .str own), (2, .agg [sv]), (3, gv)] = some [lv, .str own, sv, gv] := by
  have e1 := hl.1
  have e3 := hg.1
  have e2 : (V.agg [sv]).cells = [sv] := rfl
  have e4 : (V.str own).cells = [.str own] := rfl
  simp [fillV, e1, e2, e3, e4, spl]
  rfl
 have : vbuild EE 74 [(0, lv), (1, .str own), (2, .agg [sv]), (3, gv)] = some (.agg (evC lv own sv gv)) := by
  simp only [vbuild, h1, Option.bind_some, h2, h3, h4, hf]
  rfl
 rw [this, ex_some]
theorem hook_tree : EE.hook 36 = some treeH := by kernel_rfl
theorem tree_ok {f : Nat} (hk : EE.hook f = some treeH) {h : Hp} {k : Nat} {ns : List Nk} (hn : ns ∈ nodesL) (a : NdC h k ns) : Ans EE f [lvK k ns] h fun x h' => x = .bool true ∧ h' = h :=
 ⟨_, _, Cs.hook hk (treeH_at hn a.nb), rfl, rfl⟩
theorem eval_ok {M k : Nat} {ns : List Nk} {sv gv : V} {bk : Bok} {g : Grd} (own : List Nat) (hn : ns ∈ nodesL) (hco : GoodRows bk) {h : Hp} (cx : NCx M k ns sv gv bk g h) : Ans EE 14 [lvK k ns, .str own, .agg [sv], gv] h fun x h' => x = valV (evS ns bk g own) ∧ Ext h.n h h' := by
 have hns : okNs ns = true := List.all_eq_true.1 nodes_okNs ns hn
 have hlen : 0 < ns.length ∧ ns.length < 1000 ∧ kAt ns (ns.length - 1) ≠ 6 := by
  unfold okNs at hns
  simp only [Bool.and_eq_true, decide_eq_true_eq] at hns
  exact ⟨hns.1.1.2, hns.2, hns.1.2⟩
 apply a_calc_Eval
 unfold t_calc_Eval_0
 refine pu_boxX (cs := [sv]) (by have := cx.ev.c1s; simp [allCells, this.2]) fun h1 b1 w1 => ?_
 refine pu_allocX l_api_Val fun h2 b2 w2 => ?_
 have n1 := w1.n
 have e1 := w1.b
 have n2 := w2.n
 have e2 := w2.b
 have hb1 : h2.t.get b1 = some (.cells [sv] 26 false) := by rw [w2.old b1 (by omega)]; exact w1.at_
 have X2 : Ext h.n h h2 := (w1.ext (Nat.le_refl _)).trans (w2.ext (by omega))
 have cx2 := cx.ext X2
 refine (tree_ok hook_tree hn cx2.nd).mono ?_
 rintro y h3 ⟨rfl, rfl⟩
 rw [pu_not, Bool.not_true, pu_cond_f, pu_loadS l_api_Book hb1 (l := [sv]) rfl, build_ev (c1_lv k ns) cx2.ev.c1s cx2.ev.c1g]
 rw [show (Pu EE).lbui h3 #[43] .len [lvK k ns] = (Pu EE).lbui h3 #[43] .len [.slo k 0 ns.length ns.length 14] from rfl, pu_len cx2.nd.nb.rd s_sl_api_Node, sub1 hlen.1 (by omega)]
 obtain ⟨d, hd, hk⟩ := kAt_some hlen.2.2
 refine ((node_ok (own := own) hns hco cx2 ns.length (ns.length - 1) d (by omega) hd hk).2 h3 cx2 _ rfl).mono ?_
 rintro y h4 ⟨rfl, x4⟩
 have n4 := x4.n
 refine retV (by rw [x4.old b2 (by omega)]; exact w2.at_) rfl _ fun h5 w5 => ⟨rfl, by rw [w5.n]; omega, fun c hc => ?_⟩
 rw [w5.other c (by omega), x4.old c (by omega), X2.old c hc]
theorem may_evS {M k : Nat} {ns : List Nk} {sv gv : V} {bk : Bok} {g : Grd} (own : List Nat) (hn : ns ∈ nodesL) (hco : GoodRows bk) {h : Hp} (cx : NCx M k ns sv gv bk g h) : MayV (evS ns bk g own) := by
 have hns : okNs ns = true := List.all_eq_true.1 nodes_okNs ns hn
 have hlen : 0 < ns.length ∧ ns.length < 1000 ∧ kAt ns (ns.length - 1) ≠ 6 := by
  unfold okNs at hns
  simp only [Bool.and_eq_true, decide_eq_true_eq] at hns
  exact ⟨hns.1.1.2, hns.2, hns.1.2⟩
 obtain ⟨d, hd, hk⟩ := kAt_some hlen.2.2
 exact (node_ok (own := own) hns hco cx ns.length (ns.length - 1) d (by omega) hd hk).1
end
end Go.Proofs.YtbchdlelmkmagaaGreatDoor.VM
namespace Go.Proofs.YtbchdlelmkmagaaGreatDoor.VM
open Go
set_option linter.unusedVariables false
set_option maxRecDepth 100000
end Go.Proofs.YtbchdlelmkmagaaGreatDoor.VM
namespace Go.Proofs.YtbchdlelmkmagaaGreatDoor.VM
open Go
set_option linter.unusedVariables false
set_option linter.unusedSectionVars false
set_option linter.unusedSimpArgs false
set_option maxRecDepth 20000
noncomputable section
attribute [local instance] syZ
end
end Go.Proofs.YtbchdlelmkmagaaGreatDoor.VM
namespace Go.Proofs.YtbchdlelmkmagaaGreatDoor.VM
open Go
set_option linter.unusedVariables false
set_option linter.unusedSectionVars false
set_option linter.unusedSimpArgs false
set_option maxRecDepth 20000
noncomputable section
attribute [local instance] syZ
end
end Go.Proofs.YtbchdlelmkmagaaGreatDoor.VM
namespace Go.Proofs.YtbchdlelmkmagaaGreatDoor.VM
open Go
set_option linter.unusedVariables false
set_option linter.unusedSectionVars false
set_option linter.unusedSimpArgs false
set_option maxRecDepth 20000
noncomputable section
attribute [local instance] syZ
end
end Go.Proofs.YtbchdlelmkmagaaGreatDoor.VM
namespace Go.Proofs.YtbchdlelmkmagaaGreatDoor.VM
open Go
set_option linter.unusedVariables false
set_option linter.unusedSectionVars false
set_option linter.unusedSimpArgs false
set_option maxRecDepth 20000
noncomputable section
attribute [local instance] syZ
end
end Go.Proofs.YtbchdlelmkmagaaGreatDoor.VM
namespace Go.Proofs.YtbchdlelmkmagaaGreatDoor.VM
open Go
set_option linter.unusedVariables false
set_option linter.unusedSectionVars false
set_option linter.unusedSimpArgs false
set_option maxRecDepth 20000
noncomputable section
attribute [local instance] syZ
end
end Go.Proofs.YtbchdlelmkmagaaGreatDoor.VM
namespace Go.Proofs.YtbchdlelmkmagaaGreatDoor.VM
open Go
set_option linter.unusedVariables false
set_option linter.unusedSectionVars false
set_option linter.unusedSimpArgs false
set_option maxRecDepth 20000
noncomputable section
attribute [local instance] syZ
end
end Go.Proofs.YtbchdlelmkmagaaGreatDoor.VM
namespace Go.Proofs.YtbchdlelmkmagaaGreatDoor.VM
open Go
set_option linter.unusedVariables false
set_option linter.unusedSectionVars false
set_option linter.unusedSimpArgs false
set_option maxRecDepth 20000
noncomputable section
attribute [local instance] syZ
end
end Go.Proofs.YtbchdlelmkmagaaGreatDoor.VM
namespace Go.Proofs.YtbchdlelmkmagaaGreatDoor.VM
open Go
set_option linter.unusedVariables false
set_option linter.unusedSectionVars false
set_option linter.unusedSimpArgs false
set_option maxRecDepth 20000
noncomputable section
attribute [local instance] syZ
end
end Go.Proofs.YtbchdlelmkmagaaGreatDoor.VM
namespace Go.Proofs.YtbchdlelmkmagaaGreatDoor.VM
open Go
set_option linter.unusedVariables false
set_option linter.unusedSectionVars false
set_option linter.unusedSimpArgs false
set_option maxRecDepth 20000
noncomputable section
attribute [local instance] syZ
end
end Go.Proofs.YtbchdlelmkmagaaGreatDoor.VM
namespace Go.Proofs.YtbchdlelmkmagaaGreatDoor.VM
open Go
set_option linter.unusedVariables false
set_option linter.unusedSectionVars false
set_option linter.unusedSimpArgs false
set_option maxRecDepth 20000
noncomputable section
attribute [local instance] syZ
end
end Go.Proofs.YtbchdlelmkmagaaGreatDoor.VM
namespace Go.Proofs.YtbchdlelmkmagaaGreatDoor.VM
open Go
set_option linter.unusedVariables false
set_option linter.unusedSectionVars false
set_option linter.unusedSimpArgs false
set_option maxRecDepth 20000
noncomputable section
attribute [local instance] syZ
end
end Go.Proofs.YtbchdlelmkmagaaGreatDoor.VM
namespace Go.Proofs.YtbchdlelmkmagaaGreatDoor.VM
open Go
set_option linter.unusedVariables false
set_option linter.unusedSectionVars false
set_option linter.unusedSimpArgs false
set_option maxRecDepth 20000
noncomputable section
attribute [local instance] syZ
end
end Go.Proofs.YtbchdlelmkmagaaGreatDoor.VM
namespace Go.Proofs.YtbchdlelmkmagaaGreatDoor.VM
open Go
set_option linter.unusedVariables false
set_option linter.unusedSectionVars false
set_option linter.unusedSimpArgs false
set_option maxRecDepth 20000
noncomputable section
attribute [local instance] syZ
end
end Go.Proofs.YtbchdlelmkmagaaGreatDoor.VM
namespace Go.Proofs.YtbchdlelmkmagaaGreatDoor.VM
open Go
set_option linter.unusedVariables false
set_option linter.unusedSectionVars false
set_option linter.unusedSimpArgs false
set_option maxRecDepth 20000
noncomputable section
attribute [local instance] syZ
end
end Go.Proofs.YtbchdlelmkmagaaGreatDoor.VM
namespace Go.Proofs.YtbchdlelmkmagaaGreatDoor.VM
open Go
set_option linter.unusedVariables false
set_option linter.unusedSectionVars false
set_option linter.unusedSimpArgs false
set_option maxRecDepth 20000
noncomputable section
attribute [local instance] syZ
end
end Go.Proofs.YtbchdlelmkmagaaGreatDoor.VM
namespace Go.Proofs.YtbchdlelmkmagaaGreatDoor.VM
open Go
set_option linter.unusedVariables false
set_option linter.unusedSectionVars false
set_option linter.unusedSimpArgs false
set_option maxRecDepth 20000
noncomputable section
attribute [local instance] syZ
section
variable {M k : Nat} {ns : List Nk} {sv gv : V} {bk : Bok} {g : Grd} {own : List Nat} {h0 : Hp} {b1 b2 b3 kb : Nat} {d : Nk} {Q : QQ}
end
end
end Go.Proofs.YtbchdlelmkmagaaGreatDoor.VM
namespace Go.Proofs.YtbchdlelmkmagaaGreatDoor.VM
open Go
set_option linter.unusedVariables false
set_option linter.unusedSectionVars false
set_option linter.unusedSimpArgs false
set_option maxRecDepth 20000
noncomputable section
attribute [local instance] syZ
end
end Go.Proofs.YtbchdlelmkmagaaGreatDoor.VM
namespace Go.Proofs.YtbchdlelmkmagaaGreatDoor.VM
open Go
set_option linter.unusedVariables false
set_option linter.unusedSectionVars false
set_option linter.unusedSimpArgs false
set_option maxRecDepth 20000
noncomputable section
attribute [local instance] syZ
section
variable {M k : Nat} {ns : List Nk} {sv gv : V} {bk : Bok} {g : Grd} {own : List Nat}
end
end
end Go.Proofs.YtbchdlelmkmagaaGreatDoor.VM
namespace Go.Proofs.YtbchdlelmkmagaaGreatDoor.VM
open Go
set_option linter.unusedVariables false
set_option linter.unusedSectionVars false
set_option linter.unusedSimpArgs false
set_option maxRecDepth 20000
noncomputable section
attribute [local instance] syZ
end
end Go.Proofs.YtbchdlelmkmagaaGreatDoor.VM
namespace Go.Proofs.YtbchdlelmkmagaaGreatDoor.VM
open Go
set_option linter.unusedVariables false
set_option linter.unusedSectionVars false
set_option linter.unusedSimpArgs false
set_option maxRecDepth 20000
noncomputable section
attribute [local instance] syZ
theorem At2.app {g : Grd} {rows : List (List Vl)} {i r : Nat} {row : List Vl} (a : At2 (g ++ [rows]) i r row) : (At2 g i r row ∧ i < g.length) ∨ (i = g.length ∧ rows[r]? = some row) := by
 obtain ⟨rs, h1, h2⟩ := a
 rw [List.getElem?_append] at h1
 split at h1
 ·rename_i hi; exact .inl ⟨⟨rs, h1, h2⟩, hi⟩
 ·rename_i hi
  have : i - g.length = 0 := by
   cases e : i - g.length with
   | zero => rfl
   | succ k => rw [e] at h1; simp at h1
  rw [this] at h1
  cases h1
  exact .inr ⟨by omega, h2⟩
structure LeafR (N U : Nat) (h : Hp) (us : List V) (rows : List (List Vl)) (B : Nat → Nat) : Prop where
 k : RowsK h us rows B
 inj : ∀ r s, r < rows.length → s < rows.length → B r = B s → r = s
 lt : ∀ r, r < rows.length → N ≤ B r ∧ B r < U
theorem LeafR.nil (N U : Nat) (h : Hp) (us : List V) (B : Nat → Nat) : LeafR N U h us [] B := ⟨fun r row hr => by simp at hr, fun r s hr => by simp at hr, fun r hr => by simp at hr⟩
theorem LeafR.keep {N U U' : Nat} {h h' : Hp} {us us' : List V} {rows : List (List Vl)} {B : Nat → Nat} (a : LeafR N U h us rows B) (hU : U ≤ U') (hu : ∀ r, r < rows.length → us'[r]? = us[r]?) (hk : ∀ r, r < rows.length → h'.t.get (B r) = h.t.get (B r)) : LeafR N U' h' us' rows B := by
 refine ⟨fun r row hr => ?_, a.inj, fun r hr => ⟨(a.lt r hr).1, by have := (a.lt r hr).2; omega⟩⟩
 have hl := (List.getElem?_eq_some_iff.1 hr).1
 obtain ⟨u, h1, h2, h3⟩ := a.k r row hr
 exact ⟨u, by rw [hu r hl]; exact h1, h2, by rw [hk r hl]; exact h3⟩
theorem LeafR.grow {N U U' : Nat} {h : Hp} {us : List V} {rows : List (List Vl)} {B : Nat → Nat} (a : LeafR N U h us rows B) {u : V} {b : Nat} {row : List Vl} (hu : us[rows.length]? = some u) (hv : LeafV b row.length u) (hb : h.t.get b = some (.cells (vlCs row) 48 false)) (h1 : N ≤ b) (h2 : U ≤ b) (h3 : b < U') :
  LeafR N U' h us (rows ++ [row]) (fun r => if r = rows.length then b else B r) := by
 refine ⟨fun r row' hr => ?_, fun r s hr hs e => ?_, fun r hr => ?_⟩
 ·rw [List.getElem?_append] at hr
  split at hr
  ·rename_i hl
   obtain ⟨w, k1, k2, k3⟩ := a.k r row' hr
   refine ⟨w, k1, ?_, ?_⟩
   ·simp only [if_neg (by omega : ¬ r = rows.length)]; exact k2
   ·simp only [if_neg (by omega : ¬ r = rows.length)]; exact k3
  ·rename_i hl
   have e : r - rows.length = 0 := by
    cases q : r - rows.length with
    | zero => rfl
    | succ k => rw [q] at hr; simp at hr
   rw [e] at hr
   cases hr
   obtain rfl : r = rows.length := by omega
   refine ⟨u, hu, ?_, ?_⟩
   ·simp only [if_true]; exact hv
   ·simp only [if_true]; exact hb
 ·rw [List.length_append, List.length_singleton] at hr hs
  have l1 : ∀ t, t < rows.length → B t < b := fun t ht => by have := (a.lt t ht).2; omega
  by_cases e1 : r = rows.length
  ·by_cases e2 : s = rows.length
   ·omega
   ·simp only [if_pos e1, if_neg e2] at e
    have := l1 s (by omega); omega
  ·by_cases e2 : s = rows.length
   ·simp only [if_neg e1, if_pos e2] at e
    have := l1 r (by omega); omega
   ·simp only [if_neg e1, if_neg e2] at e
    exact a.inj r s (by omega) (by omega) e
 ·rw [List.length_append, List.length_singleton] at hr
  by_cases e1 : r = rows.length
  ·simp only [if_pos e1]; omega
  ·simp only [if_neg e1]
   have := a.lt r (by omega); omega
structure GrO (N U : Nat) (h : Hp) (ws : List V) (g : Grd) (B : Nat → Nat → Nat) (sp : Nat → Prop) : Prop where
 k : GridK h ws g B sp
 inj : ∀ i r j s row row', At2 g i r row → At2 g j s row' → B i r = B j s → i = j ∧ r = s
 sep : ∀ i r row, At2 g i r row → ¬ sp (B i r)
 lt : ∀ i r row, At2 g i r row → N ≤ B i r ∧ B i r < U
 sl : ∀ b, sp b → N ≤ b ∧ b < U
theorem GrO.nil (N U : Nat) (h : Hp) (ws : List V) (B : Nat → Nat → Nat) : GrO N U h ws [] B fun _ => False :=
 ⟨fun i rows hi => by simp at hi, fun i r j s row row' ⟨rs, hi, _⟩ => by simp at hi, fun i r row ⟨rs, hi, _⟩ => by simp at hi, fun i r row ⟨rs, hi, _⟩ => by simp at hi, fun b hb => hb.elim⟩
theorem GrO.keep {N U U' : Nat} {h h' : Hp} {ws ws' : List V} {g : Grd} {B : Nat → Nat → Nat} {sp : Nat → Prop} (a : GrO N U h ws g B sp) (hU : U ≤ U') (hw : ∀ i, i < g.length → ws'[i]? = ws[i]?) (hs : ∀ b, sp b → h'.t.get b = h.t.get b) (hl : ∀ i r row, At2 g i r row → h'.t.get (B i r) = h.t.get (B i r)) : GrO N U' h' ws' g B sp := by
 refine ⟨fun i rows hi => ?_, a.inj, a.sep, fun i r row q => ⟨(a.lt i r row q).1, by have := (a.lt i r row q).2; omega⟩, fun b hb => ⟨(a.sl b hb).1, by have := (a.sl b hb).2; omega⟩⟩
 obtain ⟨w, us, k1, k2, k3, k4⟩ := a.k i rows hi
 refine ⟨w, us, by rw [hw i (List.getElem?_eq_some_iff.1 hi).1]; exact k1, k2.same fun c hc => hs c (k3 c hc), k3, fun r row hr => ?_⟩
 obtain ⟨u, q1, q2, q3⟩ := k4 r row hr
 exact ⟨u, q1, q2, by rw [hl i r row ⟨rows, hi, hr⟩]; exact q3⟩
theorem GrO.grow {N U M U' : Nat} {h : Hp} {ws us : List V} {g : Grd} {B : Nat → Nat → Nat} {sp : Nat → Prop} (a : GrO N U h ws g B sp) {w : V} {rows : List (List Vl)} {Bc : Nat → Nat} (hw : ws[g.length]? = some w) (hr : Rd h 1 w rows.length us) (hL : LeafR M U' h us rows Bc) (hN : N ≤ U) (hM : U ≤ M) (hU : U ≤ U')
  (h1 : ∀ b, blkOf w = some b → U ≤ b ∧ b < U') (h2 : ∀ r, r < rows.length → blkOf w ≠ some (Bc r)) :
  GrO N U' h ws (g ++ [rows]) (fun i => if i = g.length then Bc else B i) (fun b => sp b ∨ blkOf w = some b) := by
 have old : ∀ {i r : Nat} {row : List Vl}, At2 g i r row → i < g.length := fun ⟨rs, hi, _⟩ => (List.getElem?_eq_some_iff.1 hi).1
 have rl : ∀ {r : Nat} {row : List Vl}, rows[r]? = some row → r < rows.length := fun hh => (List.getElem?_eq_some_iff.1 hh).1
 refine ⟨fun i rows' hi => ?_, fun i r j s row row' a1 a2 e => ?_, fun i r row a1 => ?_, fun i r row a1 => ?_, fun b hb => ?_⟩
 ·rw [List.getElem?_append] at hi
  split at hi
  ·rename_i hl
   obtain ⟨w1, us1, k1, k2, k3, k4⟩ := a.k i rows' hi
   refine ⟨w1, us1, k1, k2, fun b hb => .inl (k3 b hb), ?_⟩
   simp only [if_neg (by omega : ¬ i = g.length)]
   exact k4
  ·rename_i hl
   have e : i - g.length = 0 := by
    cases q : i - g.length with
    | zero => rfl
    | succ k => rw [q] at hi; simp at hi
   rw [e] at hi
   cases hi
   obtain rfl : i = g.length := by omega
   refine ⟨w, us, hw, hr, fun b hb => .inr hb, ?_⟩
   simp only [if_true]
   exact hL.k
 ·rcases a1.app with ⟨c1, l1⟩ | ⟨rfl, c1⟩
  ·rcases a2.app with ⟨c2, l2⟩ | ⟨rfl, c2⟩
   ·simp only [if_neg (by omega : ¬ i = g.length), if_neg (by omega : ¬ j = g.length)] at e
    exact a.inj _ _ _ _ _ _ c1 c2 e
   ·simp only [if_neg (by omega : ¬ i = g.length), if_true] at e
    have := (a.lt _ _ _ c1).2
    have := (hL.lt s (rl c2)).1
    omega
  ·rcases a2.app with ⟨c2, l2⟩ | ⟨rfl, c2⟩
   ·simp only [if_neg (by omega : ¬ j = g.length), if_true] at e
    have := (a.lt _ _ _ c2).2
    have := (hL.lt r (rl c1)).1
    omega
   ·simp only [if_true] at e
    exact ⟨rfl, hL.inj r s (rl c1) (rl c2) e⟩
 ·rcases a1.app with ⟨c1, l1⟩ | ⟨rfl, c1⟩
  ·simp only [if_neg (by omega : ¬ i = g.length)]
   rintro (q | q)
   ·exact a.sep _ _ _ c1 q
   ·have := (h1 _ q).1
    have := (a.lt _ _ _ c1).2
    omega
  ·simp only [if_true]
   rintro (q | q)
   ·have := (a.sl _ q).2
    have := (hL.lt r (rl c1)).1
    omega
   ·exact h2 r (rl c1) q
 ·rcases a1.app with ⟨c1, l1⟩ | ⟨rfl, c1⟩
  ·simp only [if_neg (by omega : ¬ i = g.length)]
   have := a.lt _ _ _ c1
   omega
  ·simp only [if_true]
   have := hL.lt r (rl c1)
   omega
 ·rcases hb with q | q
  ·have := a.sl b q; omega
  ·have := h1 b q; omega
theorem GrO.grid {N U : Nat} {h : Hp} {v : V} {ws : List V} {g : Grd} {B : Nat → Nat → Nat} {sp : Nat → Prop} (a : GrO N U h ws g B sp) (hr : Rd h 1 v g.length ws) (hU : U ≤ h.n) (hv : ∀ b, blkOf v = some b → b < h.n ∧ ∀ i r row, At2 g i r row → B i r ≠ b) : GridG N h v g B (fun b => sp b ∨ blkOf v = some b) := by
 refine ⟨⟨ws, hr, fun i rows hi => ?_⟩, fun b hb => .inr hb, a.inj, fun i r row q hh => ?_, fun i r row q => ⟨(a.lt i r row q).1, by have := (a.lt i r row q).2; omega⟩, fun b hb => ?_⟩
 ·obtain ⟨w, us, k1, k2, k3, k4⟩ := a.k i rows hi
  exact ⟨w, us, k1, k2, fun b hb => .inl (k3 b hb), k4⟩
 ·rcases hh with hh | hh
  ·exact a.sep i r row q hh
  ·exact (hv _ hh).2 i r row q rfl
 ·rcases hb with hb | hb
  ·have := (a.sl b hb).2; omega
  ·exact (hv b hb).1
def plainR (row : List (List Nat)) : List Vl := row.map plainS
def plainH (s : Sht) : List (List Vl) := s.rows.map plainR
def plainG (bk : Bok) : Grd := bk.map plainH
structure Sm (bk : Bok) : Prop where
 len : bk.length ≤ 16
 rows : ∀ t ∈ bk, 0 < t.rows.length ∧ t.rows.length ≤ 16 ∧ ∀ row ∈ t.rows, 0 < row.length ∧ row.length ≤ 16
 txt : TextsIn bk
theorem take_snoc1 {α : Type} {l : List α} {i : Nat} {x : α} (h : l[i]? = some x) : l.take (i + 1) = l.take i ++ [x] := by
 obtain ⟨hi, he⟩ := List.getElem?_eq_some_iff.1 h
 rw [← he, List.take_succ_eq_append_getElem hi]
theorem rep_flat (n : Nat) : rep n [.int .i64 0, .int .i64 0, .str []] = vlCs (List.replicate n vl0) := by
 induction n with
 | zero => rfl
 | succ n ih => rw [List.replicate_succ]; show _ ++ rep n _ = _; rw [ih]; rfl
theorem pu_mkslV {n : Nat} (hn : n ≤ 16) {h : Hp} {q : V → Hp → Blk → Prop} (hq : ∀ h1 b, New h h1 b (.cells (vlCs (List.replicate n vl0)) 48 false) → q (.sl b 0 n n) h1 (.cells (vlCs (List.replicate n vl0)) 48 false)) : (Pu EE).mksl h 39 (.int .i64 n) (.int .i64 n) q := by
 obtain ⟨ti, h1, h2⟩ := s_sl_api_Val
 obtain ⟨⟨j, h3, h4, h5, h6, h7⟩, h8⟩ := l_api_Val
 have hb : (Nat.ble n n && Nat.ble (j.bytes * n) 1048576 && Nat.ble n 1048576 && Nat.beq ([.int .i64 0, .int .i64 0, .str []] : List V).length j.size) = true := by
  have : j.bytes * n ≤ 65536 * 16 := Nat.mul_le_mul h6 hn
  rw [h4]
  simp only [Bool.and_eq_true, Nat.ble_eq, List.length_cons, List.length_nil, Nat.beq_eq]
  exact ⟨⟨⟨Nat.le_refl _, by omega⟩, by omega⟩, trivial⟩
 refine ⟨(.sl n n, .cells (vlCs (List.replicate n vl0)) 48 false), ?_, hq _ _ (New.mk' _ _)⟩
 rw [← rep_flat]
 simp only [h1, Option.bind_some, makeV, h2, natOf_nat, h3, h5, hb, cond_true]
theorem hook_plA : EE.hook 17 = some (txH plM) := by kernel_rfl
theorem hook_plB : EE.hook 13 = some (txH plM) := by kernel_rfl
theorem plain_ok {f : Nat} (hk : EE.hook f = some (txH plM)) {t : List Nat} (ht : t ∈ textL) (h : Hp) : Ans EE f [.str t] h fun x h' => x = valV (plainS t) ∧ Ext h.n h h' := by
 refine ⟨_, _, Cs.hook hk (txH_at ht rfl h), ?_, ⟨by simp [plM, Hp.app], fun b hb => Hp.get_app_old _ _ hb⟩⟩
 simp [plM, valV, vlC, V.ren, V.renL]
end
end Go.Proofs.YtbchdlelmkmagaaGreatDoor.VM
namespace Go.Proofs.YtbchdlelmkmagaaGreatDoor.VM
open Go
set_option linter.unusedVariables false
set_option linter.unusedSectionVars false
set_option linter.unusedSimpArgs false
set_option maxRecDepth 20000
noncomputable section
attribute [local instance] syZ
theorem fill_step {l : List Vl} {n c : Nat} (hn : l.length = n) {x : Vl} (hx : l[c]? = some x) : (l.take c ++ List.replicate (n - c) vl0).set c x = l.take (c + 1) ++ List.replicate (n - (c + 1)) vl0 := by
 have hc := (List.getElem?_eq_some_iff.1 hx).1
 rw [take_snoc1 hx, List.set_append_right _ _ (by rw [List.length_take]; omega), List.length_take, Nat.min_eq_left (by omega), Nat.sub_self, show n - c = (n - (c + 1)) + 1 by omega, List.replicate_succ, List.set_cons_zero, List.append_assoc]
 rfl
theorem same_sl (b o l c : Nat) (k : Prop) : (Pu EE).same (.sl b o l c) (.sl b o l c) k ↔ k := by
 show (sameV _ _ = true ∧ k) ↔ k
 have : sameV (.sl b o l c) (.sl b o l c) = true := by simp [sameV, same1]
 simp [this]
theorem cell_loop3 (Q : V → Hp → Prop) {M bo T bl i r R C S : Nat} {h0 : Hp} {ws us : List V} {row : List (List Nat)} {v1 v26 v27 v41 v42 v57 : V}
  (hC : row.length = C) (hC16 : C ≤ 16) (htx : ∀ t ∈ row, t ∈ textL) (hrow : RowAt M h0 v57 row) (hM : M ≤ bl) (hr1 : r < 1000)
  (hbo : h0.t.get bo = some (.cells ws 35 false)) (hwl : ws.length = S) (hwi : ws[i]? = some (.sl T 0 R R))
  (hT : h0.t.get T = some (.cells us 39 false)) (hul : us.length = R) (hur : us[r]? = some (.sl bl 0 C C))
  (l1 : bo < h0.n) (l2 : T < h0.n) (l3 : bl < h0.n) (d1 : bo ≠ bl) (d2 : T ≠ bl)
  (hq : ∀ h', h0.n ≤ h'.n → (∀ b, b < h0.n → b ≠ bl → h'.t.get b = h0.t.get b) → h'.t.get bl = some (.cells (vlCs (plainR row)) 48 false) → L_calc_Values_2 Q v1 (.sl bo 0 S S) (.int .i64 i) v26 v27 (.int .i64 i) v41 v42 (.int .i64 ((r + 1 : Nat) : Int)) h') :
  ∀ (j c : Nat), C - c = j → c ≤ C → ∀ h : Hp, h0.n ≤ h.n → (∀ b, b < h0.n → b ≠ bl → h.t.get b = h0.t.get b) → h.t.get bl = some (.cells (vlCs ((plainR row).take c ++ List.replicate (C - c) vl0)) 48 false) →
   L_calc_Values_3 Q v1 (.sl bo 0 S S) (.int .i64 i) (.int .i64 r) v26 v27 (.int .i64 i) v41 v42 (.int .i64 r) v57 (.int .i64 C) (.int .i64 c) h := by
 have hpl : (plainR row).length = C := by unfold plainR; rw [List.length_map, hC]
 intro j
 induction j with
 | zero =>
  intro c hj hc h hn hf hl
  apply r_calc_Values_3
  unfold t_calc_Values_3
  rw [pu_lssN, decide_eq_false (by omega : ¬ c < C), pu_cond_f, pu_inc _ _ _ _ (by omega)]
  obtain rfl : c = C := by omega
  rw [Nat.sub_self, List.replicate_zero, List.append_nil, List.take_of_length_le (by omega)] at hl
  exact hq h hn hf hl
 | succ j ih =>
  intro c hj hc h hn hf hl
  have hcC : c < C := by omega
  obtain ⟨t, ht⟩ : ∃ t, row[c]? = some t := ⟨_, List.getElem?_eq_getElem (by omega)⟩
  have hiS : i < S := by have := (List.getElem?_eq_some_iff.1 hwi).1; omega
  have hrR : r < R := by have := (List.getElem?_eq_some_iff.1 hur).1; omega
  have hr' : RowAt M h v57 row := hrow.ext ⟨hn, fun b hb => hf b (by omega) (by omega)⟩
  have hbo' : h.t.get bo = some (.cells ws 35 false) := (hf bo l1 d1).trans hbo
  have hT' : h.t.get T = some (.cells us 39 false) := (hf T l2 d2).trans hT
  obtain ⟨b1, o1, g1, g2⟩ := row_get hr' s_sl_string l_string ht
  apply r_calc_Values_3
  unfold t_calc_Values_3
  rw [pu_lssN, decide_eq_true hcC, pu_cond_t, g1, g2, iaddr_sl s_sl_sl_sl_api_Val l_sl_sl_api_Val _ _ _ _ _ hiS, Nat.zero_add, Nat.mul_one, pu_load1 l_sl_sl_api_Val hbo' hwi, iaddr_sl s_sl_sl_api_Val l_sl_api_Val _ _ _ _ _ hrR, Nat.zero_add, Nat.mul_one, pu_load1 l_sl_api_Val hT' hur]
  refine (plain_ok hook_plA (htx t (List.mem_of_getElem? ht)) h).mono ?_
  rintro x h9 ⟨rfl, x9⟩
  have n9 := x9.n
  have hl9 : h9.t.get bl = some (.cells (vlCs ((plainR row).take c ++ List.replicate (C - c) vl0)) 48 false) := (x9.old bl (by omega)).trans hl
  rw [load_keep (x9.old T (by omega)), pu_load1 l_sl_api_Val hT' hur, same_sl, load_keep (x9.old bo (by omega)), pu_load1 l_sl_sl_api_Val hbo' hwi, same_sl, iaddr_sl s_sl_api_Val l_api_Val _ _ _ _ _ hcC, Nat.zero_add]
  have hx : (plainR row)[c]? = some (plainS t) := by unfold plainR; rw [List.getElem?_map, ht]; rfl
  refine pu_storeX l_api_Val hl9 (x := valV (plainS t)) rfl rfl (spl_val _ c (plainS t) (by rw [List.length_append, List.length_take, List.length_replicate]; omega)) fun h13 w13 => ?_
  have n13 := w13.n
  rw [pu_inc _ _ _ _ (by omega)]
  refine ih (c + 1) (by omega) (by omega) h13 (by omega) (fun b hb hne => ?_) ?_
  ·rw [w13.other b hne, x9.old b (by omega), hf b hb hne]
  ·rw [← fill_step hpl hx]; exact w13.at_
theorem row_loop2 (Q : V → Hp → Prop) {M bo T i S : Nat} {h0 : Hp} {ws : List V} {rs : List (List (List Nat))} {v1 v26 v27 v41 : V}
  (hR : rs.length ≤ 16) (hrows : ∀ row ∈ rs, row.length ≤ 16) (htx : ∀ row ∈ rs, ∀ t ∈ row, t ∈ textL) (hrs : RowsAt M h0 v41 rs) (hM : M ≤ bo) (hM2 : M ≤ T)
  (hbo : h0.t.get bo = some (.cells ws 35 false)) (hwl : ws.length = S) (hwi : ws[i]? = some (.sl T 0 rs.length rs.length)) (hi : i < 1000)
  (l1 : bo < h0.n) (l2 : T < h0.n) (d : bo ≠ T)
  (hq : ∀ h' us B, h0.n ≤ h'.n → (∀ b, b < h0.n → b ≠ T → h'.t.get b = h0.t.get b) → h'.t.get T = some (.cells us 39 false) → us.length = rs.length → LeafR h0.n h'.n h' us (rs.map plainR) B → L_calc_Values_1 Q v1 (.sl bo 0 S S) v26 v27 (.int .i64 ((i + 1 : Nat) : Int)) h') :
  ∀ (j r : Nat), rs.length - r = j → r ≤ rs.length → ∀ (h : Hp) (us : List V) (B : Nat → Nat), h0.n ≤ h.n → (∀ b, b < h0.n → b ≠ T → h.t.get b = h0.t.get b) → h.t.get T = some (.cells us 39 false) → us.length = rs.length → LeafR h0.n h.n h us ((rs.map plainR).take r) B →
   L_calc_Values_2 Q v1 (.sl bo 0 S S) (.int .i64 i) v26 v27 (.int .i64 i) v41 (.int .i64 rs.length) (.int .i64 r) h := by
 intro j
 induction j with
 | zero =>
  intro r hj hr h us B hn hf hT hul hL
  apply r_calc_Values_2
  unfold t_calc_Values_2
  rw [pu_lssN, decide_eq_false (by omega : ¬ r < rs.length), pu_cond_f, pu_inc _ _ _ _ (by omega)]
  rw [List.take_of_length_le (by rw [List.length_map]; omega)] at hL
  exact hq h us B hn hf hT hul hL
 | succ j ih =>
  intro r hj hr h us B hn hf hT hul hL
  have hrR : r < rs.length := by omega
  obtain ⟨row, hrow⟩ : ∃ row, rs[r]? = some row := ⟨_, List.getElem?_eq_getElem hrR⟩
  have hmem := List.mem_of_getElem? hrow
  have hC := hrows row hmem
  have hiS : i < S := by have := (List.getElem?_eq_some_iff.1 hwi).1; omega
  have hrs' : RowsAt M h v41 rs := hrs.ext ⟨hn, fun b hb => hf b (by omega) (by omega)⟩
  have hbo' : h.t.get bo = some (.cells ws 35 false) := (hf bo l1 d).trans hbo
  obtain ⟨b1, o1, w, g1, g2, g3⟩ := rows_get hrs' s_sl_sl_string l_sl_string hrow
  apply r_calc_Values_2
  unfold t_calc_Values_2
  rw [pu_lssN, decide_eq_true hrR, pu_cond_t, g1, g2, iaddr_sl s_sl_sl_sl_api_Val l_sl_sl_api_Val _ _ _ _ _ hiS, Nat.zero_add, Nat.mul_one, pu_load1 l_sl_sl_api_Val hbo' hwi, pu_len g3.1 s_sl_string]
  refine pu_mkslV hC fun h8 b9 w8 => ?_
  have n8 := w8.n
  have e8 := w8.b
  have hT8 : h8.t.get T = some (.cells us 39 false) := (w8.old T (by omega)).trans hT
  rw [pu_len g3.1 s_sl_string, same_int, load_keep (w8.old bo (by omega)), pu_load1 l_sl_sl_api_Val hbo' hwi, same_sl, iaddr_sl s_sl_sl_api_Val l_sl_api_Val _ _ _ _ _ hrR, Nat.zero_add, Nat.mul_one]
  refine pu_storeX l_sl_api_Val hT8 (x := .sl b9 0 row.length row.length) rfl rfl (spl_one us r _ (by omega)) fun h13 w13 => ?_
  have n13 := w13.n
  have g13 : RowAt M h13 w row := g3.ext ⟨by omega, fun b hb => by rw [w13.other b (by omega), w8.old b (by omega)]⟩
  rw [pu_len g3.1 s_sl_string]
  have hset : (us.set r (.sl b9 0 row.length row.length))[r]? = some (.sl b9 0 row.length row.length) := by rw [List.getElem?_set_self (by omega)]
  have hLl : ((rs.map plainR).take r).length = r := by rw [List.length_take, List.length_map]; omega
  refine cell_loop3 Q (M := M) (T := T) (bl := b9) (R := rs.length) (C := row.length) (ws := ws) (us := us.set r (.sl b9 0 row.length row.length)) rfl hC (htx row hmem) g13 (by omega) (by omega) ?_ hwl hwi w13.at_ (by rw [List.length_set]; exact hul) hset (by omega) (by omega) (by omega) (by omega) (by omega) (fun h' hn' hf' hl' => ?_) row.length 0 (by omega) (Nat.zero_le _) h13 (Nat.le_refl _) (fun _ _ _ => rfl) ?_
  ·rw [w13.other bo d, w8.old bo (by omega)]; exact hbo'
  ·have hTT : h'.t.get T = some (.cells (us.set r (.sl b9 0 row.length row.length)) 39 false) := by rw [hf' T (by omega) (by omega)]; exact w13.at_
   refine ih (r + 1) (by omega) (by omega) h' (us.set r (.sl b9 0 row.length row.length)) (fun t => if t = ((rs.map plainR).take r).length then b9 else B t) (by omega) (fun b hb hne => ?_) hTT (by rw [List.length_set]; exact hul) ?_
   ·rw [hf' b (by omega) (by omega), w13.other b hne, w8.old b (by omega), hf b hb hne]
   ·have hx : (rs.map plainR)[r]? = some (plainR row) := by rw [List.getElem?_map, hrow]; rfl
    rw [take_snoc1 hx]
    have hL' : LeafR h0.n h.n h' (us.set r (.sl b9 0 row.length row.length)) ((rs.map plainR).take r) B := by
     refine hL.keep (Nat.le_refl _) (fun t ht => ?_) (fun t ht => ?_)
     ·rw [List.getElem?_set_ne (by omega)]
     ·have := hL.lt t ht
      rw [hf' (B t) (by omega) (by omega), w13.other (B t) (by omega), w8.old (B t) (by omega)]
    refine hL'.grow (by rw [hLl]; exact hset) (.inl ?_) hl' (by omega) (by omega) (by omega)
    unfold plainR
    rw [List.length_map]
  ·rw [w13.other b9 (by omega), List.take_zero, List.nil_append, Nat.sub_zero]
   exact w8.at_
theorem sheet_loop1 (Q : V → Hp → Prop) {M N bo b1 : Nat} {h0 : Hp} {bk : Bok} {sv : V} (sm : Sm bk) (hN : N = h0.n) (l1 : bo < N) (hM : M ≤ bo) (l2 : b1 < bo)
  (box : h0.t.get b1 = some (.cells [sv] 26 false)) (hs : ShsAt M h0 sv bk)
  (hq : ∀ h' ws B sp, N ≤ h'.n → (∀ b, b < N → b ≠ bo → h'.t.get b = h0.t.get b) → h'.t.get bo = some (.cells ws 35 false) → ws.length = bk.length → GrO N h'.n h' ws (plainG bk) B sp → L_calc_Values_1 Q (.ptr b1 0) (.sl bo 0 bk.length bk.length) sv (.int .i64 bk.length) (.int .i64 bk.length) h') :
  ∀ (j i : Nat), bk.length - i = j → i ≤ bk.length → ∀ (h : Hp) (ws : List V) (B : Nat → Nat → Nat) (sp : Nat → Prop), N ≤ h.n → (∀ b, b < N → b ≠ bo → h.t.get b = h0.t.get b) → h.t.get bo = some (.cells ws 35 false) → ws.length = bk.length → GrO N h.n h ws ((plainG bk).take i) B sp →
   L_calc_Values_1 Q (.ptr b1 0) (.sl bo 0 bk.length bk.length) sv (.int .i64 bk.length) (.int .i64 i) h := by
 have hS := sm.len
 intro j
 induction j with
 | zero =>
  intro i hj hi h ws B sp hn hf hbo hwl hG
  obtain rfl : i = bk.length := by omega
  rw [List.take_of_length_le (by unfold plainG; rw [List.length_map]; exact Nat.le_refl _)] at hG
  exact hq h ws B sp hn hf hbo hwl hG
 | succ j ih =>
  intro i hj hi h ws B sp hn hf hbo hwl hG
  have hiS : i < bk.length := by omega
  obtain ⟨s, hs_⟩ : ∃ s, bk[i]? = some s := ⟨_, List.getElem?_eq_getElem hiS⟩
  have hmem := List.mem_of_getElem? hs_
  obtain ⟨r1, r2, r3⟩ := sm.rows s hmem
  have hs' : ShsAt M h sv bk := hs.ext ⟨by omega, fun b hb => hf b (by omega) (by omega)⟩
  obtain ⟨b2, o2, rv, g1, g2, g3, _⟩ := sht_get hs' s_sl_api_Sheet l_api_Sheet hs_
  obtain ⟨vs, hrd⟩ := g3.rd
  have cr := hrd.c1
  apply r_calc_Values_1
  unfold t_calc_Values_1
  rw [pu_lssN, decide_eq_true hiS, pu_cond_t, g1, g2]
  refine pu_allocX l_api_Sheet fun h5 b6 w5 => ?_
  have n5 := w5.n
  have e5 := w5.b
  refine pu_storeX l_api_Sheet w5.at_ (x := .agg (shtC s rv)) rfl (show allCells (shtC s rv) = true by simp [shtC, allCells, V.isCell]; exact cr.2) (r := shtC s rv) rfl fun h7 w7 => ?_
  have n7 := w7.n
  rw [fa_api_Sheet_2, pu_load1 l_sl_sl_string w7.at_ (v := rv) rfl, pu_len hrd s_sl_sl_string]
  refine pu_mkslX s_sl_sl_api_Val l_sl_api_Val r2 fun h12 T w12 => ?_
  have n12 := w12.n
  have e12 := w12.b
  have hbo12 : h12.t.get bo = some (.cells ws 35 false) := by rw [w12.old bo (by omega), w7.other bo (by omega), w5.old bo (by omega)]; exact hbo
  rw [iaddr_sl s_sl_sl_sl_api_Val l_sl_sl_api_Val _ _ _ _ _ hiS, Nat.zero_add, Nat.mul_one]
  refine pu_storeX l_sl_sl_api_Val hbo12 (x := .sl T 0 s.rows.length s.rows.length) rfl rfl (spl_one ws i _ (by omega)) fun h15 w15 => ?_
  have n15 := w15.n
  have hb6 : h15.t.get b6 = some (.cells (shtC s rv) 38 false) := by rw [w15.other b6 (by omega), w12.old b6 (by omega)]; exact w7.at_
  rw [fa_api_Sheet_2, pu_load1 l_sl_sl_string hb6 (v := rv) rfl, pu_len hrd s_sl_sl_string]
  have hold : ∀ b, b < h.n → b ≠ bo → h15.t.get b = h.t.get b := fun b hb hne => by rw [w15.other b hne, w12.old b (by omega), w7.other b (by omega), w5.old b hb]
  have g15 : RowsAt M h15 rv s.rows := g3.ext ⟨by omega, fun b hb => hold b (by omega) (by omega)⟩
  have hset : (ws.set i (.sl T 0 s.rows.length s.rows.length))[i]? = some (.sl T 0 s.rows.length s.rows.length) := by rw [List.getElem?_set_self (by omega)]
  have hGl : ((plainG bk).take i).length = i := by unfold plainG; rw [List.length_take, List.length_map]; omega
  refine row_loop2 Q (M := M) (T := T) (ws := ws.set i (.sl T 0 s.rows.length s.rows.length)) r2 (fun row hr => (r3 row hr).2) (fun row hr t ht => sm.txt s hmem row hr t ht) g15 hM (by omega) w15.at_ (by rw [List.length_set]; exact hwl) hset (by omega) (by omega) (by omega) (by omega) (fun h' us B' hn' hf' hT' hul' hL' => ?_) s.rows.length 0 (by omega) (Nat.zero_le _) h15 (List.replicate s.rows.length .nils) (fun _ => 0) (Nat.le_refl _) (fun _ _ _ => rfl) (by rw [w15.other T (by omega)]; exact w12.at_) (by rw [List.length_replicate]) (by rw [List.take_zero]; exact LeafR.nil _ _ _ _ _)
  have hb' : h'.t.get bo = some (.cells (ws.set i (.sl T 0 s.rows.length s.rows.length)) 35 false) := by rw [hf' bo (by omega) (by omega)]; exact w15.at_
  have hx : (plainG bk)[i]? = some (plainH s) := by unfold plainG; rw [List.getElem?_map, hs_]; rfl
  have hk : ∀ b, N ≤ b → b < h.n → h'.t.get b = h.t.get b := fun b k1 k2 => by rw [hf' b (by omega) (by omega), hold b k2 (by omega)]
  have G1 : GrO N h.n h' (ws.set i (.sl T 0 s.rows.length s.rows.length)) ((plainG bk).take i) B sp := by
   refine hG.keep (Nat.le_refl _) (fun t ht => ?_) (fun b hb => hk b (hG.sl b hb).1 (hG.sl b hb).2) (fun a r row q => hk _ (hG.lt a r row q).1 (hG.lt a r row q).2)
   rw [List.getElem?_set_ne (by omega)]
  have hR' : (plainH s).length = s.rows.length := by unfold plainH; rw [List.length_map]
  have G2 := G1.grow (U' := h'.n) (M := h15.n) (w := .sl T 0 s.rows.length s.rows.length) (rows := plainH s) (us := us) (Bc := B') (by rw [hGl]; exact hset) ⟨by rw [hR', Nat.mul_one]; exact hul', .inr ⟨T, 0, us, rdCells_of hT', by rw [hR', Nat.mul_one]; exact sub_all hul', .inl ⟨s.rows.length, by rw [hR']⟩⟩⟩ hL' hn (by omega) (by omega) (fun b hb => by cases hb; omega) (fun r hr e => by
   have := hL'.lt r hr
   simp only [blkOf, Option.some.injEq] at e
   omega)
  rw [← take_snoc1 hx] at G2
  exact ih (i + 1) (by omega) (by omega) h' _ _ _ (by omega) (fun b hb hne => by rw [hf' b (by omega) (by omega), hold b (by omega) hne, hf b hb hne]) hb' (by rw [List.length_set]; exact hwl) G2
end
end Go.Proofs.YtbchdlelmkmagaaGreatDoor.VM
namespace Go.Proofs.YtbchdlelmkmagaaGreatDoor.VM
open Go
set_option linter.unusedVariables false
set_option linter.unusedSectionVars false
set_option linter.unusedSimpArgs false
set_option maxRecDepth 20000
noncomputable section
attribute [local instance] syZ
def putS (bk : Bok) (g : Grd) (s : Spt) (v : Vl) : Grd := match findN bk s.s 0 with
 | some i => setG g i s.r s.c v
 | none => g
def evF (bk : Bok) (g : Grd) (s : Spt) : Vl := match nksT (getC bk s) with
 | some ns => evS ns bk g s.s
 | none => vl0
def cycG (bk : Bok) (cyc : List Spt) (g : Grd) : Grd := cyc.foldl (fun g s => putS bk g s (vlE 6)) g
def ordG (bk : Bok) (order : List Spt) (g : Grd) : Grd := order.foldl (fun g s => putS bk g s (evF bk g s)) g
def ordL (bk : Bok) : List Spt := (orderR (ndR bk) (fCells bk).length (fCells bk)).1
def cycL (bk : Bok) : List Spt := (orderR (ndR bk) (fCells bk).length (fCells bk)).2
def valsG (bk : Bok) : Grd := ordG bk (ordL bk) (cycG bk (cycL bk) (plainG bk))
theorem ordL_in {bk : Bok} {s : Spt} (h : s ∈ ordL bk) : s ∈ fCells bk := (orderR_perm (nd := ndR bk) (fCells bk).length (fCells bk) (Nat.le_refl _)).mem_iff.1 (List.mem_append_left _ h)
theorem cycL_in {bk : Bok} {s : Spt} (h : s ∈ cycL bk) : s ∈ fCells bk := (orderR_perm (nd := ndR bk) (fCells bk).length (fCells bk) (Nat.le_refl _)).mem_iff.1 (List.mem_append_right _ h)
theorem fCells_all {bk : Bok} {s : Spt} (h : s ∈ fCells bk) : s ∈ allSpots bk ∧ hasF bk s = true := List.mem_filter.1 h
theorem fCells_nks {bk : Bok} {s : Spt} (h : s ∈ fCells bk) : ∃ ns, nksT (getC bk s) = some ns := by
 have := (fCells_all h).2
 unfold hasF formR at this
 rw [Option.isSome_map] at this
 exact Option.isSome_iff_exists.1 this
def Fits2 (bk : Bok) (g : Grd) : Prop := g.length = bk.length ∧ ∀ (i : Nat) (s : Sht), bk[i]? = some s → ∃ rows, g[i]? = some rows ∧ rows.length = s.rows.length ∧ ∀ (r : Nat) (row : List (List Nat)), s.rows[r]? = some row → ∃ vr, rows[r]? = some vr ∧ vr.length = row.length
def MayG (g : Grd) : Prop := ∀ i r row, At2 g i r row → ∀ v ∈ row, MayV v
theorem at_spot {bk : Bok} (hb : Rises bk) {s : Spt} (h : s ∈ allSpots bk) : ∃ i t row, findN bk s.s 0 = some i ∧ bk[i]? = some t ∧ t.name = s.s ∧ t.rows[s.r]? = some row ∧ s.c < row.length := by
 obtain ⟨t, h1, h2, row, h3, h4⟩ := allSpots_mem.1 h
 have hf := findR_some hb h1
 rw [← h2] at hf
 cases e : findN bk s.s 0 with
 | none => rw [findN_none e] at hf; cases hf
 | some i =>
  obtain ⟨_, t', k1, k2, k3⟩ := findN_some e
  rw [hf] at k3
  cases k3
  exact ⟨i, t, row, rfl, k1, h2.symm, h3, h4⟩
theorem Fits2.at2 {bk : Bok} {g : Grd} (f : Fits2 bk g) {i r : Nat} {t : Sht} {row : List (List Nat)} (ht : bk[i]? = some t) (hr : t.rows[r]? = some row) : ∃ vr, At2 g i r vr ∧ vr.length = row.length := by
 obtain ⟨rows, h1, _, h2⟩ := f.2 i t ht
 obtain ⟨vr, h3, h4⟩ := h2 r row hr
 exact ⟨vr, ⟨rows, h1, h3⟩, h4⟩
theorem Fits2.set {bk : Bok} {g : Grd} (f : Fits2 bk g) (i r c : Nat) (x : Vl) : Fits2 bk (setG g i r c x) := by
 refine ⟨by rw [setG_len]; exact f.1, fun j s hs => ?_⟩
 obtain ⟨rows, h1, h2, h3⟩ := f.2 j s hs
 have hj : j < (setG g i r c x).length := by rw [setG_len]; exact (List.getElem?_eq_some_iff.1 h1).1
 obtain ⟨rows', hr'⟩ : ∃ rows', (setG g i r c x)[j]? = some rows' := ⟨_, List.getElem?_eq_getElem hj⟩
 obtain ⟨rows0, k1, k2, k3⟩ := setG_at g i r c x hr'
 rw [h1] at k1; cases k1
 refine ⟨rows', hr', by omega, fun q row hq => ?_⟩
 obtain ⟨vr, m1, m2⟩ := h3 q row hq
 have hq2 : q < rows'.length := by have := (List.getElem?_eq_some_iff.1 m1).1; omega
 obtain ⟨row', e1⟩ : ∃ row', rows'[q]? = some row' := ⟨_, List.getElem?_eq_getElem hq2⟩
 obtain ⟨row0, e2, e3⟩ := k3 q row' e1
 rw [m1] at e2; cases e2
 refine ⟨row', e1, ?_⟩
 rcases e3 with ⟨_, _, rfl⟩ | ⟨_, rfl⟩
 ·rw [List.length_set]; exact m2
 ·exact m2
theorem MayG.set {g : Grd} (f : MayG g) (i r c : Nat) {x : Vl} (hx : MayV x) : MayG (setG g i r c x) := by
 rintro j s row' ⟨rows', h1, h2⟩ v hv
 obtain ⟨rows, k1, _, k2⟩ := setG_at g i r c x h1
 obtain ⟨row, k3, k4⟩ := k2 s row' h2
 rcases k4 with ⟨rfl, rfl, rfl⟩ | ⟨_, rfl⟩
 ·rcases List.mem_or_eq_of_mem_set hv with h | rfl
  ·exact f j s row ⟨rows, k1, k3⟩ v h
  ·exact hx
 ·exact f j s row' ⟨rows, k1, k3⟩ v hv
theorem Fits2.plain (bk : Bok) : Fits2 bk (plainG bk) := by
 refine ⟨by unfold plainG; rw [List.length_map], fun i s hs => ⟨plainH s, by unfold plainG; rw [List.getElem?_map, hs]; rfl, by unfold plainH; rw [List.length_map], fun r row hr => ⟨plainR row, by unfold plainH; rw [List.getElem?_map, hr]; rfl, by unfold plainR; rw [List.length_map]⟩⟩⟩
theorem plain_may : textL.all (fun t => match plainS t with
 | ⟨0, 0, []⟩ => true
 | ⟨1, n, []⟩ => decide (0 ≤ n) && decide (n ≤ 9)
 | ⟨2, 0, s⟩ => decide (s.length ≤ 200) && s.all fun x => decide (x < 256)
 | ⟨4, 1, []⟩ => true
 | _ => false) = true := by kernel_rfl
theorem mayPlain {t : List Nat} (h : t ∈ textL) : MayV (plainS t) := by
 have hp := List.all_eq_true.1 plain_may t h
 generalize plainS t = v at hp
 obtain ⟨k, n, s⟩ := v
 split at hp
 ·rename_i e
  cases e
  exact ⟨by simp, by simp, by simp, by simp, by simp, by simp [Fit64], by simp, by simp⟩
 ·rename_i e
  cases e
  simp only [Bool.and_eq_true, decide_eq_true_iff] at hp
  exact ⟨by simp, by simp, by simp, by simp, by simp, by simp [Fit64]; omega, by simp, by simp⟩
 ·rename_i e
  cases e
  simp only [Bool.and_eq_true, decide_eq_true_iff, List.all_eq_true] at hp
  exact ⟨by simp, by simp, by simp, by simp, by simp, by simp [Fit64], by simpa using hp.1, hp.2⟩
 ·rename_i e
  cases e
  exact ⟨by simp, by simp, by simp, by simp, by simp, by simp [Fit64], by simp, by simp⟩
 ·cases hp
theorem MayG.plain {bk : Bok} (h : TextsIn bk) : MayG (plainG bk) := by
 rintro i r row ⟨rows, h1, h2⟩ v hv
 unfold plainG at h1
 rw [List.getElem?_map, Option.map_eq_some_iff] at h1
 obtain ⟨s, h3, rfl⟩ := h1
 unfold plainH at h2
 rw [List.getElem?_map, Option.map_eq_some_iff] at h2
 obtain ⟨row0, h4, rfl⟩ := h2
 unfold plainR at hv
 obtain ⟨t, h5, rfl⟩ := List.mem_map.1 hv
 exact mayPlain (h s (List.mem_of_getElem? h3) row0 (List.mem_of_getElem? h4) t h5)
theorem may6 : MayV (vlE 6) := ⟨by simp [vlE], by simp [vlE], by simp [vlE], by simp [vlE], by simp [vlE], by simp [vlE, Fit64], by simp [vlE], by simp [vlE]⟩
theorem putS_fits {bk : Bok} {g : Grd} (f : Fits2 bk g) (s : Spt) (v : Vl) : Fits2 bk (putS bk g s v) := by
 unfold putS
 split
 ·exact f.set _ _ _ _
 ·exact f
structure VS (bk : Bok) (M N b1 : Nat) (sv gv : V) (B : Nat → Nat → Nat) (sp : Nat → Prop) (g : Grd) (h : Hp) : Prop where
 box : h.t.get b1 = some (.cells [sv] 26 false)
 b1n : b1 < h.n
 sh : ShsAt M h sv bk
 gr : GridG N h gv g B sp
 mN : M ≤ N
 nh : N ≤ h.n
 fits : Fits2 bk g
 may : MayG g
section
variable {bk : Bok} {M N b1 : Nat} {sv gv : V} {B : Nat → Nat → Nat} {sp : Nat → Prop} {g : Grd} {h h' : Hp}
theorem VS.keep (a : VS bk M N b1 sv gv B sp g h) (x : Ext h.n h h') : VS bk M N b1 sv gv B sp g h' :=
 ⟨(x.old b1 a.b1n).trans a.box, by have := x.n; have := a.b1n; omega, a.sh.ext (x.mono (Nat.le_trans a.mN a.nh)), a.gr.keep x, a.mN, by have := x.n; have := a.nh; omega, a.fits, a.may⟩
theorem VS.ev (a : VS bk M N b1 sv gv B sp g h) (hl : bk.length < 1000000) : EvC M h sv bk gv g :=
 ⟨a.sh, ⟨N, B, sp, a.gr⟩, Nat.le_trans a.mN a.nh, hl, a.fits.2, a.may⟩
theorem blk_ty {a b : List V} {t u : Nat} (h : some (Blk.cells a t false) = some (Blk.cells b u false)) : t = u := by
 injection h with h
 injection h
theorem OwnS.apart {v : V} {l : List Spt} (o : OwnS 0 h v l) {cs : List V} {b : Nat} (hb : h.t.get b = some (.cells cs 48 false)) : blkOf v ≠ some b := by
 intro e
 rcases o.at_ with ⟨rfl, _⟩ | ⟨c, _, _, h1, h2⟩
 ·cases e
 ·have : c = b := by rcases h2 with rfl | rfl <;> (cases e; rfl)
  subst this
  rw [h1] at hb
  exact absurd (blk_ty hb) (by decide)
theorem VS.set (a : VS bk M N b1 sv gv B sp g h) {i r c : Nat} {row : List Vl} (hat : At2 g i r row) (hc : c < row.length) {x : Vl} (hx : MayV x) {O C : V} {lo lc : List Spt} (oO : OwnS 0 h O lo) (oC : OwnS 0 h C lc) {q : Hp → Prop}
  (hq : ∀ h', VS bk M N b1 sv gv B sp (setG g i r c x) h' → OwnS 0 h' O lo → OwnS 0 h' C lc → h'.n = h.n → (∀ b, (∀ cs, h.t.get b ≠ some (.cells cs 48 false)) → h'.t.get b = h.t.get b) → (∀ b, b < N → h'.t.get b = h.t.get b) → q h') :
  (Pu EE).store h 48 (.ptr (B i r) (c * 3)) (valV x) q := by
 obtain ⟨_, _, _, _, _, _, _, _, _, _, hlv, hg⟩ := a.gr.row hat
 have hlt := a.gr.lt i r row hat
 refine a.gr.set hat hc x fun h' G' hn ho => hq h' ⟨?_, by have := a.b1n; omega, ?_, G', a.mN, by have := a.nh; omega, a.fits.set _ _ _ _, a.may.set _ _ _ hx⟩ ?_ ?_ hn (fun b hb => ho b fun e => ?_) fun b hb => ho b (by omega)
 ·rw [ho b1 fun e => ?_]
  ·exact a.box
  ·have hb := a.box
   rw [e, hg] at hb
   exact absurd (blk_ty hb) (by decide)
 ·exact a.sh.ext ⟨by omega, fun b hb => ho b (by have := a.mN; omega)⟩
 ·exact oO.keep (by omega) fun b hb => ho b fun e => oO.apart hg (e ▸ hb)
 ·exact oC.keep (by omega) fun b hb => ho b fun e => oC.apart hg (e ▸ hb)
 ·subst e
  exact hb _ hg
end
end
end Go.Proofs.YtbchdlelmkmagaaGreatDoor.VM
namespace Go.Proofs.YtbchdlelmkmagaaGreatDoor.VM
open Go
set_option linter.unusedVariables false
set_option linter.unusedSectionVars false
set_option linter.unusedSimpArgs false
set_option maxRecDepth 20000
noncomputable section
attribute [local instance] syZ
theorem same_bk {h : Hp} {sz len : Nat} {v : V} {cs : List V} (r : Rd h sz v len cs) (k : Prop) : (Pu EE).same (.agg [v]) (.agg [v]) k ↔ k := by
 show (sameV _ _ = true ∧ k) ↔ k
 have : sameV (.agg [v]) (.agg [v]) = true := by
  show sameL [v] [v] = true
  rcases r.at_ with ⟨rfl | rfl, _⟩ | ⟨b, off, vs, _, _, ⟨c, rfl⟩ | ⟨lo, z, rfl⟩⟩ <;> simp [sameL, same1]
 simp [this]
theorem same_str1 (s : List Nat) (k : Prop) : (Pu EE).same (.str s) (.str s) k ↔ k := by
 show (sameV _ _ = true ∧ k) ↔ k
 have : sameV (.str s) (.str s) = true := by simp [sameV, same1, seq_dec]
 simp [this]
theorem findZ_at {bk : Bok} {nm : List Nat} {i : Nat} (h : findN bk nm 0 = some i) : findZ bk nm = (i : Int) := by unfold findZ; rw [h]
theorem cycG_snoc {bk : Bok} {l : List Spt} {g : Grd} {i : Nat} {s : Spt} (h : l[i]? = some s) : cycG bk (l.take (i + 1)) g = putS bk (cycG bk (l.take i) g) s (vlE 6) := by
 unfold cycG
 rw [take_snoc1 h, List.foldl_append]; rfl
theorem ordG_snoc {bk : Bok} {l : List Spt} {g : Grd} {i : Nat} {s : Spt} (h : l[i]? = some s) : ordG bk (l.take (i + 1)) g = putS bk (ordG bk (l.take i) g) s (evF bk (ordG bk (l.take i) g) s) := by
 unfold ordG
 rw [take_snoc1 h, List.foldl_append]; rfl
theorem putS_at {bk : Bok} {g : Grd} {s : Spt} {v : Vl} {i : Nat} (h : findN bk s.s 0 = some i) : putS bk g s v = setG g i s.r s.c v := by unfold putS; rw [h]
section
variable {bk : Bok} {M N b1 : Nat} {sv gv ov cv : V} {B : Nat → Nat → Nat} {sp : Nat → Prop} {O C : List Spt} {h0 : Hp} (Q : V → Hp → Prop)
theorem cyc_loop4 {g0 : Grd} (gd : Good bk) (hl : bk.length < 1000000) (hC : ∀ s ∈ C, s ∈ allSpots bk) (hCl : C.length < 1000000)
  (hq : ∀ h', VS bk M N b1 sv gv B sp (cycG bk C g0) h' → OwnS 0 h' ov O → Ext N h0 h' → L_calc_Values_5 Q (.ptr b1 0) gv ov (.int .i64 O.length) (.int .i64 0) h') :
  ∀ (j i : Nat), C.length - i = j → i ≤ C.length → ∀ h : Hp, VS bk M N b1 sv gv B sp (cycG bk (C.take i) g0) h → OwnS 0 h ov O → OwnS 0 h cv C → Ext N h0 h → L_calc_Values_4 Q (.ptr b1 0) gv ov cv (.int .i64 C.length) (.int .i64 i) h := by
 intro j
 induction j with
 | zero =>
  intro i hj hi h a oO oC x
  obtain rfl : i = C.length := by omega
  rw [List.take_of_length_le (Nat.le_refl _)] at a
  apply r_calc_Values_4
  unfold t_calc_Values_4
  rw [pu_lssN, decide_eq_false (by omega : ¬ C.length < C.length), pu_cond_f, pu_len oO.sps s_sl_api_Spot]
  exact hq h a oO x
 | succ j ih =>
  intro i hj hi h a oO oC x
  have hii : i < C.length := by omega
  obtain ⟨s, hs⟩ : ∃ s, C[i]? = some s := ⟨_, List.getElem?_eq_getElem hii⟩
  obtain ⟨i0, t, row, k1, k2, k3, k4, k5⟩ := at_spot gd.ris (hC s (List.mem_of_getElem? hs))
  obtain ⟨vr, hat, hvl⟩ := a.fits.at2 k2 k4
  obtain ⟨b2, o2, m1, m2, _⟩ := sps_get oC.sps s_sl_api_Spot l_api_Spot hs
  apply r_calc_Values_4
  unfold t_calc_Values_4
  rw [pu_lssN, decide_eq_true hii, pu_cond_t, m1, m2]
  refine pu_allocX l_api_Spot fun h5 b6 w5 => ?_
  have n5 := w5.n
  have e5 := w5.b
  refine pu_storeX l_api_Spot w5.at_ (x := spV s) rfl rfl (r := spC s) rfl fun h7 w7 => ?_
  have n7 := w7.n
  have X7 : Ext h.n h h7 := ⟨by omega, fun c hc => by rw [w7.other c (by omega), w5.old c hc]⟩
  have a7 := a.keep X7
  rw [pu_loadS l_api_Book a7.box (l := [sv]) rfl, fa_api_Spot_0, pu_load1 l_string w7.at_ (v := .str s.s) rfl, fa_api_Spot_1, pu_load1 l_int w7.at_ (v := .int .i64 s.r) rfl, fa_api_Spot_2, pu_load1 l_int w7.at_ (v := .int .i64 s.c) rfl]
  refine (pfind_ok M h7 _ bk s.s ⟨sv, rfl, a7.sh⟩ (Nat.le_trans a7.mN a7.nh) hl).mono ?_
  rintro y h16 ⟨rfl, x16⟩
  have n16 := x16.n
  have hb16 : h16.t.get b6 = some (.cells (spC s) 42 false) := (x16.old b6 (by omega)).trans w7.at_
  have a16 := a7.keep x16
  obtain ⟨q1, q2, q3, q4, q5, q6, l1, l2, l3, l4, l5, l6, l7, l8, l9, ⟨_, _, r1⟩, ⟨_, _, r2⟩, ⟨_, _, r3⟩, _, _⟩ := a16.gr.row2 hat
  rw [pu_load1 l_int hb16 (v := .int .i64 s.c) rfl, same_int, pu_load1 l_int hb16 (v := .int .i64 s.r) rfl, same_int, findZ_at k1, l1, l2, l3, l4]
  refine (err_ok 6 6 rfl h16).mono ?_
  rintro y h24 ⟨rfl, x24⟩
  have n24 := x24.n
  have hb24 : h24.t.get b6 = some (.cells (spC s) 42 false) := (x24.old b6 (by omega)).trans hb16
  have a24 := a16.keep x24
  rw [load_keep (x24.old _ l8), l4, same_rd r3, load_keep (x24.old _ l7), l2, same_rd r2, pu_load1 l_int hb24 (v := .int .i64 s.c) rfl, same_int, pu_load1 l_int hb24 (v := .int .i64 s.r) rfl, same_int, leaf_addr l5 (by omega)]
  have X24 : Ext h.n h h24 := X7.trans ((x16.mono (by omega)).trans (x24.mono (by omega)))
  refine a24.set hat (by omega) may6 (oO.keep (by omega) fun b hb => X24.old b (oO.in_ b hb)) (oC.keep (by omega) fun b hb => X24.old b (oC.in_ b hb)) fun h30 a30 oO30 oC30 n30 _ f30 => ?_
  rw [pu_inc _ _ _ _ (by omega)]
  refine ih (i + 1) (by omega) (by omega) h30 ?_ oO30 oC30 ?_
  ·rw [cycG_snoc hs, putS_at k1]; exact a30
  ·exact x.trans ((X24.mono a.nh).trans ⟨by omega, f30⟩)
theorem ord_loop5 {g0 : Grd} (gd : Good bk) (tx : TextsIn bk) (hl : bk.length < 1000000) (hco : GoodRows bk) (hO : ∀ s ∈ O, s ∈ fCells bk) (hOl : O.length < 1000000)
  (hq : ∀ h', VS bk M N b1 sv gv B sp (ordG bk O g0) h' → Ext N h0 h' → Q gv h') :
  ∀ (j i : Nat), O.length - i = j → i ≤ O.length → ∀ h : Hp, VS bk M N b1 sv gv B sp (ordG bk (O.take i) g0) h → OwnS 0 h ov O → Ext N h0 h → L_calc_Values_5 Q (.ptr b1 0) gv ov (.int .i64 O.length) (.int .i64 i) h := by
 intro j
 induction j with
 | zero =>
  intro i hj hi h a oO x
  obtain rfl : i = O.length := by omega
  rw [List.take_of_length_le (Nat.le_refl _)] at a
  apply r_calc_Values_5
  unfold t_calc_Values_5
  rw [pu_lssN, decide_eq_false (by omega : ¬ O.length < O.length), pu_cond_f]
  exact hq h a x
 | succ j ih =>
  intro i hj hi h a oO x
  have hii : i < O.length := by omega
  obtain ⟨s, hs⟩ : ∃ s, O[i]? = some s := ⟨_, List.getElem?_eq_getElem hii⟩
  have hsF := hO s (List.mem_of_getElem? hs)
  obtain ⟨i0, t, row, k1, k2, k3, k4, k5⟩ := at_spot gd.ris (fCells_all hsF).1
  obtain ⟨ns, hns⟩ := fCells_nks hsF
  have htx := getC_in tx s
  have hnL : ns ∈ nodesL := List.mem_filterMap.2 ⟨_, htx, hns⟩
  obtain ⟨vr, hat, hvl⟩ := a.fits.at2 k2 k4
  obtain ⟨b2, o2, m1, m2, _⟩ := sps_get oO.sps s_sl_api_Spot l_api_Spot hs
  apply r_calc_Values_5
  unfold t_calc_Values_5
  rw [pu_lssN, decide_eq_true hii, pu_cond_t, m1, m2]
  refine pu_allocX l_api_Spot fun h5 b6 w5 => ?_
  have n5 := w5.n
  have e5 := w5.b
  refine pu_storeX l_api_Spot w5.at_ (x := spV s) rfl rfl (r := spC s) rfl fun h7 w7 => ?_
  have n7 := w7.n
  have X7 : Ext h.n h h7 := ⟨by omega, fun c hc => by rw [w7.other c (by omega), w5.old c hc]⟩
  have a7 := a.keep X7
  rw [pu_loadS l_api_Book a7.box (l := [sv]) rfl, pu_loadS l_api_Spot w7.at_ (l := spC s) rfl]
  refine (pget_ok M h7 _ bk s ⟨sv, rfl, a7.sh⟩ (Nat.le_trans a7.mN a7.nh) hl).mono ?_
  rintro y h11 ⟨rfl, x11⟩
  have n11 := x11.n
  refine (form_okB hook_F htx h11).mono ?_
  rintro y h13 ⟨x13, hf⟩
  rw [hns] at hf
  obtain ⟨rfl, nb, nn⟩ := hf
  have n13 := x13.n
  have hb13 : h13.t.get b6 = some (.cells (spC s) 42 false) := by rw [x13.old b6 (by omega), x11.old b6 (by omega)]; exact w7.at_
  have a13 := (a7.keep x11).keep x13
  obtain ⟨_, hrs⟩ := a13.sh.rd
  rw [pu_extr0, pu_extr1, pu_loadS l_api_Book a13.box (l := [sv]) rfl, fa_api_Spot_0, pu_load1 l_string hb13 (v := .str s.s) rfl, fa_api_Spot_1, pu_load1 l_int hb13 (v := .int .i64 s.r) rfl, fa_api_Spot_2, pu_load1 l_int hb13 (v := .int .i64 s.c) rfl, fa_api_Spot_0, pu_load1 l_string hb13 (v := .str s.s) rfl, pu_loadS l_api_Book a13.box (l := [sv]) rfl]
  refine (pfind_ok M h13 _ bk s.s ⟨sv, rfl, a13.sh⟩ (Nat.le_trans a13.mN a13.nh) hl).mono ?_
  rintro y h27 ⟨rfl, x27⟩
  have n27 := x27.n
  have hb27 : h27.t.get b6 = some (.cells (spC s) 42 false) := (x27.old b6 (by omega)).trans hb13
  have a27 := a13.keep x27
  obtain ⟨q1, q2, q3, q4, q5, q6, l1, l2, l3, l4, l5, l6, l7, l8, l9, ⟨_, _, r1⟩, ⟨_, _, r2⟩, ⟨_, _, r3⟩, _, _⟩ := a27.gr.row2 hat
  rw [pu_loadS l_api_Book a27.box (l := [sv]) rfl, same_bk hrs, pu_load1 l_string hb27 (v := .str s.s) rfl, same_str1, pu_load1 l_int hb27 (v := .int .i64 s.c) rfl, same_int, pu_load1 l_int hb27 (v := .int .i64 s.r) rfl, same_int, findZ_at k1, l1, l2, l3, l4]
  have cx : NCx M h11.n ns sv gv bk (ordG bk (O.take i) g0) h27 := ⟨a27.ev hl, (NdC.mk nb nn).ext x27⟩
  have hm := may_evS s.s hnL hco cx
  refine (eval_ok s.s hnL hco cx).mono ?_
  rintro y h37 ⟨rfl, x37⟩
  have n37 := x37.n
  have hb37 : h37.t.get b6 = some (.cells (spC s) 42 false) := (x37.old b6 (by omega)).trans hb27
  have a37 := a27.keep x37
  rw [load_keep (x37.old _ l8), l4, same_rd r3, load_keep (x37.old _ l7), l2, same_rd r2, pu_load1 l_int hb37 (v := .int .i64 s.c) rfl, same_int, pu_load1 l_int hb37 (v := .int .i64 s.r) rfl, same_int, leaf_addr l5 (by omega)]
  have X37 : Ext h.n h h37 := X7.trans ((x11.mono (by omega)).trans ((x13.mono (by omega)).trans ((x27.mono (by omega)).trans (x37.mono (by omega)))))
  have o37 : OwnS 0 h37 ov O := oO.keep (by omega) fun b hb => X37.old b (oO.in_ b hb)
  refine a37.set hat (by omega) hm o37 o37 fun h43 a43 oO43 _ n43 _ f43 => ?_
  rw [pu_inc _ _ _ _ (by omega)]
  refine ih (i + 1) (by omega) (by omega) h43 ?_ oO43 ?_
  ·rw [ordG_snoc hs, putS_at k1]
   unfold evF
   rw [hns]
   exact a43
  ·exact x.trans ((X37.mono a.nh).trans ⟨by omega, f43⟩)
end
def ValsPost (bk : Bok) (h : Hp) (x : V) (h' : Hp) : Prop := ∃ N B sp, h.n ≤ N ∧ N ≤ h'.n ∧ GridG N h' x (valsG bk) B sp ∧ Fits2 bk (valsG bk) ∧ MayG (valsG bk) ∧ Ext h.n h h'
theorem values_ok (M : Nat) (h : Hp) (sv : V) (bk : Bok) (hs : ShsAt M h sv bk) (hM : M ≤ h.n) (gd : Good bk) (my : Mays bk) (few : ∀ s ∈ fCells bk, Few bk s) (sm : Sm bk) (hco : GoodRows bk) : Ans EE 8 [.agg [sv]] h (ValsPost bk h) := by
 obtain ⟨cs, hrd⟩ := hs.rd
 have cS := hrd.c1
 have hS := sm.len
 have hFl := fCells_len gd
 apply a_calc_Values
 unfold t_calc_Values_0
 refine pu_boxX (cs := [sv]) (by simp [allCells, cS.2]) fun h2 b1 w2 => ?_
 have n2 := w2.n
 have e2 := w2.b
 rw [pu_loadS l_api_Book w2.at_ (l := [sv]) rfl]
 have hs2 := hs.ext (w2.ext hM)
 refine (pmay_ok M h2 _ bk ⟨sv, rfl, hs2⟩ (by omega) my).mono ?_
 rintro y h6 ⟨rfl, x6⟩
 have n6 := x6.n
 have hb6 : h6.t.get b1 = some (.cells [sv] 26 false) := by rw [x6.old b1 (by omega)]; exact w2.at_
 have hs6 := hs2.ext (x6.mono (by omega))
 rw [pu_not, Bool.not_true, pu_cond_f, fa_api_Book_0, pu_load1 l_sl_api_Sheet hb6 (v := sv) rfl, pu_len hrd s_sl_api_Sheet]
 refine pu_mkslX s_sl_sl_sl_api_Val l_sl_sl_api_Val hS fun h12 bo w12 => ?_
 have n12 := w12.n
 have e12 := w12.b
 have hb12 : h12.t.get b1 = some (.cells [sv] 26 false) := by rw [w12.old b1 (by omega)]; exact hb6
 rw [fa_api_Book_0, pu_load1 l_sl_api_Sheet hb12 (v := sv) rfl, pu_len hrd s_sl_api_Sheet]
 have hs12 := hs6.ext (w12.ext (Nat.le_trans hM (by omega)))
 have X12 : Ext h.n h h12 := (w2.ext (Nat.le_refl _)).trans ((x6.mono (by omega)).trans (w12.ext (by omega)))
 refine sheet_loop1 _ (M := M) (bo := bo) sm rfl (by omega) (by omega) (by omega) hb12 hs12 (fun h1 ws B sp hn hf hbo hwl hG => ?_) bk.length 0 (by omega) (Nat.zero_le _) h12 (List.replicate bk.length .nils) (fun _ _ => 0) (fun _ => False) (Nat.le_refl _) (fun _ _ _ => rfl) w12.at_ (by rw [List.length_replicate]) (by rw [List.take_zero]; exact GrO.nil _ _ _ _ _)
 have hGG : GridG h12.n h1 (.sl bo 0 bk.length bk.length) (plainG bk) B (fun b => sp b ∨ blkOf (.sl bo 0 bk.length bk.length) = some b) := by
  have hpl : (plainG bk).length = bk.length := by unfold plainG; rw [List.length_map]
  refine hG.grid ⟨by rw [hpl, Nat.mul_one]; exact hwl, .inr ⟨bo, 0, ws, rdCells_of hbo, by rw [hpl, Nat.mul_one]; exact sub_all hwl, .inl ⟨bk.length, by rw [hpl]⟩⟩⟩ (Nat.le_refl _) fun b hb => ?_
  cases hb
  refine ⟨by omega, fun i r row a e => ?_⟩
  have := (hG.lt i r row a).1
  omega
 have hb1 : h1.t.get b1 = some (.cells [sv] 26 false) := (hf b1 (by omega) (by omega)).trans hb12
 have hs1 : ShsAt M h1 sv bk := hs12.ext ⟨hn, fun b hb => hf b (by omega) (by omega)⟩
 have V1 : VS bk M h12.n b1 sv (.sl bo 0 bk.length bk.length) B _ (plainG bk) h1 := ⟨hb1, by omega, hs1, hGG, by omega, hn, Fits2.plain bk, MayG.plain sm.txt⟩
 apply r_calc_Values_1
 unfold t_calc_Values_1
 rw [pu_lssN, decide_eq_false (by omega : ¬ bk.length < bk.length), pu_cond_f, pu_loadS l_api_Book hb1 (l := [sv]) rfl]
 refine (dorder_own M h1 _ bk ⟨sv, rfl, hs1⟩ (by omega) gd my few).mono ?_
 rintro y h21 ⟨ov, cv, rfl, oO, oC, x21⟩
 have n21 := x21.n
 rw [pu_extr0, pu_extr1, pu_len oC.sps s_sl_api_Spot]
 have V21 := V1.keep x21
 have hlens : (ordL bk).length + (cycL bk).length ≤ 100000 := by
  have := (orderR_perm (nd := ndR bk) (fCells bk).length (fCells bk) (Nat.le_refl _)).length_eq
  rw [List.length_append] at this
  unfold ordL cycL
  omega
 have X1 : Ext h.n h12 h1 := ⟨hn, fun b hb => hf b (by omega) (by omega)⟩
 have XA : Ext h.n h h21 := X12.trans (X1.trans (x21.mono (by omega)))
 refine cyc_loop4 (h0 := h21) _ (C := cycL bk) (O := ordL bk) gd (by omega) (fun s hs => (fCells_all (cycL_in hs)).1) (by omega) (fun h' V' o' x' => ?_) (cycL bk).length 0 (by omega) (Nat.zero_le _) h21 V21 oO oC (Ext.refl _ _)
 refine ord_loop5 (h0 := h21) _ (O := ordL bk) gd sm.txt (by omega) hco (fun s hs => ordL_in hs) (by omega) (fun h'' V'' x'' => ?_) (ordL bk).length 0 (by omega) (Nat.zero_le _) h' V' o' x'
 exact ⟨_, _, _, by omega, V''.nh, V''.gr, V''.fits, V''.may, XA.trans (x''.mono (by omega))⟩
end
end Go.Proofs.YtbchdlelmkmagaaGreatDoor.VM
namespace Go.Proofs.YtbchdlelmkmagaaGreatDoor.VM
open Go
set_option linter.unusedVariables false
set_option linter.unusedSectionVars false
set_option linter.unusedSimpArgs false
set_option maxRecDepth 20000
noncomputable section
attribute [local instance] syZ
end
end Go.Proofs.YtbchdlelmkmagaaGreatDoor.VM
namespace Go.Proofs.YtbchdlelmkmagaaGreatDoor.VM
open Go
set_option linter.unusedVariables false
set_option linter.unusedSectionVars false
set_option linter.unusedSimpArgs false
set_option maxRecDepth 20000
noncomputable section
attribute [local instance] syZ
section
variable {bk : Bok} {M N b1 : Nat} {sv gv ov cv : V} {B : Nat → Nat → Nat} {sp : Nat → Prop} {O C : List Spt} {h0 : Hp} (Q : V → Hp → Prop)
end
end
end Go.Proofs.YtbchdlelmkmagaaGreatDoor.VM
namespace Go.Proofs.YtbchdlelmkmagaaGreatDoor.VM
open Go
set_option linter.unusedVariables false
set_option maxRecDepth 100000
noncomputable section
noncomputable def c_r7_SameVals : Code := match Tryz.f7.body with | some c => c | none => .skip
noncomputable def c_law14_CalcEach : Code := match Tryz.f4.body with | some c => c | none => .skip
noncomputable def F_law14_CalcEach : Fl := ⟨Tryz.f4, c_law14_CalcEach, [([false, true, false, true, true, true, true, true, true], [5, 6, 8, 9]), ([false, true, true, false, false, true, false, false, true, false, true, true, true, true, true, true], [5, 6, 8, 9, 10]), ([false, true, false, true, true, true, true, true, true, true], [5, 6, 8, 11]), ([false, true, false, false, true, false, false, true, false, true, true, true, true, true, true, true], [5, 6, 8, 11, 12]), ([false, true, false, false, true, false, false, true, false, false, true, false, false, true, false, true, true, true, true, true, true, true], [5, 6, 8, 11, 12, 13]), ([false, true, false, true, true, true, true, false, false, true, false, false, true, false, false, true, false, false, true, false, false, true, false, false, true, false, true, true, true, true, true, true, true], [5, 6, 8, 11, 12, 13, 14, 17, 18]), ([true, true, true, true, false, false, true, false, false, true, false, false, true, false, false, true, false, false, true, false, false, true, false, true, true, true, true, true, true, true], [5, 6, 8, 11, 12, 13, 14, 17])]⟩
abbrev L_law14_CalcEach_1 (Q : QQ) (v5 v6 v8 v9 : V) (h : Hp) : Prop := F_law14_CalcEach.L EE Q 1 [v5, v6, v8, v9] h
abbrev L_law14_CalcEach_2 (Q : QQ) (v5 v6 v8 v9 v10 : V) (h : Hp) : Prop := F_law14_CalcEach.L EE Q 2 [v5, v6, v8, v9, v10] h
abbrev L_law14_CalcEach_3 (Q : QQ) (v5 v6 v8 v11 : V) (h : Hp) : Prop := F_law14_CalcEach.L EE Q 3 [v5, v6, v8, v11] h
abbrev L_law14_CalcEach_4 (Q : QQ) (v5 v6 v8 v11 v12 : V) (h : Hp) : Prop := F_law14_CalcEach.L EE Q 4 [v5, v6, v8, v11, v12] h
abbrev L_law14_CalcEach_5 (Q : QQ) (v5 v6 v8 v11 v12 v13 : V) (h : Hp) : Prop := F_law14_CalcEach.L EE Q 5 [v5, v6, v8, v11, v12, v13] h
abbrev L_law14_CalcEach_6 (Q : QQ) (v5 v6 v8 v11 v12 v13 v14 v17 v18 : V) (h : Hp) : Prop := F_law14_CalcEach.L EE Q 6 [v5, v6, v8, v11, v12, v13, v14, v17, v18] h
abbrev L_law14_CalcEach_7 (Q : QQ) (v5 v6 v8 v11 v12 v13 v14 v17 : V) (h : Hp) : Prop := F_law14_CalcEach.L EE Q 7 [v5, v6, v8, v11, v12, v13, v14, v17] h
noncomputable def t_law14_CalcEach_0 (p : Pr) (l : LL) (Q : QQ) (v0 v1 : V) (h : Hp) : Prop :=
 p.lbui h #[22] .len [v0] fun x1 =>
 p.bin .gtr 3 false true x1 (.int .i64 60) fun x2 =>
 p.cond x2
 (fun _ =>
  p.call 5 [] h fun x3 h4 =>
  Q x3 h4)
 (fun _ =>
  p.call 6 [v0, v1] h fun x5 h6 =>
  p.alloc h6 26 fun x7 h8 b9 =>
  p.store h8 26 x7 x5 fun h10 =>
  p.load h10 26 x7 fun x11 =>
  p.call 8 [x11] h10 fun x12 h13 =>
  p.lbui h13 #[29] .len [x12] fun x14 =>
  p.faddr 26 x7 0 fun x15 =>
  p.load h13 24 x15 fun x16 =>
  p.lbui h13 #[24] .len [x16] fun x17 =>
  p.bin .neq 3 false false x14 x17 fun x18 =>
  p.cond x18
  (fun _ =>
  Q (.bool false) h13)
  (fun _ =>
  p.load h13 26 x7 fun x19 =>
  p.call 10 [x19] h13 fun x20 h21 =>
  p.extr x20 0 fun x22 =>
  p.extr x20 1 fun x23 =>
  l 1 [x7, x12, x23, (.int .i64 0)] h21))
theorem q_law14_CalcEach_0 (p : Pr) (l : LL) (Q : QQ) (v0 v1 : V) (h : Hp) : t_law14_CalcEach_0 p l Q v0 v1 h = F_law14_CalcEach.K p EE l Q [] ([v0, v1] ++ List.replicate 166 undefV) h := by kernel_rfl
theorem a_law14_CalcEach {Q : QQ} {v0 v1 : V} {h : Hp} (H : t_law14_CalcEach_0 (Pu EE) (F_law14_CalcEach.L EE Q) Q v0 v1 h) : Ans EE 4 [v0, v1] h Q :=
 ansL (F := F_law14_CalcEach) (by kernel_rfl) (by kernel_rfl) (by kernel_rfl) (by kernel_rfl) (cast (q_law14_CalcEach_0 _ _ _ v0 v1 h) H)
noncomputable def t_law14_CalcEach_1 (p : Pr) (l : LL) (Q : QQ) (v5 v6 v8 v9 : V) (h : Hp) : Prop :=
 p.faddr 26 v5 0 fun x1 =>
 p.load h 24 x1 fun x2 =>
 p.lbui h #[24] .len [x2] fun x3 =>
 p.bin .lss 3 false false v9 x3 fun x4 =>
 p.cond x4
 (fun _ =>
  p.iaddr 29 v6 v9 fun x5 =>
  p.load h 35 x5 fun x6 =>
  p.lbui h #[35] .len [x6] fun x7 =>
  p.faddr 26 v5 0 fun x8 =>
  p.load h 24 x8 fun x9 =>
  p.iaddr 24 x9 v9 fun x10 =>
  p.faddr 38 x10 2 fun x11 =>
  p.load h 36 x11 fun x12 =>
  p.lbui h #[36] .len [x12] fun x13 =>
  p.bin .neq 3 false false x7 x13 fun x14 =>
  p.cond x14
  (fun _ =>
  Q (.bool false) h)
  (fun _ =>
  l 2 [v5, v6, v8, v9, (.int .i64 0)] h))
 (fun _ =>
  l 3 [v5, v6, v8, (.int .i64 0)] h)
theorem q_law14_CalcEach_1 (p : Pr) (l : LL) (Q : QQ) (s : List V) (h : Hp) : t_law14_CalcEach_1 p l Q (nth s 5) (nth s 6) (nth s 8) (nth s 9) h = F_law14_CalcEach.K p EE l Q [true, true, true, true, true, true, false, true, false] (nths s 168 0) h := by kernel_rfl
theorem r_law14_CalcEach_1 {Q : QQ} {v5 v6 v8 v9 : V} {h : Hp} (H : t_law14_CalcEach_1 (Pu EE) (F_law14_CalcEach.L EE Q) Q v5 v6 v8 v9 h) : L_law14_CalcEach_1 Q v5 v6 v8 v9 h :=
 labR (path := [true, true, true, true, true, true, false, true, false]) rfl rfl fun s e => by cases e; exact cast (q_law14_CalcEach_1 _ _ _ s h) H
noncomputable def t_law14_CalcEach_2 (p : Pr) (l : LL) (Q : QQ) (v5 v6 v8 v9 v10 : V) (h : Hp) : Prop :=
 p.iaddr 29 v6 v9 fun x1 =>
 p.load h 35 x1 fun x2 =>
 p.lbui h #[35] .len [x2] fun x3 =>
 p.bin .lss 3 false false v10 x3 fun x4 =>
 p.cond x4
 (fun _ =>
  p.iaddr 29 v6 v9 fun x5 =>
  p.load h 35 x5 fun x6 =>
  p.iaddr 35 x6 v10 fun x7 =>
  p.load h 39 x7 fun x8 =>
  p.lbui h #[39] .len [x8] fun x9 =>
  p.faddr 26 v5 0 fun x10 =>
  p.load h 24 x10 fun x11 =>
  p.iaddr 24 x11 v9 fun x12 =>
  p.faddr 38 x12 2 fun x13 =>
  p.load h 36 x13 fun x14 =>
  p.iaddr 36 x14 v10 fun x15 =>
  p.load h 40 x15 fun x16 =>
  p.lbui h #[40] .len [x16] fun x17 =>
  p.bin .neq 3 false false x9 x17 fun x18 =>
  p.cond x18
  (fun _ =>
  Q (.bool false) h)
  (fun _ =>
  p.bin .add 3 false true v10 (.int .i64 1) fun x19 =>
  l 2 [v5, v6, v8, v9, x19] h))
 (fun _ =>
  p.bin .add 3 false true v9 (.int .i64 1) fun x20 =>
  l 1 [v5, v6, v8, x20] h)
theorem q_law14_CalcEach_2 (p : Pr) (l : LL) (Q : QQ) (s : List V) (h : Hp) : t_law14_CalcEach_2 p l Q (nth s 5) (nth s 6) (nth s 8) (nth s 9) (nth s 10) h = F_law14_CalcEach.K p EE l Q [true, true, true, true, true, true, false, true, false, false, true, false, false, true, true, false] (nths s 168 0) h := by kernel_rfl
theorem r_law14_CalcEach_2 {Q : QQ} {v5 v6 v8 v9 v10 : V} {h : Hp} (H : t_law14_CalcEach_2 (Pu EE) (F_law14_CalcEach.L EE Q) Q v5 v6 v8 v9 v10 h) : L_law14_CalcEach_2 Q v5 v6 v8 v9 v10 h :=
 labR (path := [true, true, true, true, true, true, false, true, false, false, true, false, false, true, true, false]) rfl rfl fun s e => by cases e; exact cast (q_law14_CalcEach_2 _ _ _ s h) H
noncomputable def t_law14_CalcEach_3 (p : Pr) (l : LL) (Q : QQ) (v5 v6 v8 v11 : V) (h : Hp) : Prop :=
 p.faddr 26 v5 0 fun x1 =>
 p.load h 24 x1 fun x2 =>
 p.lbui h #[24] .len [x2] fun x3 =>
 p.bin .lss 3 false false v11 x3 fun x4 =>
 p.cond x4
 (fun _ =>
  l 4 [v5, v6, v8, v11, (.int .i64 0)] h)
 (fun _ =>
  p.call 5 [] h fun x5 h6 =>
  Q x5 h6)
theorem q_law14_CalcEach_3 (p : Pr) (l : LL) (Q : QQ) (s : List V) (h : Hp) : t_law14_CalcEach_3 p l Q (nth s 5) (nth s 6) (nth s 8) (nth s 11) h = F_law14_CalcEach.K p EE l Q [true, true, true, true, true, true, true, false, true, false] (nths s 168 0) h := by kernel_rfl
theorem r_law14_CalcEach_3 {Q : QQ} {v5 v6 v8 v11 : V} {h : Hp} (H : t_law14_CalcEach_3 (Pu EE) (F_law14_CalcEach.L EE Q) Q v5 v6 v8 v11 h) : L_law14_CalcEach_3 Q v5 v6 v8 v11 h :=
 labR (path := [true, true, true, true, true, true, true, false, true, false]) rfl rfl fun s e => by cases e; exact cast (q_law14_CalcEach_3 _ _ _ s h) H
noncomputable def t_law14_CalcEach_4 (p : Pr) (l : LL) (Q : QQ) (v5 v6 v8 v11 v12 : V) (h : Hp) : Prop :=
 p.iaddr 29 v6 v11 fun x1 =>
 p.load h 35 x1 fun x2 =>
 p.lbui h #[35] .len [x2] fun x3 =>
 p.bin .lss 3 false false v12 x3 fun x4 =>
 p.cond x4
 (fun _ =>
  l 5 [v5, v6, v8, v11, v12, (.int .i64 0)] h)
 (fun _ =>
  p.bin .add 3 false true v11 (.int .i64 1) fun x5 =>
  l 3 [v5, v6, v8, x5] h)
theorem q_law14_CalcEach_4 (p : Pr) (l : LL) (Q : QQ) (s : List V) (h : Hp) : t_law14_CalcEach_4 p l Q (nth s 5) (nth s 6) (nth s 8) (nth s 11) (nth s 12) h = F_law14_CalcEach.K p EE l Q [true, true, true, true, true, true, true, false, true, false, false, true, false, false, true, false] (nths s 168 0) h := by kernel_rfl
theorem r_law14_CalcEach_4 {Q : QQ} {v5 v6 v8 v11 v12 : V} {h : Hp} (H : t_law14_CalcEach_4 (Pu EE) (F_law14_CalcEach.L EE Q) Q v5 v6 v8 v11 v12 h) : L_law14_CalcEach_4 Q v5 v6 v8 v11 v12 h :=
 labR (path := [true, true, true, true, true, true, true, false, true, false, false, true, false, false, true, false]) rfl rfl fun s e => by cases e; exact cast (q_law14_CalcEach_4 _ _ _ s h) H
noncomputable def t_law14_CalcEach_5 (p : Pr) (l : LL) (Q : QQ) (v5 v6 v8 v11 v12 v13 : V) (h : Hp) : Prop :=
 p.iaddr 29 v6 v11 fun x1 =>
 p.load h 35 x1 fun x2 =>
 p.iaddr 35 x2 v12 fun x3 =>
 p.load h 39 x3 fun x4 =>
 p.lbui h #[39] .len [x4] fun x5 =>
 p.bin .lss 3 false false v13 x5 fun x6 =>
 p.cond x6
 (fun _ =>
  p.faddr 26 v5 0 fun x7 =>
  p.load h 24 x7 fun x8 =>
  p.iaddr 24 x8 v11 fun x9 =>
  p.faddr 38 x9 0 fun x10 =>
  p.load h 9 x10 fun x11 =>
  p.build 42 [(0, x11), (1, v12), (2, v13)] fun x12 =>
  p.alloc h 42 fun x13 h14 b15 =>
  p.store h14 42 x13 x12 fun h16 =>
  p.load h16 26 v5 fun x17 =>
  p.load h16 42 x13 fun x18 =>
  p.call 12 [x17, x18] h16 fun x19 h20 =>
  p.call 11 [x19] h20 fun x21 h22 =>
  p.extr x21 0 fun x23 =>
  p.extr x21 1 fun x24 =>
  p.load h22 26 v5 fun x25 =>
  p.load h22 42 x13 fun x26 =>
  p.call 12 [x25, x26] h22 fun x27 h28 =>
  p.call 13 [x27] h28 fun x29 h30 =>
  p.alloc h30 48 fun x31 h32 b33 =>
  p.store h32 48 x31 x29 fun h34 =>
  p.cond x24
  (fun _ =>
  p.faddr 42 x13 0 fun x35 =>
  p.load h34 9 x35 fun x36 =>
  p.load h34 26 v5 fun x37 =>
  p.call 14 [x23, x36, x37, v6] h34 fun x38 h39 =>
  p.store h39 48 x31 x38 fun h40 =>
  l 7 [v5, v6, v8, v11, v12, v13, x13, x31] h40)
  (fun _ =>
  l 7 [v5, v6, v8, v11, v12, v13, x13, x31] h34))
 (fun _ =>
  p.bin .add 3 false true v12 (.int .i64 1) fun x41 =>
  l 4 [v5, v6, v8, v11, x41] h)
theorem q_law14_CalcEach_5 (p : Pr) (l : LL) (Q : QQ) (s : List V) (h : Hp) : t_law14_CalcEach_5 p l Q (nth s 5) (nth s 6) (nth s 8) (nth s 11) (nth s 12) (nth s 13) h = F_law14_CalcEach.K p EE l Q [true, true, true, true, true, true, true, false, true, false, false, true, false, false, true, false, false, true, false, false, true, false] (nths s 168 0) h := by kernel_rfl
theorem r_law14_CalcEach_5 {Q : QQ} {v5 v6 v8 v11 v12 v13 : V} {h : Hp} (H : t_law14_CalcEach_5 (Pu EE) (F_law14_CalcEach.L EE Q) Q v5 v6 v8 v11 v12 v13 h) : L_law14_CalcEach_5 Q v5 v6 v8 v11 v12 v13 h :=
 labR (path := [true, true, true, true, true, true, true, false, true, false, false, true, false, false, true, false, false, true, false, false, true, false]) rfl rfl fun s e => by cases e; exact cast (q_law14_CalcEach_5 _ _ _ s h) H
noncomputable def t_law14_CalcEach_6 (p : Pr) (l : LL) (Q : QQ) (v5 v6 v8 v11 v12 v13 v14 v17 v18 : V) (h : Hp) : Prop :=
 p.lbui h #[32] .len [v8] fun x1 =>
 p.bin .lss 3 false false v18 x1 fun x2 =>
 p.cond x2
 (fun _ =>
  p.iaddr 32 v8 v18 fun x3 =>
  p.load h 42 x3 fun x4 =>
  p.load h 42 v14 fun x5 =>
  p.bin .eql 42 false false x4 x5 fun x6 =>
  p.cond x6
  (fun _ =>
  p.build 48 [(0, (.int .i64 4)), (1, (.int .i64 6))] fun x7 =>
  p.store h 48 v17 x7 fun h8 =>
  p.bin .add 3 false true v18 (.int .i64 1) fun x9 =>
  l 6 [v5, v6, v8, v11, v12, v13, v14, v17, x9] h8)
  (fun _ =>
  p.bin .add 3 false true v18 (.int .i64 1) fun x10 =>
  l 6 [v5, v6, v8, v11, v12, v13, v14, v17, x10] h))
 (fun _ =>
  p.iaddr 29 v6 v11 fun x11 =>
  p.load h 35 x11 fun x12 =>
  p.iaddr 35 x12 v12 fun x13 =>
  p.load h 39 x13 fun x14 =>
  p.iaddr 39 x14 v13 fun x15 =>
  p.load h 48 x15 fun x16 =>
  p.load h 48 v17 fun x17 =>
  p.bin .neq 48 false false x16 x17 fun x18 =>
  p.cond x18
  (fun _ =>
  Q (.bool false) h)
  (fun _ =>
  p.bin .add 3 false true v13 (.int .i64 1) fun x19 =>
  l 5 [v5, v6, v8, v11, v12, x19] h))
theorem q_law14_CalcEach_6 (p : Pr) (l : LL) (Q : QQ) (s : List V) (h : Hp) : t_law14_CalcEach_6 p l Q (nth s 5) (nth s 6) (nth s 8) (nth s 11) (nth s 12) (nth s 13) (nth s 14) (nth s 17) (nth s 18) h = F_law14_CalcEach.K p EE l Q [true, true, true, true, true, true, true, false, true, false, false, true, false, false, true, false, false, true, false, false, true, false, false, true, false, false, true, true, true, true, false, true, false] (nths s 168 0) h := by kernel_rfl
theorem r_law14_CalcEach_6 {Q : QQ} {v5 v6 v8 v11 v12 v13 v14 v17 v18 : V} {h : Hp} (H : t_law14_CalcEach_6 (Pu EE) (F_law14_CalcEach.L EE Q) Q v5 v6 v8 v11 v12 v13 v14 v17 v18 h) : L_law14_CalcEach_6 Q v5 v6 v8 v11 v12 v13 v14 v17 v18 h :=
 labR (path := [true, true, true, true, true, true, true, false, true, false, false, true, false, false, true, false, false, true, false, false, true, false, false, true, false, false, true, true, true, true, false, true, false]) rfl rfl fun s e => by cases e; exact cast (q_law14_CalcEach_6 _ _ _ s h) H
noncomputable def t_law14_CalcEach_7 (p : Pr) (l : LL) (Q : QQ) (v5 v6 v8 v11 v12 v13 v14 v17 : V) (h : Hp) : Prop :=
 l 6 [v5, v6, v8, v11, v12, v13, v14, v17, (.int .i64 0)] h
theorem q_law14_CalcEach_7 (p : Pr) (l : LL) (Q : QQ) (s : List V) (h : Hp) : t_law14_CalcEach_7 p l Q (nth s 5) (nth s 6) (nth s 8) (nth s 11) (nth s 12) (nth s 13) (nth s 14) (nth s 17) h = F_law14_CalcEach.K p EE l Q [true, true, true, true, true, true, true, false, true, false, false, true, false, false, true, false, false, true, false, false, true, false, false, true, false, false, true, true, true, true] (nths s 168 0) h := by kernel_rfl
theorem r_law14_CalcEach_7 {Q : QQ} {v5 v6 v8 v11 v12 v13 v14 v17 : V} {h : Hp} (H : t_law14_CalcEach_7 (Pu EE) (F_law14_CalcEach.L EE Q) Q v5 v6 v8 v11 v12 v13 v14 v17 h) : L_law14_CalcEach_7 Q v5 v6 v8 v11 v12 v13 v14 v17 h :=
 labR (path := [true, true, true, true, true, true, true, false, true, false, false, true, false, false, true, false, false, true, false, false, true, false, false, true, false, false, true, true, true, true]) rfl rfl fun s e => by cases e; exact cast (q_law14_CalcEach_7 _ _ _ s h) H
end
end Go.Proofs.YtbchdlelmkmagaaGreatDoor.VM
namespace Go.Proofs.YtbchdlelmkmagaaGreatDoor.VM
open Go
set_option linter.unusedVariables false
set_option linter.unusedSectionVars false
set_option linter.unusedSimpArgs false
set_option maxRecDepth 20000
noncomputable section
attribute [local instance] syZ
theorem aeq_val : ∃ i, EE.ty.get 48 = some i ∧ ∀ a b : Vl, veq EE i (valV a) (valV b) = some (decide (a = b)) := by
 have h : (EE.ty.get 48).map (fun j => (j.plain, (match j.k with | .struct _ => true | _ => false))) = some (some [.int .i64, .int .i64, .str], true) := by kernel_rfl
 obtain ⟨j, h1, h2⟩ := Option.map_eq_some_iff.1 h
 simp only [Prod.mk.injEq] at h2
 obtain ⟨h3, h4⟩ := h2
 refine ⟨j, h1, fun a b => ?_⟩
 have e : veq EE j (valV a) (valV b) = aeq j (vlC a) (vlC b) := by
  unfold veq valV
  split at h4 <;> first | (cases h4; done) | skip
  rename_i fs hfs
  rw [hfs]
 rw [e]
 unfold aeq vlC
 rw [h3]
 simp only [Option.bind_some, leq, ceq, seq_dec, keq_refl, cond_true, ieq_dec]
 have e3 : ∀ x y : Nat, decide ((x : Int) = (y : Int)) = decide (x = y) := fun x y => by rw [decide_eq_decide]; omega
 rw [e3]
 obtain ⟨k, n, s⟩ := a
 obtain ⟨k', n', s'⟩ := b
 simp only [Vl.mk.injEq]
 by_cases q1 : k = k' <;> by_cases q2 : n = n' <;> by_cases q3 : s = s' <;> simp [q1, q2, q3]
theorem pu_vne (cx cy : Bool) (a b : Vl) (q : V → Prop) : (Pu EE).bin .neq 48 cx cy (valV a) (valV b) q ↔ q (.bool (!decide (a = b))) := by
 obtain ⟨i, h1, h2⟩ := aeq_val
 show (∃ v, vbinB EE .neq 48 cx cy (valV a) (valV b) = some v ∧ q v) ↔ _
 have : vbinB EE .neq 48 cx cy (valV a) (valV b) = some (.bool (!decide (a = b))) := by
  show eqOp .neq ((EE.ty.get 48).bind fun i => veq EE i (valV a) (valV b)) = _
  rw [h1, Option.bind_some, h2]
  rfl
 rw [this, ex_some]
theorem GridG.sheet {N : Nat} {h : Hp} {v : V} {g : Grd} {B : Nat → Nat → Nat} {sp : Nat → Prop} (G : GridG N h v g B sp) {i : Nat} {rows : List (List Vl)} (hi : g[i]? = some rows) : ∃ b o w us, (∀ (k : IntKind) (q : V → Prop), (Pu EE).iaddr 29 v (.int k i) q ↔ q (.ptr b o)) ∧ (∀ q : V → Prop, (Pu EE).load h 35 (.ptr b o) q ↔ q w) ∧ Rd h 1 w rows.length us ∧
  ∀ (r : Nat) (row : List Vl), rows[r]? = some row → ∃ b2 o2 u, (∀ (k : IntKind) (q : V → Prop), (Pu EE).iaddr 35 w (.int k r) q ↔ q (.ptr b2 o2)) ∧ (∀ q : V → Prop, (Pu EE).load h 39 (.ptr b2 o2) q ↔ q u) ∧ LeafV (B i r) row.length u ∧ h.t.get (B i r) = some (.cells (vlCs row) 48 false) := by
 obtain ⟨ws, h1, h2⟩ := G.out
 obtain ⟨w, us, k1, k2, k3, k4⟩ := h2 i rows hi
 obtain ⟨b, o, g1, g2, _⟩ := rd_get1 h1 s_sl_sl_sl_api_Val l_sl_sl_api_Val k1
 refine ⟨b, o, w, us, g1, g2, k2, fun r row hr => ?_⟩
 obtain ⟨u, q1, q2, q3⟩ := k4 r row hr
 obtain ⟨b2, o2, g3, g4, _⟩ := rd_get1 k2 s_sl_sl_api_Val l_sl_api_Val q1
 exact ⟨b2, o2, u, g3, g4, q2, q3⟩
theorem GridG.rd {N : Nat} {h : Hp} {v : V} {g : Grd} {B : Nat → Nat → Nat} {sp : Nat → Prop} (G : GridG N h v g B sp) : ∃ ws, Rd h 1 v g.length ws := by
 obtain ⟨ws, h1, _⟩ := G.out
 exact ⟨ws, h1⟩
section
variable {N0 N1 : Nat} {h : Hp} {v0 v1 : V} {g : Grd} {B0 B1 : Nat → Nat → Nat} {s0 s1 : Nat → Prop} (Q : V → Hp → Prop)
end
theorem book_sm {ns : List Nat} {sh : Nat} (h : ∀ n ∈ ns, n < 256) : Sm (bookT ns sh) := by
 have hR := @nR_le sh
 have hC := @nC_le sh
 have hS := @nS_le sh
 refine ⟨by unfold bookT; simp; omega, fun t ht => ?_, book_in h⟩
 obtain ⟨h1, _, h2⟩ := book_rows t ht
 refine ⟨by unfold nR at h1; omega, by omega, fun row hr => ?_⟩
 have := h2 row hr
 unfold nC at this
 unfold nC at hC
 omega
theorem book_rowsOK {ns : List Nat} {sh : Nat} : GoodRows (bookT ns sh) := fun t ht => by
 have hR := @nR_le sh
 have hC := @nC_le sh
 obtain ⟨h1, h2, h3⟩ := book_rows t ht
 exact ⟨fun row hr => by rw [h3 row hr, h2], by omega, by omega⟩
theorem awake_any (h : Hp) : Ans EE 5 [] h fun v _ => v = .bool true := (awake_ok h).mono fun _ _ q => q.1
end
end Go.Proofs.YtbchdlelmkmagaaGreatDoor.VM
