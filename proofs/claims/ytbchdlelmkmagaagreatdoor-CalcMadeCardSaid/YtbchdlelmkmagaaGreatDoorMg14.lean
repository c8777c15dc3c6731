/- CmU CmX CmY CmA4 CmRa CmRb CmRc CmRd CmRe -/
import Derived.Test.YtbchdlelmkmagaaGreatDoorMg13
namespace Go.Proofs.YtbchdlelmkmagaaGreatDoor.VM
open Go
set_option linter.unusedVariables false
set_option linter.unusedSectionVars false
set_option linter.unusedSimpArgs false
set_option maxRecDepth 20000
noncomputable section
attribute [local instance] syZ
def zbQ (bk:Bok):Prop:=∀ t ∈ bk,(∀ row ∈ t.rows,row.length=t.cols)∧t.cols < 1000000∧t.rows.length < 1000000
theorem may_getG {M:Nat} {h:Hp} {sv gv:V} {bk:Bok} {g:Grd} (a:EvC M h sv bk gv g) (i r c:Nat):MayV (getG g i r c):=by
 unfold getG
 cases h1:g[i]? with
 | none=>rw [Option.getD_none]; simp; exact may0
 | some rows=>
  rw [Option.getD_some]
  cases h2:rows[r]? with
  | none=>rw [Option.getD_none]; simp; exact may0
  | some row=>
   rw [Option.getD_some]
   cases h3:row[c]? with
   | none=>rw [Option.getD_none]; exact may0
   | some v=>rw [Option.getD_some]; exact a.may i r row ⟨rows,h1,h2⟩ v (List.mem_of_getElem? h3)
theorem may_ref {M:Nat} {h:Hp} {sv gv:V} {bk:Bok} {g:Grd} (a:EvC M h sv bk gv g) (own:List Nat) (d:Nk):MayV (refS bk g own d):=by
 unfold refS
 split
 ·exact mayE (by omega) (by omega)
 ·split
  ·exact may0
  ·split
   ·exact may0
   ·split
    ·exact may_getG a _ _ _
    ·exact may0
theorem may_rows {M:Nat} {h:Hp} {sv gv:V} {bk:Bok} {g:Grd} (a:EvC M h sv bk gv g) (i c0 c1:Nat):∀ n r,∀ v ∈ rowsS g i c0 c1 n r,MayV v
 | 0,r,v,hv=>by cases hv
 | n+1,r,v,hv=>by
  rcases List.mem_append.1 hv with hv | hv
  ·unfold zek at hv
   obtain ⟨j,_,rfl⟩:=List.mem_map.1 hv
   exact may_getG a _ _ _
  ·exact may_rows a i c0 c1 n (r+1) v hv
theorem may_span {M:Nat} {h:Hp} {sv gv:V} {bk:Bok} {g:Grd} (a:EvC M h sv bk gv g) (own:List Nat) (d:Nk):∀ v ∈ zb2 bk g own d,MayV v:=by
 unfold zb2
 split
 ·intro v hv
  rw [List.mem_singleton] at hv
  subst hv; exact mayE (by omega) (by omega)
 ·split
  ·intro v hv; cases hv
  ·exact may_rows a _ _ _ _ _
theorem rowsS_len (g:Grd) (i c0 c1:Nat):∀ n r,(rowsS g i c0 c1 n r).length=n * (c1 - c0)
 | 0,r=>by simp [rowsS]
 | n+1,r=>by rw [rowsS,List.length_append,rowsS_len g i c0 c1 n (r+1),Nat.succ_mul]; simp [zek]; omega
theorem span_len (bk:Bok) (g:Grd) (own:List Nat) (d:Nk) (h1:d.c1 < 1000) (h2:d.r1 < 1000):(zb2 bk g own d).length≤1000000:=by
 unfold zb2
 split
 ·simp
 ·split
  ·simp
  ·rw [rowsS_len]
   refine Nat.le_trans (Nat.mul_le_mul (by omega:_≤1000) (by omega:_≤1000)) (by decide)
theorem may_if {x y z:Vl} (hx:MayV x) (hy:MayV y) (hz:MayV z):MayV (ifS x y z):=by
 unfold ifS
 split
 ·exact hx
 ·split
  ·exact mayE (by omega) (by omega)
  ·exact hy
  ·exact hz
theorem may_addAll:∀ (l:List Vl) (a:Vl),(∀ v ∈ l,MayV v)→MayV a→MayV (addAll l a):=by
 intro l a hl ha
 rw [← zhK]
 exact may_fold _ _ (fun v hv=>hl v (List.mem_filter.1 hv).1) ha
theorem may_sum {l:List Vl} (hl:∀ v ∈ l,MayV v):MayV (sumS l):=by
 unfold sumS
 split
 ·rename_i e he; exact hl e (List.mem_of_find?_eq_some he)
 ·exact may_addAll l _ hl (mayN (by simp [zar]))
section
variable {M k:Nat} {ns:List Nk} {sv gv:V} {bk:Bok} {g:Grd} {own:List Nat} {h0:Hp} {b1 b2 b3 kb:Nat} {d:Nk} {Q:QQ}
theorem call_end (C:CL M k ns sv gv bk g own h0 b1 b2 b3 kb d) (hb3:h0.t.get b3=some (.cells [.int .i64 0,.int .i64 0,.str []] 48 false)) (l3:b3 < h0.n) {h:Hp} (x:Ext h0.n h0 h) {u:V} {v:Vl} (H:Ans EE 107 [.str d.t,u] h fun y h'=>y=valV v∧Ext h.n h h') (hk:d.kids.length < 1000)
  (hq:∀ h',(∀ c,c < h0.n→c ≠ b3→h'.t.get c=h0.t.get c)→h0.n≤h'.n→Q (valV v) h'):
  zaU Q (.ptr b1 0) (.ptr b2 0) (.ptr b3 0) u (kidV kb d) (.int .i64 (d.kids.length:Int)) (.int .i64 (d.kids.length:Int)) h:=by
 have xn:=x.n
 apply zd1
 unfold zbC
 rw [zak,decide_eq_false (by omega),zb,zdM,za zL ((x.old b2 C.l2).trans C.hb2) (v:=.str d.t) rfl]
 refine H.mono ?_
 rintro y h5 ⟨rfl,x5⟩
 have n5:=x5.n
 refine retV (by rw [x5.old b3 (by omega),x.old b3 l3]; exact hb3) rfl _ fun h6 w6=>hq h6 (fun c hc hne=>by rw [w6.other c hne,x5.old c (by omega),x.old c hc]) (by rw [w6.n]; omega)
end
theorem call_open {M k:Nat} {ns:List Nk} {sv gv:V} {bk:Bok} {g:Grd} {own:List Nat} {kb:Nat} {d:Nk} {h:Hp} (cx:NCx M k ns sv gv bk g h) (hr:Rd h 1 (kidV kb d) d.kids.length (zfo d.kids)) (hi:In h.n (kidV kb d)) {Q:QQ}
  (H:∀ h0 b1 b2 b3,CL M k ns sv gv bk g own h0 b1 b2 b3 kb d→h0.t.get b3=some (.cells [.int .i64 0,.int .i64 0,.str []] 48 false)→b3 < h0.n→h.n≤b3→Ext h.n h h0→zaU Q (.ptr b1 0) (.ptr b2 0) (.ptr b3 0) .nils (kidV kb d) (.int .i64 (d.kids.length:Int)) (.int .i64 ((0:Nat):Int)) h0):
  Ans EE 69 [.agg (evC (lvK k ns) own sv gv),.agg (nkC kb d)] h Q:=by
 apply a_calc_eval_call
 unfold zdy
 refine zW (cs:=evC (lvK k ns) own sv gv) (zf5 (c1_lv k ns) cx.ev.c1s cx.ev.c1g) fun h1 b1 w1=>?_
 refine zW (cs:=nkC kb d) (zbH kb d) fun h2 b2 w2=>?_
 refine zq ze fun h3 b3 w3=>?_
 have n1:=w1.n
 have e1:=w1.b
 have n2:=w2.n
 have e2:=w2.b
 have n3:=w3.n
 have e3:=w3.b
 have hb1:h3.t.get b1=some (.cells (evC (lvK k ns) own sv gv) 74 false):=by rw [w3.old b1 (by omega),w2.old b1 (by omega)]; exact w1.at_
 have hb2:h3.t.get b2=some (.cells (nkC kb d) 88 false):=by rw [w3.old b2 (by omega)]; exact w2.at_
 have X3:Ext h.n h h3:=⟨by omega,fun c hc=>by rw [w3.old c (by omega),w2.old c (by omega),w1.old c (by omega)]⟩
 rw [zbb,za zc2 hb2 (v:=kidV kb d) rfl,zp (hr.ext X3 hi) zbS]
 exact H h3 b1 b2 b3 ⟨cx.ext X3,hb1,hb2,by omega,by omega,hr.ext X3 hi,hi.mono (by omega)⟩ w3.at_ (by omega) (by omega) X3
theorem sum_eval {M k:Nat} {ns:List Nk} {sv gv:V} {bk:Bok} {g:Grd} {own:List Nat} {kb:Nat} {d e:Nk} {a:Nat} {h:Hp} (cx:NCx M k ns sv gv bk g h) (hr:Rd h 1 (kidV kb d) d.kids.length (zfo d.kids)) (hi:In h.n (kidV kb d)) (hk:d.kids=[a]) (ht:d.t=sumK) (he:ns[a]? = some e) (hek:e.k=6) (hco:zbQ bk) (hdc:e.c < 1000∧e.r < 1000∧e.c1 < 1000∧e.r1 < 1000):
  Ans EE 69 [.agg (evC (lvK k ns) own sv gv),.agg (nkC kb d)] h fun x h'=>x=valV (sumS (zb2 bk g own e))∧Ext h.n h h':=by
 refine call_open cx hr hi fun h0 b1 b2 b3 C hb3 l3 g3 X0=>?_
 have hl:=span_len bk g own e hdc.2.2.1 hdc.2.2.2
 refine call_span C (j:=0) (a:=a) (e:=e) (by rw [hk]; rfl) he hek hco hdc hl (Ext.refl _ _) (u:=.nils) (ds:=[]) ⟨Own.nil _ _ _ _,fun i d hd=>by simp at hd⟩ (by omega) (by simp) (fun b hb=>by cases hb) fun h1 u cc w x1 A=>?_
 have hkl:d.kids.length=1:=by rw [hk]; rfl
 have g:=call_sum (d:=⟨(zcm bk (ownS own e.s) 0).isSome,cc,w,zb2 bk g own e⟩) A.g (by
  cases hf:zcm bk (ownS own e.s) 0 with
  | some i=>exact .inl rfl
  | none=>exact .inr ⟨rfl,vlE 4,by show zb2 bk g own e=_; unfold zb2; rw [hf],rfl⟩) (may_span cx.ev own e) hl
 have hend:=call_end C hb3 l3 x1 (u:=u) (v:=sumS (zb2 bk _ own e)) (by rw [ht]; exact g) (by omega) (Q:=fun x h'=>x=valV (sumS (zb2 bk _ own e))∧Ext h.n h h') fun h' q1 q2=>⟨rfl,by have:=X0.n; omega,fun c hc=>by rw [q1 c (by have:=X0.n; omega) (by omega),X0.old c hc]⟩
 rw [hkl] at hend ⊢
 exact hend
theorem if_eval {M k:Nat} {ns:List Nk} {sv gv:V} {bk:Bok} {g:Grd} {own:List Nat} {kb:Nat} {d e1 e2 e3:Nk} {a1 a2 a3:Nat} {v1 v2 v3:Vl} {h:Hp} (cx:NCx M k ns sv gv bk g h) (hr:Rd h 1 (kidV kb d) d.kids.length (zfo d.kids)) (hi:In h.n (kidV kb d)) (hk:d.kids=[a1,a2,a3]) (ht:d.t=ifK)
  (he1:ns[a1]? = some e1) (hk1:e1.k ≠ 6) (he2:ns[a2]? = some e2) (hk2:e2.k ≠ 6) (he3:ns[a3]? = some e3) (hk3:e3.k ≠ 6) (h1:NodeOK M k ns sv gv bk g own a1 v1) (h2:NodeOK M k ns sv gv bk g own a2 v2) (h3:NodeOK M k ns sv gv bk g own a3 v3):
  Ans EE 69 [.agg (evC (lvK k ns) own sv gv),.agg (nkC kb d)] h fun x h'=>x=valV (ifS v1 v2 v3)∧Ext h.n h h':=by
 refine call_open cx hr hi fun h0 b1 b2 b3 C hb3 l3 g3 X0=>?_
 have hkl:d.kids.length=3:=by rw [hk]; rfl
 refine call_val C (j:=0) (a:=a1) (e:=e1) (by rw [hk]; rfl) he1 hk1 h1 (Ext.refl _ _) (u:=.nils) (ds:=[]) ⟨Own.nil _ _ _ _,fun i d hd=>by simp at hd⟩ (by omega) (by simp) fun hA uA wA xA AA=>?_
 refine call_val C (j:=1) (a:=a2) (e:=e2) (by rw [hk]; rfl) he2 hk2 h2 xA AA (by omega) (by simp) fun hB uB wB xB AB=>?_
 refine call_val C (j:=2) (a:=a3) (e:=e3) (by rw [hk]; rfl) he3 hk3 h3 xB AB (by omega) (by simp) fun hC uC wC xC AC=>?_
 have AN:ArgN hC uC [wA,wB,wC] [v1,v2,v3]:=⟨AC.own.rd,rfl,AC.own.in_,fun i w x hw hx=>by
  match i,hw,hx with
  | 0,hw,hx=>cases hw; cases hx; exact ⟨(AC.at_ 0 _ rfl).1,(AC.at_ 0 _ rfl).2.1⟩
  | 1,hw,hx=>cases hw; cases hx; exact ⟨(AC.at_ 1 _ rfl).1,(AC.at_ 1 _ rfl).2.1⟩
  | 2,hw,hx=>cases hw; cases hx; exact ⟨(AC.at_ 2 _ rfl).1,(AC.at_ 2 _ rfl).2.1⟩⟩
 have hend:=call_end C hb3 l3 xC (u:=uC) (v:=ifS v1 v2 v3) (by rw [ht]; exact call_if AN h1.1) (by omega) (Q:=fun x h'=>x=valV (ifS v1 v2 v3)∧Ext h.n h h') fun h' q1 q2=>⟨rfl,by have:=X0.n; omega,fun c hc=>by rw [q1 c (by have:=X0.n; omega) (by omega),X0.old c hc]⟩
 rw [hkl] at hend ⊢
 exact hend
end
end Go.Proofs.YtbchdlelmkmagaaGreatDoor.VM
namespace Go.Proofs.YtbchdlelmkmagaaGreatDoor.VM
open Go
set_option linter.unusedVariables false
set_option linter.unusedSectionVars false
set_option linter.unusedSimpArgs false
set_option maxRecDepth 20000
noncomputable section
attribute [local instance] syZ
section
variable {M k:Nat} {ns:List Nk} {sv gv:V} {bk:Bok} {g:Grd} {own:List Nat}
def doF (d:Nk):Nat:=if d.k=5 then 68 else if d.k=7 then 69 else if 8 < d.k then 71 else 67
theorem zhJ {i:Nat} {d:Nk} {v:Vl} (hd:ns[i]? = some d) (h8:d.k ≠ 8)
  (H:∀ h kb,NCx M k ns sv gv bk g h→Rd h 1 (kidV kb d) d.kids.length (zfo d.kids)→In h.n (kidV kb d)→Ans EE (doF d) [.agg (evC (lvK k ns) own sv gv),.agg (nkC kb d)] h fun x h'=>x=valV v∧Ext h.n h h'):
  ∀ h,NCx M k ns sv gv bk g h→∀ z:Int,z=(i:Int)→Ans EE 37 [.agg (evC (lvK k ns) own sv gv),.int .i64 z] h fun x h'=>x=valV v∧Ext h.n h h':=by
 intro h cx z hz
 subst hz
 apply a_calc_eval_node
 unfold zdE
 refine zW (cs:=evC (lvK k ns) own sv gv) (zf5 (c1_lv k ns) cx.ev.c1s cx.ev.c1g) fun h1 b1 w1=>?_
 refine zq ze fun h2 b2 w2=>?_
 have n1:=w1.n
 have e1:=w1.b
 have n2:=w2.n
 have e2:=w2.b
 have hb1:h2.t.get b1=some (.cells (evC (lvK k ns) own sv gv) 74 false):=by rw [w2.old b1 (by omega)]; exact w1.at_
 have X2:Ext h.n h h2:=(w1.ext (Nat.le_refl _)).trans (w2.ext (by omega))
 have cx2:=cx.ext X2
 obtain ⟨kb,b,o,vs,f,ro,m1,m2,m3,m4,m5,m6,m7⟩:=zie cx2.nd hd
 rw [ze8,za zfI hb1 (v:=lvK k ns) rfl,m1,m2]
 refine sbox zbh (nkC kb d) rfl (zbH kb d) fun h3 b3 w3=>?_
 have n3:=w3.n
 have e3:=w3.b
 have X3:Ext h.n h h3:=X2.trans (w3.ext (by omega))
 have hb1':h3.t.get b1=some (.cells (evC (lvK k ns) own sv gv) 74 false):=by rw [w3.old b1 (by omega)]; exact hb1
 have hb2:h3.t.get b2=some (.cells [.int .i64 0,.int .i64 0,.str []] 48 false):=by rw [w3.old b2 (by omega)]; exact w2.at_
 have fin:zgy (fun x h'=>x=valV v∧Ext h.n h h') (.ptr b1 0) (.ptr b2 0) (.ptr b3 0) (.fn (.func (doF d)) [] []) h3:=by
  apply r_calc_eval_node_1
  unfold zd3
  rw [zd zcf hb1' (l:=evC (lvK k ns) own sv gv) rfl,zd zbh w3.at_ (l:=nkC kb d) rfl]
  refine pu_callv ((H h3 kb (cx.ext X3) (m5.ext (w3.ext (Nat.le_refl _)) m6) (m6.mono (by omega))).mono ?_)
  rintro y h4 ⟨rfl,x4⟩
  have n4:=x4.n
  refine retV (by rw [x4.old b2 (by omega)]; exact hb2) rfl _ fun h5 w5=>⟨rfl,by rw [w5.n]; omega,fun c hc=>?_⟩
  rw [w5.other c (by omega),x4.old c (by omega),X3.old c hc]
 rw [zE,za zm w3.at_ (v:=.int .i64 (d.k:Int)) rfl,eqlK d.k 5 5 rfl]
 by_cases k5:d.k=5
 ·rw [decide_eq_true k5,zc]
  unfold doF at fin; rw [if_pos k5] at fin; exact fin
 rw [decide_eq_false k5,zb,zE,za zm w3.at_ (v:=.int .i64 (d.k:Int)) rfl,eqlK d.k 7 7 rfl]
 by_cases k7:d.k=7
 ·rw [decide_eq_true k7,zc]
  unfold doF at fin; rw [if_neg k5,if_pos k7] at fin; exact fin
 rw [decide_eq_false k7,zb,zE,za zm w3.at_ (v:=.int .i64 (d.k:Int)) rfl,eqlK d.k 8 8 rfl,decide_eq_false h8,zb,zE,za zm w3.at_ (v:=.int .i64 (d.k:Int)) rfl,zgc]
 by_cases k8:8 < d.k
 ·rw [decide_eq_true (by omega),zc]
  unfold doF at fin; rw [if_neg k5,if_neg k7,if_pos k8] at fin; exact fin
 ·rw [decide_eq_false (by omega),zb]
  unfold doF at fin; rw [if_neg k5,if_neg k7,if_neg k8] at fin; exact fin
theorem zcw {i:Nat} (h:kAt ns i ≠ 6):∃ d,ns[i]? = some d∧d.k ≠ 6:=by
 unfold kAt at h
 cases hd:ns[i]? with
 | none=>rw [hd] at h; exact absurd rfl h
 | some d=>rw [hd] at h; exact ⟨d,rfl,h⟩
theorem zgH {i:Nat} {n:Int} (h:isNum ns i n=true) (f:Nat):evN ns bk g own (f+1) i=vlN n:=by
 unfold isNum at h
 cases hd:ns[i]? with
 | none=>rw [hd] at h; cases h
 | some d=>
  rw [hd] at h
  simp only [Bool.and_eq_true,decide_eq_true_eq] at h
  rw [evN,hd]
  simp only
  rw [if_pos h.1,h.2]
theorem node_ok (hns:okNs ns=true) (hco:zbQ bk) {hb:Hp} (cx0:NCx M k ns sv gv bk g hb):∀ f i d,i < f→ns[i]? = some d→d.k ≠ 6→NodeOK M k ns sv gv bk g own i (evN ns bk g own f i):=by
 intro f
 induction f with
 | zero=>intro i d hi; omega
 | succ f ih=>
  intro i d hi hd hk6
  have ok:=okNs_at hns hd
  unfold okNk at ok
  simp only [Bool.and_eq_true,decide_eq_true_eq] at ok
  obtain ⟨⟨⟨⟨⟨⟨oc,or_⟩,oc1⟩,or1⟩,ofit⟩,otx⟩,ok⟩:=ok
  have otx':∀ x ∈ d.t,x < 256:=fun x hx=>by simpa using List.all_eq_true.1 otx x hx
  rw [evN,hd]
  simp only
  by_cases k1:d.k=1
  ·rw [if_pos k1]
   refine ⟨mayN ofit,zhJ hd (by omega) fun h kb cx hr hi=>?_⟩
   have:=leaf_ok cx.ev (c1_lv k ns) own kb d (.inl k1)
   rw [if_pos k1] at this
   unfold doF; rw [if_neg (by omega),if_neg (by omega),if_neg (by omega)]; exact this
  rw [if_neg k1]
  by_cases k2:d.k=2
  ·rw [if_pos k2]
   refine ⟨mayT otx',zhJ hd (by omega) fun h kb cx hr hi=>?_⟩
   have:=leaf_ok cx.ev (c1_lv k ns) own kb d (.inr k2)
   rw [if_neg (by omega)] at this
   unfold doF; rw [if_neg (by omega),if_neg (by omega),if_neg (by omega)]; exact this
  rw [if_neg k2]
  by_cases k5:d.k=5
  ·rw [if_neg (by omega),if_pos k5]
   refine ⟨may_ref cx0.ev own d,zhJ hd (by omega) fun h kb cx hr hi=>?_⟩
   unfold doF; rw [if_pos k5]
   exact ref_ok cx.ev (c1_lv k ns) own kb d
  rw [if_neg (by omega:¬ (d.k=1∨d.k=2∨d.k=5∨d.k=6))] at ok
  by_cases k7:d.k=7
  ·rw [if_pos k7] at ok
   rw [if_neg (by omega),if_neg k5,if_pos k7]
   cases hkd:d.kids with
   | nil=>rw [hkd] at ok; cases ok
   | cons a r=>
    rw [hkd] at ok
    match r,hkd,ok with
    | [],hkd,ok=>
     simp only [Bool.and_eq_true,decide_eq_true_eq] at ok
     obtain ⟨⟨⟨ot,oa⟩,o6⟩,oal⟩:=ok
     have he:ns[a]? = some ns[a]:=List.getElem?_eq_getElem oal
     have hek:(ns[a]).k=6:=by unfold kAt at o6; rw [he] at o6; exact o6
     have oe:=okNs_at hns he
     unfold okNk at oe
     simp only [Bool.and_eq_true,decide_eq_true_eq] at oe
     obtain ⟨⟨⟨⟨⟨⟨ec,er⟩,ec1⟩,er1⟩,_⟩,_⟩,_⟩:=oe
     simp only
     rw [he]
     refine ⟨may_sum (may_span cx0.ev own _),zhJ hd (by omega) fun h kb cx hr hi=>?_⟩
     unfold doF; rw [if_neg k5,if_pos k7]
     exact sum_eval cx hr hi hkd ot he hek hco ⟨ec,er,ec1,er1⟩
    | [b,c],hkd,ok=>
     simp only [Bool.and_eq_true,decide_eq_true_eq] at ok
     obtain ⟨⟨⟨⟨⟨⟨ot,oa⟩,ob⟩,oc'⟩,o1⟩,o2⟩,o3⟩:=ok
     obtain ⟨x1,hx1,hk1⟩:=zcw o1
     obtain ⟨x2,hx2,hk2⟩:=zcw o2
     obtain ⟨x3,hx3,hk3⟩:=zcw o3
     have v1:=ih a x1 (by omega) hx1 hk1
     have v2:=ih b x2 (by omega) hx2 hk2
     have v3:=ih c x3 (by omega) hx3 hk3
     simp only
     refine ⟨may_if v1.1 v2.1 v3.1,zhJ hd (by omega) fun h kb cx hr hi=>?_⟩
     unfold doF; rw [if_neg k5,if_pos k7]
     exact if_eval cx hr hi hkd ot hx1 hk1 hx2 hk2 hx3 hk3 v1 v2 v3
    | [b],hkd,ok=>cases ok
    | b::c::e::r,hkd,ok=>cases ok
  ·rw [if_neg k7] at ok
   rw [if_neg (by
    intro h4
    rw [h4] at ok
    split at ok
    ·simp at ok
    ·cases ok),if_neg k5,if_neg k7]
   cases hkd:d.kids with
   | nil=>rw [hkd] at ok; cases ok
   | cons a r=>
    rw [hkd] at ok
    match r,hkd,ok with
    | [b],hkd,ok=>
     simp only [Bool.and_eq_true,Bool.or_eq_true,decide_eq_true_eq] at ok
     obtain ⟨⟨⟨⟨oa,ob⟩,o1⟩,o2⟩,oo⟩:=ok
     obtain ⟨x1,hx1,hk1⟩:=zcw o1
     obtain ⟨x2,hx2,hk2⟩:=zcw o2
     have v1:=ih a x1 (by omega) hx1 hk1
     have v2:=ih b x2 (by omega) hx2 hk2
     simp only
     obtain ⟨f',rfl⟩:∃ f',f=f'+1:=⟨f - 1,by omega⟩
     have hop:TwoOK d.k (evN ns bk g own (f'+1) a) (evN ns bk g own (f'+1) b):=by
      rcases oo with (((h | h) | h) | ⟨h,q⟩) | ⟨⟨h,q⟩,q2⟩
      ·exact .inl h
      ·exact .inr (.inl h)
      ·exact .inr (.inr (.inl h))
      ·exact .inr (.inr (.inr (.inl ⟨h,zgH q f'⟩)))
      ·exact .inr (.inr (.inr (.inr ⟨h,zgH q f',q2.imp (fun q=>zgH q f') (fun q=>zgH q f')⟩)))
     have h8:8 < d.k:=by rcases oo with (((h | h) | h) | ⟨h,q⟩) | ⟨⟨h,q⟩,q2⟩ <;> omega
     refine ⟨may_two v1.1 v2.1 hop,zhJ hd (by omega) fun h kb cx hr hi=>?_⟩
     unfold doF; rw [if_neg k5,if_neg k7,if_pos h8]
     exact two_eval hkd v1 v2 hop cx hr hi
    | [],hkd,ok=>cases ok
    | b::c::r,hkd,ok=>cases ok
end
end
end Go.Proofs.YtbchdlelmkmagaaGreatDoor.VM
namespace Go.Proofs.YtbchdlelmkmagaaGreatDoor.VM
open Go
set_option linter.unusedVariables false
set_option linter.unusedSectionVars false
set_option linter.unusedSimpArgs false
set_option maxRecDepth 20000
noncomputable section
attribute [local instance] syZ
theorem build_ev {lv sv gv:V} {own:List Nat} (hl:C1 lv) (hs:C1 sv) (hg:C1 gv) (q:V→Prop):(Pu EE).build 74 [(0,lv),(1,.str own),(2,.agg [sv]),(3,gv)] q↔q (.agg (evC lv own sv gv)):=by
 obtain ⟨i,fs,h1,h2,h3,h4⟩:=so_calc_eval
 show (∃ v,zkE EE 74 _=some v∧q v)↔_
 have hf:fillV [(0,1),(1,1),(2,1),(3,1)] [.nils,.str [],.nils,.nils] [(0,lv),(1,.str own),(2,.agg [sv]),(3,gv)]=some [lv,.str own,sv,gv]:=by
  have e1:=hl.1
  have e3:=hg.1
  have e2:(V.agg [sv]).cells=[sv]:=rfl
  have e4:(V.str own).cells=[.str own]:=rfl
  simp [fillV,e1,e2,e3,e4,spl]
  rfl
 have:zkE EE 74 [(0,lv),(1,.str own),(2,.agg [sv]),(3,gv)]=some (.agg (evC lv own sv gv)):=by
  simp only [zkE,h1,Option.bind_some,h2,h3,h4,hf]
  rfl
 rw [this,zT]
theorem hook_tree:EE.hook 36=some treeH:=by kernel_rfl
theorem hook_rtree:EE.hook 53=some treeH:=by kernel_rfl
theorem tree_ok {f:Nat} (hk:EE.hook f=some treeH) {h:Hp} {k:Nat} {ns:List Nk} (hn:ns ∈ ziA) (a:NdC h k ns):Ans EE f [lvK k ns] h fun x h'=>x=.bool true∧h'=h:=
 ⟨_,_,Cs.hook hk (treeH_at hn a.nb),rfl,rfl⟩
theorem eval_ok {M k:Nat} {ns:List Nk} {sv gv:V} {bk:Bok} {g:Grd} (own:List Nat) (hn:ns ∈ ziA) (hco:zbQ bk) {h:Hp} (cx:NCx M k ns sv gv bk g h):Ans EE 14 [lvK k ns,.str own,.agg [sv],gv] h fun x h'=>x=valV (evS ns bk g own)∧Ext h.n h h':=by
 have hns:okNs ns=true:=List.all_eq_true.1 nodes_okNs ns hn
 have hlen:0 < ns.length∧ns.length < 1000∧kAt ns (ns.length - 1) ≠ 6:=by
  unfold okNs at hns
  simp only [Bool.and_eq_true,decide_eq_true_eq] at hns
  exact ⟨hns.1.1.2,hns.2,hns.1.2⟩
 apply a_calc_Eval
 unfold zin
 refine zW (cs:=[sv]) (by have:=cx.ev.c1s; simp [zh,this.2]) fun h1 b1 w1=>?_
 refine zq ze fun h2 b2 w2=>?_
 have n1:=w1.n
 have e1:=w1.b
 have n2:=w2.n
 have e2:=w2.b
 have hb1:h2.t.get b1=some (.cells [sv] 26 false):=by rw [w2.old b1 (by omega)]; exact w1.at_
 have X2:Ext h.n h h2:=(w1.ext (Nat.le_refl _)).trans (w2.ext (by omega))
 have cx2:=cx.ext X2
 refine (tree_ok hook_tree hn cx2.nd).mono ?_
 rintro y h3 ⟨rfl,rfl⟩
 rw [zaE,Bool.not_true,zb,zd zy hb1 (l:=[sv]) rfl,build_ev (c1_lv k ns) cx2.ev.c1s cx2.ev.c1g]
 rw [show (Pu EE).lbui h3 #[43] .len [lvK k ns]=(Pu EE).lbui h3 #[43] .len [.slo k 0 ns.length ns.length 14] from rfl,zp cx2.nd.nb.rd zbM,sub1 hlen.1 (by omega)]
 obtain ⟨d,hd,hk⟩:=zcw hlen.2.2
 refine ((node_ok (own:=own) hns hco cx2 ns.length (ns.length - 1) d (by omega) hd hk).2 h3 cx2 _ rfl).mono ?_
 rintro y h4 ⟨rfl,x4⟩
 have n4:=x4.n
 refine retV (by rw [x4.old b2 (by omega)]; exact w2.at_) rfl _ fun h5 w5=>⟨rfl,by rw [w5.n]; omega,fun c hc=>?_⟩
 rw [w5.other c (by omega),x4.old c (by omega),X2.old c hc]
theorem may_evS {M k:Nat} {ns:List Nk} {sv gv:V} {bk:Bok} {g:Grd} (own:List Nat) (hn:ns ∈ ziA) (hco:zbQ bk) {h:Hp} (cx:NCx M k ns sv gv bk g h):MayV (evS ns bk g own):=by
 have hns:okNs ns=true:=List.all_eq_true.1 nodes_okNs ns hn
 have hlen:0 < ns.length∧ns.length < 1000∧kAt ns (ns.length - 1) ≠ 6:=by
  unfold okNs at hns
  simp only [Bool.and_eq_true,decide_eq_true_eq] at hns
  exact ⟨hns.1.1.2,hns.2,hns.1.2⟩
 obtain ⟨d,hd,hk⟩:=zcw hlen.2.2
 exact (node_ok (own:=own) hns hco cx ns.length (ns.length - 1) d (by omega) hd hk).1
end
end Go.Proofs.YtbchdlelmkmagaaGreatDoor.VM
namespace Go.Proofs.YtbchdlelmkmagaaGreatDoor.VM
open Go
set_option linter.unusedVariables false
set_option maxRecDepth 100000
noncomputable section
noncomputable def c_r7_Values:Code:=match Tryz.f9.body with | some c=>c | none=>.skip
noncomputable def zay:Fl:=⟨Tryz.f9,c_r7_Values,[([false,true,false,true,true],[1,3,4]),([false,true,false,true,false,false,true,false,false,true,false,true,true],[1,3,4,5,6]),([false,true,false,true,false,false,true,false,false,true,false,true,false,false,true,false,false,true,false,true,true],[1,3,4,5,6,7,8]),([false,true,false,true,true,true,true],[1,3,9,10,11]),([false,true,false,true,true,true,true,true],[1,3,9,12])]⟩
abbrev zh4 (Q:QQ) (v1 v3 v4:V) (h:Hp):Prop:=zay.L EE Q 1 [v1,v3,v4] h
abbrev zhN (Q:QQ) (v1 v3 v4 v5 v6:V) (h:Hp):Prop:=zay.L EE Q 2 [v1,v3,v4,v5,v6] h
abbrev zic (Q:QQ) (v1 v3 v4 v5 v6 v7 v8:V) (h:Hp):Prop:=zay.L EE Q 3 [v1,v3,v4,v5,v6,v7,v8] h
abbrev L_r7_Values_4 (Q:QQ) (v1 v3 v9 v10 v11:V) (h:Hp):Prop:=zay.L EE Q 4 [v1,v3,v9,v10,v11] h
abbrev zhR (Q:QQ) (v1 v3 v9 v12:V) (h:Hp):Prop:=zay.L EE Q 5 [v1,v3,v9,v12] h
noncomputable def zhU (p:Pr) (l:LL) (Q:QQ) (v0:V) (h:Hp):Prop:=
 p.box h 26 v0 fun x1 h2 b3=>
 l 1 [x1,.nils,(.int .i64 0)] h2
theorem q_r7_Values_0 (p:Pr) (l:LL) (Q:QQ) (v0:V) (h:Hp):zhU p l Q v0 h=zay.K p EE l Q [] ([v0]++List.replicate 144 zj) h:=by kernel_rfl
theorem a_r7_Values {Q:QQ} {v0:V} {h:Hp} (H:zhU (Pu EE) (zay.L EE Q) Q v0 h):Ans EE 9 [v0] h Q:=
 ansL (F:=zay) (by kernel_rfl) (by kernel_rfl) (by kernel_rfl) (by kernel_rfl) (cast (q_r7_Values_0 _ _ _ v0 h) H)
noncomputable def zfz (p:Pr) (l:LL) (Q:QQ) (v1 v3 v4:V) (h:Hp):Prop:=
 p.faddr 26 v1 0 fun x1=>
 p.load h 24 x1 fun x2=>
 p.lbui h #[24] .len [x2] fun x3=>
 p.bin .lss 3 false false v4 x3 fun x4=>
 p.cond x4
 (fun _=>
  l 2 [v1,v3,v4,.nils,(.int .i64 0)] h)
 (fun _=>
  p.load h 26 v1 fun x5=>
  p.call 22 [x5] h fun x6 h7=>
  p.extr x6 0 fun x8=>
  p.extr x6 1 fun x9=>
  l 4 [v1,v3,x8,x9,(.int .i64 0)] h7)
theorem q_r7_Values_1 (p:Pr) (l:LL) (Q:QQ) (s:List V) (h:Hp):zfz p l Q (nth s 1) (nth s 3) (nth s 4) h=zay.K p EE l Q [true,true,false,true,false] (nths s 145 0) h:=by kernel_rfl
theorem r_r7_Values_1 {Q:QQ} {v1 v3 v4:V} {h:Hp} (H:zfz (Pu EE) (zay.L EE Q) Q v1 v3 v4 h):zh4 Q v1 v3 v4 h:=
 labR (path:=[true,true,false,true,false]) rfl rfl fun s e=>by cases e; exact cast (q_r7_Values_1 _ _ _ s h) H
noncomputable def zfJ (p:Pr) (l:LL) (Q:QQ) (v1 v3 v4 v5 v6:V) (h:Hp):Prop:=
 p.faddr 26 v1 0 fun x1=>
 p.load h 24 x1 fun x2=>
 p.iaddr 24 x2 v4 fun x3=>
 p.faddr 38 x3 2 fun x4=>
 p.load h 36 x4 fun x5=>
 p.lbui h #[36] .len [x5] fun x6=>
 p.bin .lss 3 false false v6 x6 fun x7=>
 p.cond x7
 (fun _=>
  l 3 [v1,v3,v4,v5,v6,.nils,(.int .i64 0)] h)
 (fun _=>
  p.bsl h 29 1 [(0,v5)] fun x8 h9 b10=>
  p.ebui h9 #[29,29] .append [v3,x8] fun x11 h12=>
  p.bin .add 3 false true v4 (.int .i64 1) fun x13=>
  l 1 [v1,x11,x13] h12)
theorem q_r7_Values_2 (p:Pr) (l:LL) (Q:QQ) (s:List V) (h:Hp):zfJ p l Q (nth s 1) (nth s 3) (nth s 4) (nth s 5) (nth s 6) h=zay.K p EE l Q [true,true,false,true,false,false,true,false,false,true,false,true,false] (nths s 145 0) h:=by kernel_rfl
theorem r_r7_Values_2 {Q:QQ} {v1 v3 v4 v5 v6:V} {h:Hp} (H:zfJ (Pu EE) (zay.L EE Q) Q v1 v3 v4 v5 v6 h):zhN Q v1 v3 v4 v5 v6 h:=
 labR (path:=[true,true,false,true,false,false,true,false,false,true,false,true,false]) rfl rfl fun s e=>by cases e; exact cast (q_r7_Values_2 _ _ _ s h) H
noncomputable def zfB (p:Pr) (l:LL) (Q:QQ) (v1 v3 v4 v5 v6 v7 v8:V) (h:Hp):Prop:=
 p.faddr 26 v1 0 fun x1=>
 p.load h 24 x1 fun x2=>
 p.iaddr 24 x2 v4 fun x3=>
 p.faddr 38 x3 2 fun x4=>
 p.load h 36 x4 fun x5=>
 p.iaddr 36 x5 v6 fun x6=>
 p.load h 40 x6 fun x7=>
 p.lbui h #[40] .len [x7] fun x8=>
 p.bin .lss 3 false false v8 x8 fun x9=>
 p.cond x9
 (fun _=>
  p.faddr 26 v1 0 fun x10=>
  p.load h 24 x10 fun x11=>
  p.iaddr 24 x11 v4 fun x12=>
  p.faddr 38 x12 2 fun x13=>
  p.load h 36 x13 fun x14=>
  p.iaddr 36 x14 v6 fun x15=>
  p.load h 40 x15 fun x16=>
  p.iaddr 40 x16 v8 fun x17=>
  p.load h 9 x17 fun x18=>
  p.call 13 [x18] h fun x19 h20=>
  p.bsl h20 39 1 [(0,x19)] fun x21 h22 b23=>
  p.ebui h22 #[39,39] .append [v7,x21] fun x24 h25=>
  p.bin .add 3 false true v8 (.int .i64 1) fun x26=>
  l 3 [v1,v3,v4,v5,v6,x24,x26] h25)
 (fun _=>
  p.bsl h 35 1 [(0,v7)] fun x27 h28 b29=>
  p.ebui h28 #[35,35] .append [v5,x27] fun x30 h31=>
  p.bin .add 3 false true v6 (.int .i64 1) fun x32=>
  l 2 [v1,v3,v4,x30,x32] h31)
theorem q_r7_Values_3 (p:Pr) (l:LL) (Q:QQ) (s:List V) (h:Hp):zfB p l Q (nth s 1) (nth s 3) (nth s 4) (nth s 5) (nth s 6) (nth s 7) (nth s 8) h=zay.K p EE l Q [true,true,false,true,false,false,true,false,false,true,false,true,false,false,true,false,false,true,false,true,false] (nths s 145 0) h:=by kernel_rfl
theorem r_r7_Values_3 {Q:QQ} {v1 v3 v4 v5 v6 v7 v8:V} {h:Hp} (H:zfB (Pu EE) (zay.L EE Q) Q v1 v3 v4 v5 v6 v7 v8 h):zic Q v1 v3 v4 v5 v6 v7 v8 h:=
 labR (path:=[true,true,false,true,false,false,true,false,false,true,false,true,false,false,true,false,false,true,false,true,false]) rfl rfl fun s e=>by cases e; exact cast (q_r7_Values_3 _ _ _ s h) H
noncomputable def zfF (p:Pr) (l:LL) (Q:QQ) (v1 v3 v9 v10 v11:V) (h:Hp):Prop:=
 p.lbui h #[32] .len [v10] fun x1=>
 p.bin .lss 3 false false v11 x1 fun x2=>
 p.cond x2
 (fun _=>
  p.load h 26 v1 fun x3=>
  p.iaddr 32 v10 v11 fun x4=>
  p.faddr 42 x4 0 fun x5=>
  p.load h 9 x5 fun x6=>
  p.iaddr 32 v10 v11 fun x7=>
  p.faddr 42 x7 1 fun x8=>
  p.load h 3 x8 fun x9=>
  p.iaddr 32 v10 v11 fun x10=>
  p.faddr 42 x10 2 fun x11=>
  p.load h 3 x11 fun x12=>
  p.call 24 [x3,x6] h fun x13 h14=>
  p.load h14 3 x11 fun x15=>
  p.same x15 x12 (
  p.load h14 3 x8 fun x16=>
  p.same x16 x9 (
  p.iaddr 29 v3 x13 fun x17=>
  p.load h14 35 x17 fun x18=>
  p.iaddr 35 x18 x9 fun x19=>
  p.load h14 39 x19 fun x20=>
  p.call 23 [(.int .i64 6)] h14 fun x21 h22=>
  p.load h22 39 x19 fun x23=>
  p.same x23 x20 (
  p.load h22 35 x17 fun x24=>
  p.same x24 x18 (
  p.load h22 3 x11 fun x25=>
  p.same x25 x12 (
  p.load h22 3 x8 fun x26=>
  p.same x26 x9 (
  p.iaddr 39 x20 x12 fun x27=>
  p.store h22 48 x27 x21 fun h28=>
  p.bin .add 3 false true v11 (.int .i64 1) fun x29=>
  l 4 [v1,v3,v9,v10,x29] h28)))))))
 (fun _=>
  l 5 [v1,v3,v9,(.int .i64 0)] h)
theorem q_r7_Values_4 (p:Pr) (l:LL) (Q:QQ) (s:List V) (h:Hp):zfF p l Q (nth s 1) (nth s 3) (nth s 9) (nth s 10) (nth s 11) h=zay.K p EE l Q [true,true,true,true,false,true,false] (nths s 145 0) h:=by kernel_rfl
theorem r_r7_Values_4 {Q:QQ} {v1 v3 v9 v10 v11:V} {h:Hp} (H:zfF (Pu EE) (zay.L EE Q) Q v1 v3 v9 v10 v11 h):L_r7_Values_4 Q v1 v3 v9 v10 v11 h:=
 labR (path:=[true,true,true,true,false,true,false]) rfl rfl fun s e=>by cases e; exact cast (q_r7_Values_4 _ _ _ s h) H
noncomputable def zfC (p:Pr) (l:LL) (Q:QQ) (v1 v3 v9 v12:V) (h:Hp):Prop:=
 p.lbui h #[32] .len [v9] fun x1=>
 p.bin .lss 3 false false v12 x1 fun x2=>
 p.cond x2
 (fun _=>
  p.iaddr 32 v9 v12 fun x3=>
  p.load h 42 x3 fun x4=>
  p.alloc h 42 fun x5 h6 b7=>
  p.store h6 42 x5 x4 fun h8=>
  p.load h8 26 v1 fun x9=>
  p.load h8 42 x5 fun x10=>
  p.call 12 [x9,x10] h8 fun x11 h12=>
  p.call 11 [x11] h12 fun x13 h14=>
  p.extr x13 0 fun x15=>
  p.extr x13 1 fun x16=>
  p.load h14 26 v1 fun x17=>
  p.faddr 42 x5 0 fun x18=>
  p.load h14 9 x18 fun x19=>
  p.faddr 42 x5 1 fun x20=>
  p.load h14 3 x20 fun x21=>
  p.faddr 42 x5 2 fun x22=>
  p.load h14 3 x22 fun x23=>
  p.faddr 42 x5 0 fun x24=>
  p.load h14 9 x24 fun x25=>
  p.load h14 26 v1 fun x26=>
  p.call 24 [x17,x19] h14 fun x27 h28=>
  p.load h28 26 v1 fun x29=>
  p.same x29 x26 (
  p.load h28 9 x24 fun x30=>
  p.same x30 x25 (
  p.load h28 3 x22 fun x31=>
  p.same x31 x23 (
  p.load h28 3 x20 fun x32=>
  p.same x32 x21 (
  p.iaddr 29 v3 x27 fun x33=>
  p.load h28 35 x33 fun x34=>
  p.iaddr 35 x34 x21 fun x35=>
  p.load h28 39 x35 fun x36=>
  p.call 25 [x15,x25,x26,v3] h28 fun x37 h38=>
  p.load h38 39 x35 fun x39=>
  p.same x39 x36 (
  p.load h38 35 x33 fun x40=>
  p.same x40 x34 (
  p.load h38 3 x22 fun x41=>
  p.same x41 x23 (
  p.load h38 3 x20 fun x42=>
  p.same x42 x21 (
  p.iaddr 39 x36 x23 fun x43=>
  p.store h38 48 x43 x37 fun h44=>
  p.bin .add 3 false true v12 (.int .i64 1) fun x45=>
  l 5 [v1,v3,v9,x45] h44)))))))))
 (fun _=>
  Q v3 h)
theorem q_r7_Values_5 (p:Pr) (l:LL) (Q:QQ) (s:List V) (h:Hp):zfC p l Q (nth s 1) (nth s 3) (nth s 9) (nth s 12) h=zay.K p EE l Q [true,true,true,true,true,false,true,false] (nths s 145 0) h:=by kernel_rfl
theorem r_r7_Values_5 {Q:QQ} {v1 v3 v9 v12:V} {h:Hp} (H:zfC (Pu EE) (zay.L EE Q) Q v1 v3 v9 v12 h):zhR Q v1 v3 v9 v12 h:=
 labR (path:=[true,true,true,true,true,false,true,false]) rfl rfl fun s e=>by cases e; exact cast (q_r7_Values_5 _ _ _ s h) H
noncomputable def c_r7_Eval:Code:=match Tryz.f25.body with | some c=>c | none=>.skip
noncomputable def F_r7_Eval:Fl:=⟨Tryz.f25,c_r7_Eval,[]⟩
noncomputable def zkT (p:Pr) (l:LL) (Q:QQ) (v0 v1 v2 v3:V) (h:Hp):Prop:=
 p.box h 26 v2 fun x1 h2 b3=>
 p.alloc h2 48 fun x4 h5 b6=>
 p.call 53 [v0] h5 fun x7 h8=>
 p.un .not x7 fun x9=>
 p.cond x9
 (fun _=>
  p.call 23 [(.int .i64 1)] h8 fun x10 h11=>
  p.store h11 48 x4 x10 fun h12=>
  p.load h12 48 x4 fun x13=>
  Q x13 h12)
 (fun _=>
  p.lbui h8 #[43] .len [v0] fun x14=>
  p.bin .sub 3 false true x14 (.int .i64 1) fun x15=>
  p.load h8 26 x1 fun x16=>
  p.call 54 [v0,x15,v1,x16,v3] h8 fun x17 h18=>
  p.store h18 48 x4 x17 fun h19=>
  p.load h19 48 x4 fun x20=>
  Q x20 h19)
theorem q_r7_Eval_0 (p:Pr) (l:LL) (Q:QQ) (v0 v1 v2 v3:V) (h:Hp):zkT p l Q v0 v1 v2 v3 h=F_r7_Eval.K p EE l Q [] ([v0,v1,v2,v3]++List.replicate 17 zj) h:=by kernel_rfl
theorem a_r7_Eval {Q:QQ} {v0 v1 v2 v3:V} {h:Hp} (H:zkT (Pu EE) (F_r7_Eval.L EE Q) Q v0 v1 v2 v3 h):Ans EE 25 [v0,v1,v2,v3] h Q:=
 ansL (F:=F_r7_Eval) (by kernel_rfl) (by kernel_rfl) (by kernel_rfl) (by kernel_rfl) (cast (q_r7_Eval_0 _ _ _ v0 v1 v2 v3 h) H)
noncomputable def c_r7_eval:Code:=match Tryz.f54.body with | some c=>c | none=>.skip
noncomputable def zhq:Fl:=⟨Tryz.f54,c_r7_eval,[([false,true,false,true,false,true,true,true,true,true,true,true,true,true,true,true,true,true,false,true,false,true,true],[0,2,4,8,10,11,13,14])]⟩
abbrev zc6 (Q:QQ) (v0 v2 v4 v8 v10 v11 v13 v14:V) (h:Hp):Prop:=zhq.L EE Q 1 [v0,v2,v4,v8,v10,v11,v13,v14] h
noncomputable def zeB (p:Pr) (l:LL) (Q:QQ) (v0 v1 v2 v3 v4:V) (h:Hp):Prop:=
 p.box h 26 v3 fun x1 h2 b3=>
 p.alloc h2 48 fun x4 h5 b6=>
 p.iaddr 43 v0 v1 fun x7=>
 p.load h5 88 x7 fun x8=>
 p.alloc h5 88 fun x9 h10 b11=>
 p.store h10 88 x9 x8 fun h12=>
 p.faddr 88 x9 0 fun x13=>
 p.load h12 3 x13 fun x14=>
 p.bin .eql 3 false true x14 (.int .i64 1) fun x15=>
 p.cond x15
 (fun _=>
  p.faddr 88 x9 1 fun x16=>
  p.load h12 3 x16 fun x17=>
  p.call 35 [x17] h12 fun x18 h19=>
  p.store h19 48 x4 x18 fun h20=>
  p.load h20 48 x4 fun x21=>
  Q x21 h20)
 (fun _=>
  p.bin .eql 3 false true x14 (.int .i64 2) fun x22=>
  p.cond x22
  (fun _=>
  p.faddr 88 x9 2 fun x23=>
  p.load h12 9 x23 fun x24=>
  p.lbui h12 #[9] .len [x24] fun x25=>
  p.bin .gtr 3 false true x25 (.int .i64 200) fun x26=>
  p.cond x26
  (fun _=>
   p.call 23 [(.int .i64 1)] h12 fun x27 h28=>
   p.store h28 48 x4 x27 fun h29=>
   p.load h29 48 x4 fun x30=>
   Q x30 h29)
  (fun _=>
   p.faddr 88 x9 2 fun x31=>
   p.load h12 9 x31 fun x32=>
   p.build 48 [(0,(.int .i64 2)),(2,x32)] fun x33=>
   p.store h12 48 x4 x33 fun h34=>
   p.load h34 48 x4 fun x35=>
   Q x35 h34))
  (fun _=>
  p.bin .eql 3 false true x14 (.int .i64 3) fun x36=>
  p.cond x36
  (fun _=>
   p.faddr 88 x9 1 fun x37=>
   p.load h12 3 x37 fun x38=>
   p.bin .eql 3 false true x38 (.int .i64 1) fun x39=>
   p.call 84 [x39] h12 fun x40 h41=>
   p.store h41 48 x4 x40 fun h42=>
   p.load h42 48 x4 fun x43=>
   Q x43 h42)
  (fun _=>
   p.bin .eql 3 false true x14 (.int .i64 4) fun x44=>
   p.cond x44
   (fun _=>
   p.call 23 [(.int .i64 4)] h12 fun x45 h46=>
   p.store h46 48 x4 x45 fun h47=>
   p.load h47 48 x4 fun x48=>
   Q x48 h47)
   (fun _=>
   p.bin .eql 3 false true x14 (.int .i64 5) fun x49=>
   p.cond x49
   (fun _=>
    p.load h12 26 x1 fun x50=>
    p.faddr 88 x9 3 fun x51=>
    p.load h12 85 x51 fun x52=>
    p.call 85 [x50,v2,x52] h12 fun x53 h54=>
    p.bin .lss 3 false true x53 (.int .i64 0) fun x55=>
    p.cond x55
    (fun _=>
    p.call 23 [(.int .i64 4)] h54 fun x56 h57=>
    p.store h57 48 x4 x56 fun h58=>
    p.load h58 48 x4 fun x59=>
    Q x59 h58)
    (fun _=>
    p.faddr 88 x9 3 fun x60=>
    p.faddr 85 x60 2 fun x61=>
    p.load h54 3 x61 fun x62=>
    p.faddr 26 x1 0 fun x63=>
    p.load h54 24 x63 fun x64=>
    p.iaddr 24 x64 x53 fun x65=>
    p.faddr 38 x65 2 fun x66=>
    p.load h54 36 x66 fun x67=>
    p.lbui h54 #[36] .len [x67] fun x68=>
    p.bin .geq 3 false false x62 x68 fun x69=>
    p.gval x69 false (fun k70=>
     p.faddr 88 x9 3 fun x71=>
     k70 x71) fun x72=>
    p.gval x69 false (fun k73=>
     p.faddr 85 x72 1 fun x74=>
     k73 x74) fun x75=>
    p.gval x69 false (fun k76=>
     p.load h54 3 x75 fun x77=>
     k76 x77) fun x78=>
    p.gval x69 false (fun k79=>
     p.faddr 26 x1 0 fun x80=>
     k79 x80) fun x81=>
    p.gval x69 false (fun k82=>
     p.load h54 24 x81 fun x83=>
     k82 x83) fun x84=>
    p.gval x69 false (fun k85=>
     k85 x53) fun x86=>
    p.gval x69 false (fun k87=>
     p.iaddr 24 x84 x86 fun x88=>
     k87 x88) fun x89=>
    p.gval x69 false (fun k90=>
     p.faddr 38 x89 1 fun x91=>
     k90 x91) fun x92=>
    p.gval x69 false (fun k93=>
     p.load h54 3 x92 fun x94=>
     k93 x94) fun x95=>
    p.gval x69 false (fun k96=>
     p.bin .geq 3 false false x78 x95 fun x97=>
     k96 x97) fun x98=>
    p.pick x69 (some (.bool true)) (some x98) fun x99=>
    p.cond x99
    (fun _=>
     p.build 48 [] fun x100=>
     p.store h54 48 x4 x100 fun h101=>
     p.load h101 48 x4 fun x102=>
     Q x102 h101)
    (fun _=>
     p.iaddr 29 v4 x53 fun x103=>
     p.load h54 35 x103 fun x104=>
     p.faddr 88 x9 3 fun x105=>
     p.faddr 85 x105 2 fun x106=>
     p.load h54 3 x106 fun x107=>
     p.iaddr 35 x104 x107 fun x108=>
     p.load h54 39 x108 fun x109=>
     p.faddr 88 x9 3 fun x110=>
     p.faddr 85 x110 1 fun x111=>
     p.load h54 3 x111 fun x112=>
     p.iaddr 39 x109 x112 fun x113=>
     p.load h54 48 x113 fun x114=>
     p.store h54 48 x4 x114 fun h115=>
     p.load h115 48 x4 fun x116=>
     Q x116 h115)))
   (fun _=>
    p.bin .eql 3 false true x14 (.int .i64 6) fun x117=>
    p.cond x117
    (fun _=>
    p.call 23 [(.int .i64 1)] h12 fun x118 h119=>
    p.store h119 48 x4 x118 fun h120=>
    p.load h120 48 x4 fun x121=>
    Q x121 h120)
    (fun _=>
    p.bin .eql 3 false true x14 (.int .i64 7) fun x122=>
    p.cond x122
    (fun _=>
     l 1 [v0,v2,v4,x1,x4,x9,.nils,(.int .i64 0)] h12)
    (fun _=>
     p.bin .eql 3 false true x14 (.int .i64 8) fun x123=>
     p.cond x123
     (fun _=>
     p.faddr 88 x9 5 fun x124=>
     p.load h12 86 x124 fun x125=>
     p.iaddr 86 x125 (.int .i64 0) fun x126=>
     p.load h12 3 x126 fun x127=>
     p.load h12 26 x1 fun x128=>
     p.call 54 [v0,x127,v2,x128,v4] h12 fun x129 h130=>
     p.call 88 [x129] h130 fun x131 h132=>
     p.store h132 48 x4 x131 fun h133=>
     p.load h133 48 x4 fun x134=>
     Q x134 h133)
     (fun _=>
     p.faddr 88 x9 0 fun x135=>
     p.load h12 3 x135 fun x136=>
     p.faddr 88 x9 5 fun x137=>
     p.load h12 86 x137 fun x138=>
     p.iaddr 86 x138 (.int .i64 0) fun x139=>
     p.load h12 3 x139 fun x140=>
     p.load h12 26 x1 fun x141=>
     p.faddr 88 x9 5 fun x142=>
     p.load h12 86 x142 fun x143=>
     p.iaddr 86 x143 (.int .i64 1) fun x144=>
     p.load h12 3 x144 fun x145=>
     p.load h12 26 x1 fun x146=>
     p.call 54 [v0,x140,v2,x141,v4] h12 fun x147 h148=>
     p.load h148 26 x1 fun x149=>
     p.same x149 x146 (
     p.load h148 3 x144 fun x150=>
     p.same x150 x145 (
     p.load h148 86 x142 fun x151=>
     p.same x151 x143 (
     p.load h148 3 x135 fun x152=>
     p.same x152 x136 (
     p.call 54 [v0,x145,v2,x146,v4] h148 fun x153 h154=>
     p.load h154 3 x135 fun x155=>
     p.same x155 x136 (
     p.call 89 [x136,x147,x153] h154 fun x156 h157=>
     p.store h157 48 x4 x156 fun h158=>
     p.load h158 48 x4 fun x159=>
     Q x159 h158)))))))))))))
theorem q_r7_eval_0 (p:Pr) (l:LL) (Q:QQ) (v0 v1 v2 v3 v4:V) (h:Hp):zeB p l Q v0 v1 v2 v3 v4 h=zhq.K p EE l Q [] ([v0,v1,v2,v3,v4]++List.replicate 150 zj) h:=by kernel_rfl
theorem a_r7_eval {Q:QQ} {v0 v1 v2 v3 v4:V} {h:Hp} (H:zeB (Pu EE) (zhq.L EE Q) Q v0 v1 v2 v3 v4 h):Ans EE 54 [v0,v1,v2,v3,v4] h Q:=
 ansL (F:=zhq) (by kernel_rfl) (by kernel_rfl) (by kernel_rfl) (by kernel_rfl) (cast (q_r7_eval_0 _ _ _ v0 v1 v2 v3 v4 h) H)
noncomputable def zgr (p:Pr) (l:LL) (Q:QQ) (v0 v2 v4 v8 v10 v11 v13 v14:V) (h:Hp):Prop:=
 p.faddr 88 v11 5 fun x1=>
 p.load h 86 x1 fun x2=>
 p.lbui h #[86] .len [x2] fun x3=>
 p.bin .lss 3 false false v14 x3 fun x4=>
 p.cond x4
 (fun _=>
  p.faddr 88 v11 5 fun x5=>
  p.load h 86 x5 fun x6=>
  p.iaddr 86 x6 v14 fun x7=>
  p.load h 3 x7 fun x8=>
  p.load h 26 v8 fun x9=>
  p.call 86 [v0,x8,v2,x9,v4] h fun x10 h11=>
  p.bsl h11 131 1 [(0,x10)] fun x12 h13 b14=>
  p.ebui h13 #[131,131] .append [v13,x12] fun x15 h16=>
  p.bin .add 3 false true v14 (.int .i64 1) fun x17=>
  l 1 [v0,v2,v4,v8,v10,v11,x15,x17] h16)
 (fun _=>
  p.faddr 88 v11 2 fun x18=>
  p.load h 9 x18 fun x19=>
  p.call 87 [x19,v13] h fun x20 h21=>
  p.store h21 48 v10 x20 fun h22=>
  p.load h22 48 v10 fun x23=>
  Q x23 h22)
theorem q_r7_eval_1 (p:Pr) (l:LL) (Q:QQ) (s:List V) (h:Hp):zgr p l Q (nth s 0) (nth s 2) (nth s 4) (nth s 8) (nth s 10) (nth s 11) (nth s 13) (nth s 14) h=zhq.K p EE l Q [true,true,false,true,false,true,true,true,true,true,true,true,true,true,true,true,true,true,false,true,false,true,false] (nths s 155 0) h:=by kernel_rfl
theorem zkX {Q:QQ} {v0 v2 v4 v8 v10 v11 v13 v14:V} {h:Hp} (H:zgr (Pu EE) (zhq.L EE Q) Q v0 v2 v4 v8 v10 v11 v13 v14 h):zc6 Q v0 v2 v4 v8 v10 v11 v13 v14 h:=
 labR (path:=[true,true,false,true,false,true,true,true,true,true,true,true,true,true,true,true,true,true,false,true,false,true,false]) rfl rfl fun s e=>by cases e; exact cast (q_r7_eval_1 _ _ _ s h) H
noncomputable def c_r7_arg:Code:=match Tryz.f86.body with | some c=>c | none=>.skip
noncomputable def zfw:Fl:=⟨Tryz.f86,c_r7_arg,[([false,true,false,true,true,true,true,true,true,true],[4,10,11,12,13,14,15]),([false,true,false,false,true,false,false,true,false,true,true,true,true,true,true,true],[4,10,11,12,13,14,15,16])]⟩
abbrev zhz (Q:QQ) (v4 v10 v11 v12 v13 v14 v15:V) (h:Hp):Prop:=zfw.L EE Q 1 [v4,v10,v11,v12,v13,v14,v15] h
abbrev zj5 (Q:QQ) (v4 v10 v11 v12 v13 v14 v15 v16:V) (h:Hp):Prop:=zfw.L EE Q 2 [v4,v10,v11,v12,v13,v14,v15,v16] h
noncomputable def zka (p:Pr) (l:LL) (Q:QQ) (v0 v1 v2 v3 v4:V) (h:Hp):Prop:=
 p.box h 26 v3 fun x1 h2 b3=>
 p.alloc h2 133 fun x4 h5 b6=>
 p.iaddr 43 v0 v1 fun x7=>
 p.load h5 88 x7 fun x8=>
 p.alloc h5 88 fun x9 h10 b11=>
 p.store h10 88 x9 x8 fun h12=>
 p.faddr 88 x9 0 fun x13=>
 p.load h12 3 x13 fun x14=>
 p.bin .neq 3 false true x14 (.int .i64 6) fun x15=>
 p.cond x15
 (fun _=>
  p.load h12 26 x1 fun x16=>
  p.call 54 [v0,v1,v2,x16,v4] h12 fun x17 h18=>
  p.bsl h18 39 1 [(0,x17)] fun x19 h20 b21=>
  p.build 133 [(2,x19)] fun x22=>
  p.store h20 133 x4 x22 fun h23=>
  p.load h23 133 x4 fun x24=>
  Q x24 h23)
 (fun _=>
  p.load h12 26 x1 fun x25=>
  p.faddr 88 x9 3 fun x26=>
  p.load h12 85 x26 fun x27=>
  p.call 85 [x25,v2,x27] h12 fun x28 h29=>
  p.bin .lss 3 false true x28 (.int .i64 0) fun x30=>
  p.cond x30
  (fun _=>
  p.call 23 [(.int .i64 4)] h29 fun x31 h32=>
  p.bsl h32 39 1 [(0,x31)] fun x33 h34 b35=>
  p.build 133 [(2,x33)] fun x36=>
  p.store h34 133 x4 x36 fun h37=>
  p.load h37 133 x4 fun x38=>
  Q x38 h37)
  (fun _=>
  p.faddr 26 x1 0 fun x39=>
  p.load h29 24 x39 fun x40=>
  p.iaddr 24 x40 x28 fun x41=>
  p.load h29 38 x41 fun x42=>
  p.alloc h29 38 fun x43 h44 b45=>
  p.store h44 38 x43 x42 fun h46=>
  p.faddr 88 x9 4 fun x47=>
  p.faddr 85 x47 1 fun x48=>
  p.load h46 3 x48 fun x49=>
  p.faddr 38 x43 1 fun x50=>
  p.load h46 3 x50 fun x51=>
  p.bin .sub 3 false true x51 (.int .i64 1) fun x52=>
  p.lbui h46 #[3,3] .min [x49,x52] fun x53=>
  p.faddr 88 x9 3 fun x54=>
  p.faddr 85 x54 1 fun x55=>
  p.load h46 3 x55 fun x56=>
  p.bin .sub 3 false false x53 x56 fun x57=>
  p.bin .add 3 false true x57 (.int .i64 1) fun x58=>
  p.lbui h46 #[3,3] .max [(.int .i64 0),x58] fun x59=>
  p.build 133 [(0,(.bool true)),(1,x59)] fun x60=>
  p.alloc h46 133 fun x61 h62 b63=>
  p.store h62 133 x61 x60 fun h64=>
  p.faddr 88 x9 3 fun x65=>
  p.faddr 85 x65 2 fun x66=>
  p.load h64 3 x66 fun x67=>
  l 1 [v4,x4,x9,x28,x43,x61,x67] h64))
theorem q_r7_arg_0 (p:Pr) (l:LL) (Q:QQ) (v0 v1 v2 v3 v4:V) (h:Hp):zka p l Q v0 v1 v2 v3 v4 h=zfw.K p EE l Q [] ([v0,v1,v2,v3,v4]++List.replicate 105 zj) h:=by kernel_rfl
theorem a_r7_arg {Q:QQ} {v0 v1 v2 v3 v4:V} {h:Hp} (H:zka (Pu EE) (zfw.L EE Q) Q v0 v1 v2 v3 v4 h):Ans EE 86 [v0,v1,v2,v3,v4] h Q:=
 ansL (F:=zfw) (by kernel_rfl) (by kernel_rfl) (by kernel_rfl) (by kernel_rfl) (cast (q_r7_arg_0 _ _ _ v0 v1 v2 v3 v4 h) H)
noncomputable def t_r7_arg_1 (p:Pr) (l:LL) (Q:QQ) (v4 v10 v11 v12 v13 v14 v15:V) (h:Hp):Prop:=
 p.faddr 88 v11 4 fun x1=>
 p.faddr 85 x1 2 fun x2=>
 p.load h 3 x2 fun x3=>
 p.bin .leq 3 false false v15 x3 fun x4=>
 p.gval x4 true (fun k5=>
  k5 v15) fun x6=>
 p.gval x4 true (fun k7=>
  p.faddr 38 v13 2 fun x8=>
  k7 x8) fun x9=>
 p.gval x4 true (fun k10=>
  p.load h 36 x9 fun x11=>
  k10 x11) fun x12=>
 p.gval x4 true (fun k13=>
  p.lbui h #[36] .len [x12] fun x14=>
  k13 x14) fun x15=>
 p.gval x4 true (fun k16=>
  p.bin .lss 3 false false x6 x15 fun x17=>
  k16 x17) fun x18=>
 p.pick x4 (some x18) (some (.bool false)) fun x19=>
 p.cond x19
 (fun _=>
  p.faddr 88 v11 3 fun x20=>
  p.faddr 85 x20 1 fun x21=>
  p.load h 3 x21 fun x22=>
  l 2 [v4,v10,v11,v12,v13,v14,v15,x22] h)
 (fun _=>
  p.load h 133 v14 fun x23=>
  p.store h 133 v10 x23 fun h24=>
  p.load h24 133 v10 fun x25=>
  Q x25 h24)
theorem q_r7_arg_1 (p:Pr) (l:LL) (Q:QQ) (s:List V) (h:Hp):t_r7_arg_1 p l Q (nth s 4) (nth s 10) (nth s 11) (nth s 12) (nth s 13) (nth s 14) (nth s 15) h=zfw.K p EE l Q [true,true,true,true,true,true,true,false,true,false] (nths s 110 0) h:=by kernel_rfl
theorem r_r7_arg_1 {Q:QQ} {v4 v10 v11 v12 v13 v14 v15:V} {h:Hp} (H:t_r7_arg_1 (Pu EE) (zfw.L EE Q) Q v4 v10 v11 v12 v13 v14 v15 h):zhz Q v4 v10 v11 v12 v13 v14 v15 h:=
 labR (path:=[true,true,true,true,true,true,true,false,true,false]) rfl rfl fun s e=>by cases e; exact cast (q_r7_arg_1 _ _ _ s h) H
noncomputable def zj2 (p:Pr) (l:LL) (Q:QQ) (v4 v10 v11 v12 v13 v14 v15 v16:V) (h:Hp):Prop:=
 p.faddr 88 v11 4 fun x1=>
 p.faddr 85 x1 1 fun x2=>
 p.load h 3 x2 fun x3=>
 p.bin .leq 3 false false v16 x3 fun x4=>
 p.gval x4 true (fun k5=>
  k5 v16) fun x6=>
 p.gval x4 true (fun k7=>
  p.faddr 38 v13 1 fun x8=>
  k7 x8) fun x9=>
 p.gval x4 true (fun k10=>
  p.load h 3 x9 fun x11=>
  k10 x11) fun x12=>
 p.gval x4 true (fun k13=>
  p.bin .lss 3 false false x6 x12 fun x14=>
  k13 x14) fun x15=>
 p.pick x4 (some x15) (some (.bool false)) fun x16=>
 p.cond x16
 (fun _=>
  p.faddr 133 v14 2 fun x17=>
  p.load h 39 x17 fun x18=>
  p.iaddr 29 v4 v12 fun x19=>
  p.load h 35 x19 fun x20=>
  p.iaddr 35 x20 v15 fun x21=>
  p.load h 39 x21 fun x22=>
  p.iaddr 39 x22 v16 fun x23=>
  p.load h 48 x23 fun x24=>
  p.bsl h 39 1 [(0,x24)] fun x25 h26 b27=>
  p.load h26 48 x23 fun x28=>
  p.same x28 x24 (
  p.load h26 39 x21 fun x29=>
  p.same x29 x22 (
  p.load h26 35 x19 fun x30=>
  p.same x30 x20 (
  p.load h26 39 x17 fun x31=>
  p.same x31 x18 (
  p.ebui h26 #[39,39] .append [x18,x25] fun x32 h33=>
  p.faddr 133 v14 2 fun x34=>
  p.store h33 39 x34 x32 fun h35=>
  p.bin .add 3 false true v16 (.int .i64 1) fun x36=>
  l 2 [v4,v10,v11,v12,v13,v14,v15,x36] h35)))))
 (fun _=>
  p.bin .add 3 false true v15 (.int .i64 1) fun x37=>
  l 1 [v4,v10,v11,v12,v13,v14,x37] h)
theorem q_r7_arg_2 (p:Pr) (l:LL) (Q:QQ) (s:List V) (h:Hp):zj2 p l Q (nth s 4) (nth s 10) (nth s 11) (nth s 12) (nth s 13) (nth s 14) (nth s 15) (nth s 16) h=zfw.K p EE l Q [true,true,true,true,true,true,true,false,true,false,false,true,false,false,true,false] (nths s 110 0) h:=by kernel_rfl
theorem r_r7_arg_2 {Q:QQ} {v4 v10 v11 v12 v13 v14 v15 v16:V} {h:Hp} (H:zj2 (Pu EE) (zfw.L EE Q) Q v4 v10 v11 v12 v13 v14 v15 v16 h):zj5 Q v4 v10 v11 v12 v13 v14 v15 v16 h:=
 labR (path:=[true,true,true,true,true,true,true,false,true,false,false,true,false,false,true,false]) rfl rfl fun s e=>by cases e; exact cast (q_r7_arg_2 _ _ _ s h) H
noncomputable def c_r7_sheet:Code:=match Tryz.f85.body with | some c=>c | none=>.skip
noncomputable def F_r7_sheet:Fl:=⟨Tryz.f85,c_r7_sheet,[]⟩
noncomputable def zjx (p:Pr) (l:LL) (Q:QQ) (v0 v1 v2:V) (h:Hp):Prop:=
 p.box h 26 v0 fun x1 h2 b3=>
 p.box h2 85 v2 fun x4 h5 b6=>
 p.faddr 85 x4 0 fun x7=>
 p.load h5 9 x7 fun x8=>
 p.bin .eql 9 false true x8 (.str []) fun x9=>
 p.cond x9
 (fun _=>
  p.load h5 26 x1 fun x10=>
  p.call 24 [x10,v1] h5 fun x11 h12=>
  Q x11 h12)
 (fun _=>
  p.load h5 26 x1 fun x13=>
  p.faddr 85 x4 0 fun x14=>
  p.load h5 9 x14 fun x15=>
  p.call 24 [x13,x15] h5 fun x16 h17=>
  Q x16 h17)
theorem q_r7_sheet_0 (p:Pr) (l:LL) (Q:QQ) (v0 v1 v2:V) (h:Hp):zjx p l Q v0 v1 v2 h=F_r7_sheet.K p EE l Q [] ([v0,v1,v2]++List.replicate 14 zj) h:=by kernel_rfl
theorem a_r7_sheet {Q:QQ} {v0 v1 v2:V} {h:Hp} (H:zjx (Pu EE) (F_r7_sheet.L EE Q) Q v0 v1 v2 h):Ans EE 85 [v0,v1,v2] h Q:=
 ansL (F:=F_r7_sheet) (by kernel_rfl) (by kernel_rfl) (by kernel_rfl) (by kernel_rfl) (cast (q_r7_sheet_0 _ _ _ v0 v1 v2 h) H)
noncomputable def c_r7_Call:Code:=match Tryz.f87.body with | some c=>c | none=>.skip
noncomputable def zdD:Fl:=⟨Tryz.f87,c_r7_Call,[([true,false,true,false,true,true,true,true],[0,1,4,20,21]),([true,true,true,true,true,false,true,false,true,true,true,true],[0,1,4,20,32]),([true,true,true,false,true,false,true,true,true,true,true,true],[0,1,4,90])]⟩
abbrev L_r7_Call_1 (Q:QQ) (v0 v1 v4 v20 v21:V) (h:Hp):Prop:=zdD.L EE Q 1 [v0,v1,v4,v20,v21] h
abbrev L_r7_Call_2 (Q:QQ) (v0 v1 v4 v20 v32:V) (h:Hp):Prop:=zdD.L EE Q 2 [v0,v1,v4,v20,v32] h
noncomputable def zib (p:Pr) (l:LL) (Q:QQ) (v0 v1:V) (h:Hp):Prop:=
 p.alloc h 48 fun x1 h2 b3=>
 p.call 127 [v0,v1] h2 fun x4 h5=>
 p.extr x4 0 fun x6=>
 p.extr x4 1 fun x7=>
 p.un .not x6 fun x8=>
 p.cond x8
 (fun _=>
  p.call 23 [(.int .i64 5)] h5 fun x9 h10=>
  p.store h10 48 x1 x9 fun h11=>
  p.load h11 48 x1 fun x12=>
  Q x12 h11)
 (fun _=>
  p.un .not x7 fun x13=>
  p.cond x13
  (fun _=>
  p.call 23 [(.int .i64 1)] h5 fun x14 h15=>
  p.store h15 48 x1 x14 fun h16=>
  p.load h16 48 x1 fun x17=>
  Q x17 h16)
  (fun _=>
  p.bin .eql 9 false true v0 (.str [83,85,77]) fun x18=>
  p.cond x18
  (fun _=>
   l 1 [v0,v1,x1,v0,x18] h5)
  (fun _=>
   p.bin .eql 9 false true v0 (.str [77,73,78]) fun x19=>
   p.cond x19
   (fun _=>
   l 1 [v0,v1,x1,v0,x19] h5)
   (fun _=>
   p.bin .eql 9 false true v0 (.str [77,65,88]) fun x20=>
   l 1 [v0,v1,x1,v0,x20] h5))))
theorem q_r7_Call_0 (p:Pr) (l:LL) (Q:QQ) (v0 v1:V) (h:Hp):zib p l Q v0 v1 h=zdD.K p EE l Q [] ([v0,v1]++List.replicate 103 zj) h:=by kernel_rfl
theorem a_r7_Call {Q:QQ} {v0 v1:V} {h:Hp} (H:zib (Pu EE) (zdD.L EE Q) Q v0 v1 h):Ans EE 87 [v0,v1] h Q:=
 ansL (F:=zdD) (by kernel_rfl) (by kernel_rfl) (by kernel_rfl) (by kernel_rfl) (cast (q_r7_Call_0 _ _ _ v0 v1 h) H)
noncomputable def zhY (p:Pr) (l:LL) (Q:QQ) (v0 v1 v4 v20 v21:V) (h:Hp):Prop:=
 p.cond v21
 (fun _=>
  p.call 128 [v0,v1] h fun x1 h2=>
  p.store h2 48 v4 x1 fun h3=>
  p.load h3 48 v4 fun x4=>
  Q x4 h3)
 (fun _=>
  p.bin .eql 9 false true v20 (.str [67,79,85,78,84]) fun x5=>
  p.cond x5
  (fun _=>
  p.call 129 [v1] h fun x6 h7=>
  p.store h7 48 v4 x6 fun h8=>
  p.load h8 48 v4 fun x9=>
  Q x9 h8)
  (fun _=>
  p.bin .eql 9 false true v20 (.str [65,78,68]) fun x10=>
  p.cond x10
  (fun _=>
   l 2 [v0,v1,v4,v20,x10] h)
  (fun _=>
   p.bin .eql 9 false true v20 (.str [79,82]) fun x11=>
   l 2 [v0,v1,v4,v20,x11] h)))
theorem q_r7_Call_1 (p:Pr) (l:LL) (Q:QQ) (s:List V) (h:Hp):zhY p l Q (nth s 0) (nth s 1) (nth s 4) (nth s 20) (nth s 21) h=zdD.K p EE l Q [true,true,true,true,false,true,false,true] (nths s 105 0) h:=by kernel_rfl
theorem r_r7_Call_1 {Q:QQ} {v0 v1 v4 v20 v21:V} {h:Hp} (H:zhY (Pu EE) (zdD.L EE Q) Q v0 v1 v4 v20 v21 h):L_r7_Call_1 Q v0 v1 v4 v20 v21 h:=
 labR (path:=[true,true,true,true,false,true,false,true]) rfl rfl fun s e=>by cases e; exact cast (q_r7_Call_1 _ _ _ s h) H
noncomputable def zla (p:Pr) (l:LL) (Q:QQ) (v0 v1 v4 v20 v32:V) (h:Hp):Prop:=
 p.cond v32
 (fun _=>
  p.bin .eql 9 false true v0 (.str [65,78,68]) fun x1=>
  p.call 130 [x1,v1] h fun x2 h3=>
  p.store h3 48 v4 x2 fun h4=>
  p.load h4 48 v4 fun x5=>
  Q x5 h4)
 (fun _=>
  p.bin .eql 9 false true v20 (.str [73,70]) fun x6=>
  p.cond x6
  (fun _=>
  p.call 131 [v1] h fun x7 h8=>
  p.store h8 48 v4 x7 fun h9=>
  p.load h9 48 v4 fun x10=>
  Q x10 h9)
  (fun _=>
  p.bin .eql 9 false true v20 (.str [67,79,78,67,65,84]) fun x11=>
  p.cond x11
  (fun _=>
   p.call 132 [v1] h fun x12 h13=>
   p.store h13 48 v4 x12 fun h14=>
   p.load h14 48 v4 fun x15=>
   Q x15 h14)
  (fun _=>
   p.bin .eql 9 false true v20 (.str [73,83,69,82,82]) fun x16=>
   p.cond x16
   (fun _=>
   p.iaddr 131 v1 (.int .i64 0) fun x17=>
   p.faddr 133 x17 2 fun x18=>
   p.load h 39 x18 fun x19=>
   p.iaddr 39 x19 (.int .i64 0) fun x20=>
   p.faddr 48 x20 0 fun x21=>
   p.load h 3 x21 fun x22=>
   p.bin .eql 3 false true x22 (.int .i64 4) fun x23=>
   p.call 84 [x23] h fun x24 h25=>
   p.store h25 48 v4 x24 fun h26=>
   p.load h26 48 v4 fun x27=>
   Q x27 h26)
   (fun _=>
   p.bin .eql 9 false true v20 (.str [67,79,76,83]) fun x28=>
   p.cond x28
   (fun _=>
    p.iaddr 131 v1 (.int .i64 0) fun x29=>
    p.faddr 133 x29 1 fun x30=>
    p.load h 3 x30 fun x31=>
    p.call 35 [x31] h fun x32 h33=>
    p.store h33 48 v4 x32 fun h34=>
    p.load h34 48 v4 fun x35=>
    Q x35 h34)
   (fun _=>
    p.bin .eql 9 false true v20 (.str [82,79,87,83]) fun x36=>
    p.cond x36
    (fun _=>
    p.iaddr 131 v1 (.int .i64 0) fun x37=>
    p.faddr 133 x37 2 fun x38=>
    p.load h 39 x38 fun x39=>
    p.lbui h #[39] .len [x39] fun x40=>
    p.iaddr 131 v1 (.int .i64 0) fun x41=>
    p.faddr 133 x41 1 fun x42=>
    p.load h 3 x42 fun x43=>
    p.lbui h #[3,3] .max [(.int .i64 1),x43] fun x44=>
    p.bin .quo 3 false false x40 x44 fun x45=>
    p.call 35 [x45] h fun x46 h47=>
    p.store h47 48 v4 x46 fun h48=>
    p.load h48 48 v4 fun x49=>
    Q x49 h48)
    (fun _=>
    p.call 133 [v1] h fun x50 h51=>
    p.alloc h51 48 fun x52 h53 b54=>
    p.store h53 48 x52 x50 fun h55=>
    p.faddr 48 x52 0 fun x56=>
    p.load h55 3 x56 fun x57=>
    p.bin .eql 3 false true x57 (.int .i64 4) fun x58=>
    p.cond x58
    (fun _=>
     p.load h55 48 x52 fun x59=>
     p.store h55 48 v4 x59 fun h60=>
     p.load h60 48 v4 fun x61=>
     Q x61 h60)
    (fun _=>
     p.bin .eql 9 false true v0 (.str [77,79,68]) fun x62=>
     p.cond x62
     (fun _=>
     p.call 134 [v1] h55 fun x63 h64=>
     p.store h64 48 v4 x63 fun h65=>
     p.load h65 48 v4 fun x66=>
     Q x66 h65)
     (fun _=>
     p.bin .eql 9 false true v0 (.str [76,69,70,84]) fun x67=>
     p.cond x67
     (fun _=>
      l 3 [v0,v1,v4,x67] h55)
     (fun _=>
      p.bin .eql 9 false true v0 (.str [82,73,71,72,84]) fun x68=>
      p.cond x68
      (fun _=>
      l 3 [v0,v1,v4,x68] h55)
      (fun _=>
      p.bin .eql 9 false true v0 (.str [77,73,68]) fun x69=>
      l 3 [v0,v1,v4,x69] h55))))))))))
theorem q_r7_Call_2 (p:Pr) (l:LL) (Q:QQ) (s:List V) (h:Hp):zla p l Q (nth s 0) (nth s 1) (nth s 4) (nth s 20) (nth s 32) h=zdD.K p EE l Q [true,true,true,true,false,true,false,true,true,true,true,true] (nths s 105 0) h:=by kernel_rfl
theorem r_r7_Call_2 {Q:QQ} {v0 v1 v4 v20 v32:V} {h:Hp} (H:zla (Pu EE) (zdD.L EE Q) Q v0 v1 v4 v20 v32 h):L_r7_Call_2 Q v0 v1 v4 v20 v32 h:=
 labR (path:=[true,true,true,true,false,true,false,true,true,true,true,true]) rfl rfl fun s e=>by cases e; exact cast (q_r7_Call_2 _ _ _ s h) H
noncomputable def c_r7_fits:Code:=match Tryz.f127.body with | some c=>c | none=>.skip
noncomputable def zbW:Fl:=⟨Tryz.f127,c_r7_fits,[([false,true,false,true,true,true],[1,6,7,8,9]),([true,false,true,false,true,true],[1,6,7,8,10,11]),([true,true,true,true,true,false,true,false,true,true],[1,6,7,8,10,23]),([true,true,true,true,true,true,true,true,true,false,true,false,true,true],[1,6,7,8,10,29]),([true,true,true,true,true,true,true,true,true,true,true,false,true,false,true,true],[1,34]),([true,true,true],[1,6,7,8])]⟩
abbrev zkY (Q:QQ) (v1 v6 v7 v8 v9:V) (h:Hp):Prop:=zbW.L EE Q 1 [v1,v6,v7,v8,v9] h
abbrev L_r7_fits_2 (Q:QQ) (v1 v6 v7 v8 v10 v11:V) (h:Hp):Prop:=zbW.L EE Q 2 [v1,v6,v7,v8,v10,v11] h
abbrev L_r7_fits_6 (Q:QQ) (v1 v6 v7 v8:V) (h:Hp):Prop:=zbW.L EE Q 6 [v1,v6,v7,v8] h
noncomputable def zit (p:Pr) (l:LL) (Q:QQ) (v0 v1:V) (h:Hp):Prop:=
 p.bin .eql 9 false true v0 (.str [83,85,77]) fun x1=>
 p.cond x1
 (fun _=>
  l 2 [v1,(.int .i64 1),(.int .i64 1),(.bool false),v0,x1] h)
 (fun _=>
  p.bin .eql 9 false true v0 (.str [77,73,78]) fun x2=>
  p.cond x2
  (fun _=>
  l 2 [v1,(.int .i64 1),(.int .i64 1),(.bool false),v0,x2] h)
  (fun _=>
  p.bin .eql 9 false true v0 (.str [77,65,88]) fun x3=>
  p.cond x3
  (fun _=>
   l 2 [v1,(.int .i64 1),(.int .i64 1),(.bool false),v0,x3] h)
  (fun _=>
   p.bin .eql 9 false true v0 (.str [67,79,85,78,84]) fun x4=>
   p.cond x4
   (fun _=>
   l 2 [v1,(.int .i64 1),(.int .i64 1),(.bool false),v0,x4] h)
   (fun _=>
   p.bin .eql 9 false true v0 (.str [65,78,68]) fun x5=>
   p.cond x5
   (fun _=>
    l 2 [v1,(.int .i64 1),(.int .i64 1),(.bool false),v0,x5] h)
   (fun _=>
    p.bin .eql 9 false true v0 (.str [79,82]) fun x6=>
    p.cond x6
    (fun _=>
    l 2 [v1,(.int .i64 1),(.int .i64 1),(.bool false),v0,x6] h)
    (fun _=>
    p.bin .eql 9 false true v0 (.str [67,79,78,67,65,84]) fun x7=>
    l 2 [v1,(.int .i64 1),(.int .i64 1),(.bool false),v0,x7] h))))))
theorem q_r7_fits_0 (p:Pr) (l:LL) (Q:QQ) (v0 v1:V) (h:Hp):zit p l Q v0 v1 h=zbW.K p EE l Q [] ([v0,v1]++List.replicate 69 zj) h:=by kernel_rfl
theorem a_r7_fits {Q:QQ} {v0 v1:V} {h:Hp} (H:zit (Pu EE) (zbW.L EE Q) Q v0 v1 h):Ans EE 127 [v0,v1] h Q:=
 ansL (F:=zbW) (by kernel_rfl) (by kernel_rfl) (by kernel_rfl) (by kernel_rfl) (cast (q_r7_fits_0 _ _ _ v0 v1 h) H)
noncomputable def zhT (p:Pr) (l:LL) (Q:QQ) (v1 v6 v7 v8 v9:V) (h:Hp):Prop:=
 p.lbui h #[131] .len [v1] fun x1=>
 p.bin .lss 3 false false v9 x1 fun x2=>
 p.cond x2
 (fun _=>
  p.iaddr 131 v1 v9 fun x3=>
  p.faddr 133 x3 0 fun x4=>
  p.load h 4 x4 fun x5=>
  p.gval x5 true (fun k6=>
  k6 v8) fun x7=>
  p.gval x5 true (fun k8=>
  p.un .not x7 fun x9=>
  k8 x9) fun x10=>
  p.pick x5 (some x10) (some (.bool false)) fun x11=>
  p.cond x11
  (fun _=>
  Q (.tup [(.bool true),(.bool false)]) h)
  (fun _=>
  p.bin .add 3 false true v9 (.int .i64 1) fun x12=>
  l 1 [v1,v6,v7,v8,x12] h))
 (fun _=>
  p.lbui h #[131] .len [v1] fun x13=>
  p.bin .geq 3 false false x13 v6 fun x14=>
  p.gval x14 true (fun k15=>
  k15 v1) fun x16=>
  p.gval x14 true (fun k17=>
  p.lbui h #[131] .len [x16] fun x18=>
  k17 x18) fun x19=>
  p.gval x14 true (fun k20=>
  k20 v7) fun x21=>
  p.gval x14 true (fun k22=>
  p.bin .leq 3 false false x19 x21 fun x23=>
  k22 x23) fun x24=>
  p.pick x14 (some x24) (some (.bool false)) fun x25=>
  Q (.tup [(.bool true),x25]) h)
theorem q_r7_fits_1 (p:Pr) (l:LL) (Q:QQ) (s:List V) (h:Hp):zhT p l Q (nth s 1) (nth s 6) (nth s 7) (nth s 8) (nth s 9) h=zbW.K p EE l Q [true,true,true,false,true,false] (nths s 71 0) h:=by kernel_rfl
theorem r_r7_fits_1 {Q:QQ} {v1 v6 v7 v8 v9:V} {h:Hp} (H:zhT (Pu EE) (zbW.L EE Q) Q v1 v6 v7 v8 v9 h):zkY Q v1 v6 v7 v8 v9 h:=
 labR (path:=[true,true,true,false,true,false]) rfl rfl fun s e=>by cases e; exact cast (q_r7_fits_1 _ _ _ s h) H
noncomputable def zhM (p:Pr) (l:LL) (Q:QQ) (v1 v6 v7 v8 v10 v11:V) (h:Hp):Prop:=
 p.cond v11
 (fun _=>
  p.lbui h #[131] .len [v1] fun x1=>
  l 6 [v1,v6,x1,(.bool true)] h)
 (fun _=>
  p.bin .eql 9 false true v10 (.str [73,70]) fun x2=>
  p.cond x2
  (fun _=>
  l 6 [v1,(.int .i64 2),(.int .i64 3),v8] h)
  (fun _=>
  p.bin .eql 9 false true v10 (.str [77,79,68]) fun x3=>
  p.cond x3
  (fun _=>
   l 3 [v1,v6,v7,v8,v10,x3] h)
  (fun _=>
   p.bin .eql 9 false true v10 (.str [76,69,70,84]) fun x4=>
   p.cond x4
   (fun _=>
   l 3 [v1,v6,v7,v8,v10,x4] h)
   (fun _=>
   p.bin .eql 9 false true v10 (.str [82,73,71,72,84]) fun x5=>
   l 3 [v1,v6,v7,v8,v10,x5] h))))
theorem q_r7_fits_2 (p:Pr) (l:LL) (Q:QQ) (s:List V) (h:Hp):zhM p l Q (nth s 1) (nth s 6) (nth s 7) (nth s 8) (nth s 10) (nth s 11) h=zbW.K p EE l Q [true,true,false,true,false,true] (nths s 71 0) h:=by kernel_rfl
theorem r_r7_fits_2 {Q:QQ} {v1 v6 v7 v8 v10 v11:V} {h:Hp} (H:zhM (Pu EE) (zbW.L EE Q) Q v1 v6 v7 v8 v10 v11 h):L_r7_fits_2 Q v1 v6 v7 v8 v10 v11 h:=
 labR (path:=[true,true,false,true,false,true]) rfl rfl fun s e=>by cases e; exact cast (q_r7_fits_2 _ _ _ s h) H
noncomputable def zhO (p:Pr) (l:LL) (Q:QQ) (v1 v6 v7 v8:V) (h:Hp):Prop:=
 l 1 [v1,v6,v7,v8,(.int .i64 0)] h
theorem q_r7_fits_6 (p:Pr) (l:LL) (Q:QQ) (s:List V) (h:Hp):zhO p l Q (nth s 1) (nth s 6) (nth s 7) (nth s 8) h=zbW.K p EE l Q [true,true,true] (nths s 71 0) h:=by kernel_rfl
theorem r_r7_fits_6 {Q:QQ} {v1 v6 v7 v8:V} {h:Hp} (H:zhO (Pu EE) (zbW.L EE Q) Q v1 v6 v7 v8 h):L_r7_fits_6 Q v1 v6 v7 v8 h:=
 labR (path:=[true,true,true]) rfl rfl fun s e=>by cases e; exact cast (q_r7_fits_6 _ _ _ s h) H
noncomputable def c_r7_many:Code:=match Tryz.f128.body with | some c=>c | none=>.skip
noncomputable def zhn:Fl:=⟨Tryz.f128,c_r7_many,[([false,true,false,true,true,true,true,true],[0,4,6,8,9])]⟩
abbrev L_r7_many_1 (Q:QQ) (v0 v4 v6 v8 v9:V) (h:Hp):Prop:=zhn.L EE Q 1 [v0,v4,v6,v8,v9] h
noncomputable def zk9 (p:Pr) (l:LL) (Q:QQ) (v0 v1:V) (h:Hp):Prop:=
 p.alloc h 48 fun x1 h2 b3=>
 p.call 133 [v1] h2 fun x4 h5=>
 p.alloc h5 48 fun x6 h7 b8=>
 p.store h7 48 x6 x4 fun h9=>
 p.faddr 48 x6 0 fun x10=>
 p.load h9 3 x10 fun x11=>
 p.bin .eql 3 false true x11 (.int .i64 4) fun x12=>
 p.cond x12
 (fun _=>
  p.load h9 48 x6 fun x13=>
  p.store h9 48 x1 x13 fun h14=>
  p.load h14 48 x1 fun x15=>
  Q x15 h14)
 (fun _=>
  p.call 192 [v1] h9 fun x16 h17=>
  p.extr x16 0 fun x18=>
  p.extr x16 1 fun x19=>
  p.un .not x19 fun x20=>
  p.cond x20
  (fun _=>
  p.call 23 [(.int .i64 1)] h17 fun x21 h22=>
  p.store h22 48 x1 x21 fun h23=>
  p.load h23 48 x1 fun x24=>
  Q x24 h23)
  (fun _=>
  l 1 [v0,x1,x18,(.int .i64 0),(.int .i64 0)] h17))
theorem q_r7_many_0 (p:Pr) (l:LL) (Q:QQ) (v0 v1:V) (h:Hp):zk9 p l Q v0 v1 h=zhn.K p EE l Q [] ([v0,v1]++List.replicate 79 zj) h:=by kernel_rfl
theorem a_r7_many {Q:QQ} {v0 v1:V} {h:Hp} (H:zk9 (Pu EE) (zhn.L EE Q) Q v0 v1 h):Ans EE 128 [v0,v1] h Q:=
 ansL (F:=zhn) (by kernel_rfl) (by kernel_rfl) (by kernel_rfl) (by kernel_rfl) (cast (q_r7_many_0 _ _ _ v0 v1 h) H)
noncomputable def zik (p:Pr) (l:LL) (Q:QQ) (v0 v4 v6 v8 v9:V) (h:Hp):Prop:=
 p.lbui h #[86] .len [v6] fun x1=>
 p.bin .lss 3 false false v9 x1 fun x2=>
 p.cond x2
 (fun _=>
  p.bin .eql 9 false true v0 (.str [83,85,77]) fun x3=>
  p.cond x3
  (fun _=>
  p.iaddr 86 v6 v9 fun x4=>
  p.load h 3 x4 fun x5=>
  p.call 63 [v8,x5] h fun x6 h7=>
  p.extr x6 0 fun x8=>
  p.extr x6 1 fun x9=>
  p.un .not x9 fun x10=>
  p.cond x10
  (fun _=>
   p.call 23 [(.int .i64 2)] h7 fun x11 h12=>
   p.store h12 48 v4 x11 fun h13=>
   p.load h13 48 v4 fun x14=>
   Q x14 h13)
  (fun _=>
   p.bin .add 3 false true v9 (.int .i64 1) fun x15=>
   l 1 [v0,v4,v6,x8,x15] h7))
  (fun _=>
  p.bin .eql 3 false true v9 (.int .i64 0) fun x16=>
  p.gval x16 false (fun k17=>
   k17 v0) fun x18=>
  p.gval x16 false (fun k19=>
   p.bin .eql 9 false true x18 (.str [77,73,78]) fun x20=>
   k19 x20) fun x21=>
  p.gval x16 false (fun k22=>
   k22 x21) fun x23=>
  p.gval x23 true (fun k24=>
   k24 v6) fun x25=>
  p.gval x23 true (fun k26=>
   k26 v9) fun x27=>
  p.gval x23 true (fun k28=>
   p.iaddr 86 x25 x27 fun x29=>
   k28 x29) fun x30=>
  p.gval x23 true (fun k31=>
   p.load h 3 x30 fun x32=>
   k31 x32) fun x33=>
  p.gval x23 true (fun k34=>
   k34 v8) fun x35=>
  p.gval x23 true (fun k36=>
   p.bin .lss 3 false false x33 x35 fun x37=>
   k36 x37) fun x38=>
  p.gval x16 false (fun k39=>
   p.pick x23 (some x38) (some (.bool false)) fun x40=>
   k39 x40) fun x41=>
  p.pick x16 (some (.bool true)) (some x41) fun x42=>
  p.gval x42 false (fun k43=>
   k43 v0) fun x44=>
  p.gval x42 false (fun k45=>
   p.bin .eql 9 false true x44 (.str [77,65,88]) fun x46=>
   k45 x46) fun x47=>
  p.gval x42 false (fun k48=>
   k48 x47) fun x49=>
  p.gval x49 true (fun k50=>
   k50 v6) fun x51=>
  p.gval x49 true (fun k52=>
   k52 v9) fun x53=>
  p.gval x49 true (fun k54=>
   p.iaddr 86 x51 x53 fun x55=>
   k54 x55) fun x56=>
  p.gval x49 true (fun k57=>
   p.load h 3 x56 fun x58=>
   k57 x58) fun x59=>
  p.gval x49 true (fun k60=>
   k60 v8) fun x61=>
  p.gval x49 true (fun k62=>
   p.bin .gtr 3 false false x59 x61 fun x63=>
   k62 x63) fun x64=>
  p.gval x42 false (fun k65=>
   p.pick x49 (some x64) (some (.bool false)) fun x66=>
   k65 x66) fun x67=>
  p.pick x42 (some (.bool true)) (some x67) fun x68=>
  p.cond x68
  (fun _=>
   p.iaddr 86 v6 v9 fun x69=>
   p.load h 3 x69 fun x70=>
   p.bin .add 3 false true v9 (.int .i64 1) fun x71=>
   l 1 [v0,v4,v6,x70,x71] h)
  (fun _=>
   p.bin .add 3 false true v9 (.int .i64 1) fun x72=>
   l 1 [v0,v4,v6,v8,x72] h)))
 (fun _=>
  p.call 35 [v8] h fun x73 h74=>
  p.store h74 48 v4 x73 fun h75=>
  p.load h75 48 v4 fun x76=>
  Q x76 h75)
theorem q_r7_many_1 (p:Pr) (l:LL) (Q:QQ) (s:List V) (h:Hp):zik p l Q (nth s 0) (nth s 4) (nth s 6) (nth s 8) (nth s 9) h=zhn.K p EE l Q [true,true,true,true,true,false,true,false] (nths s 81 0) h:=by kernel_rfl
theorem r_r7_many_1 {Q:QQ} {v0 v4 v6 v8 v9:V} {h:Hp} (H:zik (Pu EE) (zhn.L EE Q) Q v0 v4 v6 v8 v9 h):L_r7_many_1 Q v0 v4 v6 v8 v9 h:=
 labR (path:=[true,true,true,true,true,false,true,false]) rfl rfl fun s e=>by cases e; exact cast (q_r7_many_1 _ _ _ s h) H
noncomputable def c_r7_first:Code:=match Tryz.f133.body with | some c=>c | none=>.skip
noncomputable def zco:Fl:=⟨Tryz.f133,c_r7_first,[([false,true,false,true],[0,2,3]),([false,true,false,false,true,false,false,true,false,true],[0,2,3,4])]⟩
abbrev L_r7_first_1 (Q:QQ) (v0 v2 v3:V) (h:Hp):Prop:=zco.L EE Q 1 [v0,v2,v3] h
abbrev L_r7_first_2 (Q:QQ) (v0 v2 v3 v4:V) (h:Hp):Prop:=zco.L EE Q 2 [v0,v2,v3,v4] h
noncomputable def zju (p:Pr) (l:LL) (Q:QQ) (v0:V) (h:Hp):Prop:=
 p.alloc h 48 fun x1 h2 b3=>
 l 1 [v0,x1,(.int .i64 0)] h2
theorem q_r7_first_0 (p:Pr) (l:LL) (Q:QQ) (v0:V) (h:Hp):zju p l Q v0 h=zco.K p EE l Q [] ([v0]++List.replicate 39 zj) h:=by kernel_rfl
theorem a_r7_first {Q:QQ} {v0:V} {h:Hp} (H:zju (Pu EE) (zco.L EE Q) Q v0 h):Ans EE 133 [v0] h Q:=
 ansL (F:=zco) (by kernel_rfl) (by kernel_rfl) (by kernel_rfl) (by kernel_rfl) (cast (q_r7_first_0 _ _ _ v0 h) H)
noncomputable def zgz (p:Pr) (l:LL) (Q:QQ) (v0 v2 v3:V) (h:Hp):Prop:=
 p.lbui h #[131] .len [v0] fun x1=>
 p.bin .lss 3 false false v3 x1 fun x2=>
 p.cond x2
 (fun _=>
  l 2 [v0,v2,v3,(.int .i64 0)] h)
 (fun _=>
  p.build 48 [] fun x3=>
  p.store h 48 v2 x3 fun h4=>
  p.load h4 48 v2 fun x5=>
  Q x5 h4)
theorem q_r7_first_1 (p:Pr) (l:LL) (Q:QQ) (s:List V) (h:Hp):zgz p l Q (nth s 0) (nth s 2) (nth s 3) h=zco.K p EE l Q [true,false,true,false] (nths s 40 0) h:=by kernel_rfl
theorem r_r7_first_1 {Q:QQ} {v0 v2 v3:V} {h:Hp} (H:zgz (Pu EE) (zco.L EE Q) Q v0 v2 v3 h):L_r7_first_1 Q v0 v2 v3 h:=
 labR (path:=[true,false,true,false]) rfl rfl fun s e=>by cases e; exact cast (q_r7_first_1 _ _ _ s h) H
noncomputable def zgM (p:Pr) (l:LL) (Q:QQ) (v0 v2 v3 v4:V) (h:Hp):Prop:=
 p.iaddr 131 v0 v3 fun x1=>
 p.faddr 133 x1 2 fun x2=>
 p.load h 39 x2 fun x3=>
 p.lbui h #[39] .len [x3] fun x4=>
 p.bin .lss 3 false false v4 x4 fun x5=>
 p.cond x5
 (fun _=>
  p.iaddr 131 v0 v3 fun x6=>
  p.faddr 133 x6 2 fun x7=>
  p.load h 39 x7 fun x8=>
  p.iaddr 39 x8 v4 fun x9=>
  p.faddr 48 x9 0 fun x10=>
  p.load h 3 x10 fun x11=>
  p.bin .eql 3 false true x11 (.int .i64 4) fun x12=>
  p.cond x12
  (fun _=>
  p.iaddr 131 v0 v3 fun x13=>
  p.faddr 133 x13 2 fun x14=>
  p.load h 39 x14 fun x15=>
  p.iaddr 39 x15 v4 fun x16=>
  p.load h 48 x16 fun x17=>
  p.store h 48 v2 x17 fun h18=>
  p.load h18 48 v2 fun x19=>
  Q x19 h18)
  (fun _=>
  p.bin .add 3 false true v4 (.int .i64 1) fun x20=>
  l 2 [v0,v2,v3,x20] h))
 (fun _=>
  p.bin .add 3 false true v3 (.int .i64 1) fun x21=>
  l 1 [v0,v2,x21] h)
theorem q_r7_first_2 (p:Pr) (l:LL) (Q:QQ) (s:List V) (h:Hp):zgM p l Q (nth s 0) (nth s 2) (nth s 3) (nth s 4) h=zco.K p EE l Q [true,false,true,false,false,true,false,false,true,false] (nths s 40 0) h:=by kernel_rfl
theorem r_r7_first_2 {Q:QQ} {v0 v2 v3 v4:V} {h:Hp} (H:zgM (Pu EE) (zco.L EE Q) Q v0 v2 v3 v4 h):L_r7_first_2 Q v0 v2 v3 v4 h:=
 labR (path:=[true,false,true,false,false,true,false,false,true,false]) rfl rfl fun s e=>by cases e; exact cast (q_r7_first_2 _ _ _ s h) H
noncomputable def c_r7_numbers:Code:=match Tryz.f192.body with | some c=>c | none=>.skip
noncomputable def zaY:Fl:=⟨Tryz.f192,c_r7_numbers,[([false,true,false,true,true],[0,4,5]),([false,true,false,false,true,false,false,true,false,true,true],[0,4,5,6]),([true,true,false,false,true,false,false,true,false,false,true,false,false,true,false,true,true],[0,4,5,6,7])]⟩
abbrev zkS (Q:QQ) (v0 v4 v5:V) (h:Hp):Prop:=zaY.L EE Q 1 [v0,v4,v5] h
abbrev zhj (Q:QQ) (v0 v4 v5 v6:V) (h:Hp):Prop:=zaY.L EE Q 2 [v0,v4,v5,v6] h
abbrev zkw (Q:QQ) (v0 v4 v5 v6 v7:V) (h:Hp):Prop:=zaY.L EE Q 3 [v0,v4,v5,v6,v7] h
noncomputable def zhi (p:Pr) (l:LL) (Q:QQ) (v0:V) (h:Hp):Prop:=
 l 1 [v0,.nils,(.int .i64 0)] h
theorem q_r7_numbers_0 (p:Pr) (l:LL) (Q:QQ) (v0:V) (h:Hp):zhi p l Q v0 h=zaY.K p EE l Q [] ([v0]++List.replicate 56 zj) h:=by kernel_rfl
theorem a_r7_numbers {Q:QQ} {v0:V} {h:Hp} (H:zhi (Pu EE) (zaY.L EE Q) Q v0 h):Ans EE 192 [v0] h Q:=
 ansL (F:=zaY) (by kernel_rfl) (by kernel_rfl) (by kernel_rfl) (by kernel_rfl) (cast (q_r7_numbers_0 _ _ _ v0 h) H)
noncomputable def zeZ (p:Pr) (l:LL) (Q:QQ) (v0 v4 v5:V) (h:Hp):Prop:=
 p.lbui h #[131] .len [v0] fun x1=>
 p.bin .lss 3 false false v5 x1 fun x2=>
 p.cond x2
 (fun _=>
  l 2 [v0,v4,v5,(.int .i64 0)] h)
 (fun _=>
  Q (.tup [v4,(.bool true)]) h)
theorem q_r7_numbers_1 (p:Pr) (l:LL) (Q:QQ) (s:List V) (h:Hp):zeZ p l Q (nth s 0) (nth s 4) (nth s 5) h=zaY.K p EE l Q [true,true,false,true,false] (nths s 57 0) h:=by kernel_rfl
theorem zkt {Q:QQ} {v0 v4 v5:V} {h:Hp} (H:zeZ (Pu EE) (zaY.L EE Q) Q v0 v4 v5 h):zkS Q v0 v4 v5 h:=
 labR (path:=[true,true,false,true,false]) rfl rfl fun s e=>by cases e; exact cast (q_r7_numbers_1 _ _ _ s h) H
noncomputable def zeP (p:Pr) (l:LL) (Q:QQ) (v0 v4 v5 v6:V) (h:Hp):Prop:=
 p.iaddr 131 v0 v5 fun x1=>
 p.faddr 133 x1 2 fun x2=>
 p.load h 39 x2 fun x3=>
 p.lbui h #[39] .len [x3] fun x4=>
 p.bin .lss 3 false false v6 x4 fun x5=>
 p.cond x5
 (fun _=>
  p.iaddr 131 v0 v5 fun x6=>
  p.faddr 133 x6 2 fun x7=>
  p.load h 39 x7 fun x8=>
  p.iaddr 39 x8 v6 fun x9=>
  p.load h 48 x9 fun x10=>
  p.alloc h 48 fun x11 h12 b13=>
  p.store h12 48 x11 x10 fun h14=>
  p.faddr 48 x11 0 fun x15=>
  p.load h14 3 x15 fun x16=>
  p.bin .eql 3 false true x16 (.int .i64 1) fun x17=>
  p.cond x17
  (fun _=>
  p.faddr 48 x11 1 fun x18=>
  p.load h14 3 x18 fun x19=>
  p.bsl h14 86 1 [(0,x19)] fun x20 h21 b22=>
  p.ebui h21 #[86,86] .append [v4,x20] fun x23 h24=>
  l 3 [v0,x23,v5,v6,x11] h24)
  (fun _=>
  l 3 [v0,v4,v5,v6,x11] h14))
 (fun _=>
  p.bin .add 3 false true v5 (.int .i64 1) fun x25=>
  l 1 [v0,v4,x25] h)
theorem q_r7_numbers_2 (p:Pr) (l:LL) (Q:QQ) (s:List V) (h:Hp):zeP p l Q (nth s 0) (nth s 4) (nth s 5) (nth s 6) h=zaY.K p EE l Q [true,true,false,true,false,false,true,false,false,true,false] (nths s 57 0) h:=by kernel_rfl
theorem zkG {Q:QQ} {v0 v4 v5 v6:V} {h:Hp} (H:zeP (Pu EE) (zaY.L EE Q) Q v0 v4 v5 v6 h):zhj Q v0 v4 v5 v6 h:=
 labR (path:=[true,true,false,true,false,false,true,false,false,true,false]) rfl rfl fun s e=>by cases e; exact cast (q_r7_numbers_2 _ _ _ s h) H
noncomputable def zgW (p:Pr) (l:LL) (Q:QQ) (v0 v4 v5 v6 v7:V) (h:Hp):Prop:=
 p.iaddr 131 v0 v5 fun x1=>
 p.faddr 133 x1 0 fun x2=>
 p.load h 4 x2 fun x3=>
 p.un .not x3 fun x4=>
 p.gval x4 true (fun k5=>
  p.faddr 48 v7 0 fun x6=>
  k5 x6) fun x7=>
 p.gval x4 true (fun k8=>
  p.load h 3 x7 fun x9=>
  k8 x9) fun x10=>
 p.gval x4 true (fun k11=>
  p.bin .eql 3 false true x10 (.int .i64 2) fun x12=>
  k11 x12) fun x13=>
 p.gval x4 true (fun k14=>
  k14 x13) fun x15=>
 p.gval x15 false (fun k16=>
  p.faddr 48 v7 0 fun x17=>
  k16 x17) fun x18=>
 p.gval x15 false (fun k19=>
  p.load h 3 x18 fun x20=>
  k19 x20) fun x21=>
 p.gval x15 false (fun k22=>
  p.bin .eql 3 false true x21 (.int .i64 3) fun x23=>
  k22 x23) fun x24=>
 p.gval x4 true (fun k25=>
  p.pick x15 (some (.bool true)) (some x24) fun x26=>
  k25 x26) fun x27=>
 p.pick x4 (some x27) (some (.bool false)) fun x28=>
 p.cond x28
 (fun _=>
  Q (.tup [.nils,(.bool false)]) h)
 (fun _=>
  p.bin .add 3 false true v6 (.int .i64 1) fun x29=>
  l 2 [v0,v4,v5,x29] h)
theorem q_r7_numbers_3 (p:Pr) (l:LL) (Q:QQ) (s:List V) (h:Hp):zgW p l Q (nth s 0) (nth s 4) (nth s 5) (nth s 6) (nth s 7) h=zaY.K p EE l Q [true,true,false,true,false,false,true,false,false,true,false,false,true,false,false,true,true] (nths s 57 0) h:=by kernel_rfl
theorem r_r7_numbers_3 {Q:QQ} {v0 v4 v5 v6 v7:V} {h:Hp} (H:zgW (Pu EE) (zaY.L EE Q) Q v0 v4 v5 v6 v7 h):zkw Q v0 v4 v5 v6 v7 h:=
 labR (path:=[true,true,false,true,false,false,true,false,false,true,false,false,true,false,false,true,true]) rfl rfl fun s e=>by cases e; exact cast (q_r7_numbers_3 _ _ _ s h) H
noncomputable def c_r7_choose:Code:=match Tryz.f131.body with | some c=>c | none=>.skip
noncomputable def zk3:Fl:=⟨Tryz.f131,c_r7_choose,[]⟩
noncomputable def zij (p:Pr) (l:LL) (Q:QQ) (v0:V) (h:Hp):Prop:=
 p.alloc h 48 fun x1 h2 b3=>
 p.iaddr 131 v0 (.int .i64 0) fun x4=>
 p.faddr 133 x4 2 fun x5=>
 p.load h2 39 x5 fun x6=>
 p.iaddr 39 x6 (.int .i64 0) fun x7=>
 p.load h2 48 x7 fun x8=>
 p.alloc h2 48 fun x9 h10 b11=>
 p.store h10 48 x9 x8 fun h12=>
 p.faddr 48 x9 0 fun x13=>
 p.load h12 3 x13 fun x14=>
 p.bin .eql 3 false true x14 (.int .i64 4) fun x15=>
 p.cond x15
 (fun _=>
  p.load h12 48 x9 fun x16=>
  p.store h12 48 x1 x16 fun h17=>
  p.load h17 48 x1 fun x18=>
  Q x18 h17)
 (fun _=>
  p.load h12 48 x9 fun x19=>
  p.call 193 [x19] h12 fun x20 h21=>
  p.extr x20 0 fun x22=>
  p.extr x20 1 fun x23=>
  p.un .not x23 fun x24=>
  p.cond x24
  (fun _=>
  p.call 23 [(.int .i64 1)] h21 fun x25 h26=>
  p.store h26 48 x1 x25 fun h27=>
  p.load h27 48 x1 fun x28=>
  Q x28 h27)
  (fun _=>
  p.cond x22
  (fun _=>
   p.iaddr 131 v0 (.int .i64 1) fun x29=>
   p.faddr 133 x29 2 fun x30=>
   p.load h21 39 x30 fun x31=>
   p.iaddr 39 x31 (.int .i64 0) fun x32=>
   p.load h21 48 x32 fun x33=>
   p.store h21 48 x1 x33 fun h34=>
   p.load h34 48 x1 fun x35=>
   Q x35 h34)
  (fun _=>
   p.lbui h21 #[131] .len [v0] fun x36=>
   p.bin .eql 3 false true x36 (.int .i64 3) fun x37=>
   p.cond x37
   (fun _=>
   p.iaddr 131 v0 (.int .i64 2) fun x38=>
   p.faddr 133 x38 2 fun x39=>
   p.load h21 39 x39 fun x40=>
   p.iaddr 39 x40 (.int .i64 0) fun x41=>
   p.load h21 48 x41 fun x42=>
   p.store h21 48 x1 x42 fun h43=>
   p.load h43 48 x1 fun x44=>
   Q x44 h43)
   (fun _=>
   p.call 84 [(.bool false)] h21 fun x45 h46=>
   p.store h46 48 x1 x45 fun h47=>
   p.load h47 48 x1 fun x48=>
   Q x48 h47))))
theorem q_r7_choose_0 (p:Pr) (l:LL) (Q:QQ) (v0:V) (h:Hp):zij p l Q v0 h=zk3.K p EE l Q [] ([v0]++List.replicate 43 zj) h:=by kernel_rfl
theorem a_r7_choose {Q:QQ} {v0:V} {h:Hp} (H:zij (Pu EE) (zk3.L EE Q) Q v0 h):Ans EE 131 [v0] h Q:=
 ansL (F:=zk3) (by kernel_rfl) (by kernel_rfl) (by kernel_rfl) (by kernel_rfl) (cast (q_r7_choose_0 _ _ _ v0 h) H)
noncomputable def c_r7_Two:Code:=match Tryz.f89.body with | some c=>c | none=>.skip
noncomputable def F_r7_Two:Fl:=⟨Tryz.f89,c_r7_Two,[]⟩
noncomputable def t_r7_Two_0 (p:Pr) (l:LL) (Q:QQ) (v0 v1 v2:V) (h:Hp):Prop:=
 p.box h 48 v1 fun x1 h2 b3=>
 p.box h2 48 v2 fun x4 h5 b6=>
 p.alloc h5 48 fun x7 h8 b9=>
 p.faddr 48 x1 0 fun x10=>
 p.load h8 3 x10 fun x11=>
 p.bin .eql 3 false true x11 (.int .i64 4) fun x12=>
 p.cond x12
 (fun _=>
  p.load h8 48 x1 fun x13=>
  p.store h8 48 x7 x13 fun h14=>
  p.load h14 48 x7 fun x15=>
  Q x15 h14)
 (fun _=>
  p.faddr 48 x4 0 fun x16=>
  p.load h8 3 x16 fun x17=>
  p.bin .eql 3 false true x17 (.int .i64 4) fun x18=>
  p.cond x18
  (fun _=>
  p.load h8 48 x4 fun x19=>
  p.store h8 48 x7 x19 fun h20=>
  p.load h20 48 x7 fun x21=>
  Q x21 h20)
  (fun _=>
  p.bin .eql 3 false true v0 (.int .i64 15) fun x22=>
  p.cond x22
  (fun _=>
   p.load h8 48 x1 fun x23=>
   p.load h8 48 x4 fun x24=>
   p.call 138 [x23] h8 fun x25 h26=>
   p.load h26 48 x4 fun x27=>
   p.same x27 x24 (
   p.call 138 [x24] h26 fun x28 h29=>
   p.bin .add 9 false false x25 x28 fun x30=>
   p.lbui h29 #[9] .len [x30] fun x31=>
   p.bin .gtr 3 false true x31 (.int .i64 200) fun x32=>
   p.cond x32
   (fun _=>
   p.call 23 [(.int .i64 1)] h29 fun x33 h34=>
   p.store h34 48 x7 x33 fun h35=>
   p.load h35 48 x7 fun x36=>
   Q x36 h35)
   (fun _=>
   p.build 48 [(0,(.int .i64 2)),(2,x30)] fun x37=>
   p.store h29 48 x7 x37 fun h38=>
   p.load h38 48 x7 fun x39=>
   Q x39 h38)))
  (fun _=>
   p.bin .geq 3 false true v0 (.int .i64 16) fun x40=>
   p.gval x40 true (fun k41=>
   k41 v0) fun x42=>
   p.gval x40 true (fun k43=>
   p.bin .leq 3 false true x42 (.int .i64 19) fun x44=>
   k43 x44) fun x45=>
   p.pick x40 (some x45) (some (.bool false)) fun x46=>
   p.cond x46
   (fun _=>
   p.load h8 48 x1 fun x47=>
   p.call 137 [x47] h8 fun x48 h49=>
   p.extr x48 0 fun x50=>
   p.extr x48 1 fun x51=>
   p.load h49 48 x4 fun x52=>
   p.call 137 [x52] h49 fun x53 h54=>
   p.extr x53 0 fun x55=>
   p.extr x53 1 fun x56=>
   p.un .not x51 fun x57=>
   p.gval x57 false (fun k58=>
    k58 x56) fun x59=>
   p.gval x57 false (fun k60=>
    p.un .not x59 fun x61=>
    k60 x61) fun x62=>
   p.pick x57 (some (.bool true)) (some x62) fun x63=>
   p.cond x63
   (fun _=>
    p.call 23 [(.int .i64 1)] h54 fun x64 h65=>
    p.store h65 48 x7 x64 fun h66=>
    p.load h66 48 x7 fun x67=>
    Q x67 h66)
   (fun _=>
    p.call 139 [v0,x50,x55] h54 fun x68 h69=>
    p.store h69 48 x7 x68 fun h70=>
    p.load h70 48 x7 fun x71=>
    Q x71 h70))
   (fun _=>
   p.load h8 48 x1 fun x72=>
   p.load h8 48 x4 fun x73=>
   p.call 140 [x72,x73] h8 fun x74 h75=>
   p.bin .eql 3 false true v0 (.int .i64 9) fun x76=>
   p.cond x76
   (fun _=>
    p.bin .eql 3 false true x74 (.int .i64 0) fun x77=>
    p.call 84 [x77] h75 fun x78 h79=>
    p.store h79 48 x7 x78 fun h80=>
    p.load h80 48 x7 fun x81=>
    Q x81 h80)
   (fun _=>
    p.bin .eql 3 false true v0 (.int .i64 10) fun x82=>
    p.cond x82
    (fun _=>
    p.bin .neq 3 false true x74 (.int .i64 0) fun x83=>
    p.call 84 [x83] h75 fun x84 h85=>
    p.store h85 48 x7 x84 fun h86=>
    p.load h86 48 x7 fun x87=>
    Q x87 h86)
    (fun _=>
    p.bin .eql 3 false true v0 (.int .i64 11) fun x88=>
    p.cond x88
    (fun _=>
     p.bin .lss 3 false true x74 (.int .i64 0) fun x89=>
     p.call 84 [x89] h75 fun x90 h91=>
     p.store h91 48 x7 x90 fun h92=>
     p.load h92 48 x7 fun x93=>
     Q x93 h92)
    (fun _=>
     p.bin .eql 3 false true v0 (.int .i64 12) fun x94=>
     p.cond x94
     (fun _=>
     p.bin .leq 3 false true x74 (.int .i64 0) fun x95=>
     p.call 84 [x95] h75 fun x96 h97=>
     p.store h97 48 x7 x96 fun h98=>
     p.load h98 48 x7 fun x99=>
     Q x99 h98)
     (fun _=>
     p.bin .eql 3 false true v0 (.int .i64 13) fun x100=>
     p.cond x100
     (fun _=>
      p.bin .gtr 3 false true x74 (.int .i64 0) fun x101=>
      p.call 84 [x101] h75 fun x102 h103=>
      p.store h103 48 x7 x102 fun h104=>
      p.load h104 48 x7 fun x105=>
      Q x105 h104)
     (fun _=>
      p.bin .eql 3 false true v0 (.int .i64 14) fun x106=>
      p.cond x106
      (fun _=>
      p.bin .geq 3 false true x74 (.int .i64 0) fun x107=>
      p.call 84 [x107] h75 fun x108 h109=>
      p.store h109 48 x7 x108 fun h110=>
      p.load h110 48 x7 fun x111=>
      Q x111 h110)
      (fun _=>
      p.call 23 [(.int .i64 1)] h75 fun x112 h113=>
      p.store h113 48 x7 x112 fun h114=>
      p.load h114 48 x7 fun x115=>
      Q x115 h114))))))))))
theorem q_r7_Two_0 (p:Pr) (l:LL) (Q:QQ) (v0 v1 v2:V) (h:Hp):t_r7_Two_0 p l Q v0 v1 v2 h=F_r7_Two.K p EE l Q [] ([v0,v1,v2]++List.replicate 97 zj) h:=by kernel_rfl
theorem a_r7_Two {Q:QQ} {v0 v1 v2:V} {h:Hp} (H:t_r7_Two_0 (Pu EE) (F_r7_Two.L EE Q) Q v0 v1 v2 h):Ans EE 89 [v0,v1,v2] h Q:=
 ansL (F:=F_r7_Two) (by kernel_rfl) (by kernel_rfl) (by kernel_rfl) (by kernel_rfl) (cast (q_r7_Two_0 _ _ _ v0 v1 v2 h) H)
noncomputable def c_r7_reckon:Code:=match Tryz.f139.body with | some c=>c | none=>.skip
noncomputable def zeq:Fl:=⟨Tryz.f139,c_r7_reckon,[([true,true,true],[6,7,8])]⟩
abbrev L_r7_reckon_1 (Q:QQ) (v6 v7 v8:V) (h:Hp):Prop:=zeq.L EE Q 1 [v6,v7,v8] h
noncomputable def zig (p:Pr) (l:LL) (Q:QQ) (v0 v1 v2:V) (h:Hp):Prop:=
 p.alloc h 48 fun x1 h2 b3=>
 p.bin .eql 3 false true v0 (.int .i64 16) fun x4=>
 p.cond x4
 (fun _=>
  p.call 63 [v1,v2] h2 fun x5 h6=>
  p.extr x5 0 fun x7=>
  p.extr x5 1 fun x8=>
  l 1 [x1,x7,x8] h6)
 (fun _=>
  p.bin .eql 3 false true v0 (.int .i64 17) fun x9=>
  p.cond x9
  (fun _=>
  p.bin .sub 3 false false v1 v2 fun x10=>
  p.bin .leq 3 false false x10 v1 fun x11=>
  p.bin .geq 3 false true v2 (.int .i64 0) fun x12=>
  p.bin .eql 4 false false x11 x12 fun x13=>
  l 1 [x1,x10,x13] h2)
  (fun _=>
  p.bin .eql 3 false true v0 (.int .i64 18) fun x14=>
  p.cond x14
  (fun _=>
   p.call 62 [v1,v2] h2 fun x15 h16=>
   p.extr x15 0 fun x17=>
   p.extr x15 1 fun x18=>
   l 1 [x1,x17,x18] h16)
  (fun _=>
   p.bin .eql 3 false true v0 (.int .i64 19) fun x19=>
   p.cond x19
   (fun _=>
   p.bin .eql 3 false true v2 (.int .i64 0) fun x20=>
   p.cond x20
   (fun _=>
    p.call 23 [(.int .i64 3)] h2 fun x21 h22=>
    p.store h22 48 x1 x21 fun h23=>
    p.load h23 48 x1 fun x24=>
    Q x24 h23)
   (fun _=>
    p.bin .eql 3 false true v1 (.int .i64 (-9223372036854775808)) fun x25=>
    p.gval x25 true (fun k26=>
    k26 v2) fun x27=>
    p.gval x25 true (fun k28=>
    p.bin .eql 3 false true x27 (.int .i64 (-1)) fun x29=>
    k28 x29) fun x30=>
    p.pick x25 (some x30) (some (.bool false)) fun x31=>
    p.cond x31
    (fun _=>
    p.call 23 [(.int .i64 2)] h2 fun x32 h33=>
    p.store h33 48 x1 x32 fun h34=>
    p.load h34 48 x1 fun x35=>
    Q x35 h34)
    (fun _=>
    p.bin .quo 3 false false v1 v2 fun x36=>
    l 1 [x1,x36,(.bool true)] h2)))
   (fun _=>
   l 1 [x1,(.int .i64 0),(.bool true)] h2))))
theorem q_r7_reckon_0 (p:Pr) (l:LL) (Q:QQ) (v0 v1 v2:V) (h:Hp):zig p l Q v0 v1 v2 h=zeq.K p EE l Q [] ([v0,v1,v2]++List.replicate 62 zj) h:=by kernel_rfl
theorem a_r7_reckon {Q:QQ} {v0 v1 v2:V} {h:Hp} (H:zig (Pu EE) (zeq.L EE Q) Q v0 v1 v2 h):Ans EE 139 [v0,v1,v2] h Q:=
 ansL (F:=zeq) (by kernel_rfl) (by kernel_rfl) (by kernel_rfl) (by kernel_rfl) (cast (q_r7_reckon_0 _ _ _ v0 v1 v2 h) H)
noncomputable def zhS (p:Pr) (l:LL) (Q:QQ) (v6 v7 v8:V) (h:Hp):Prop:=
 p.un .not v8 fun x1=>
 p.cond x1
 (fun _=>
  p.call 23 [(.int .i64 2)] h fun x2 h3=>
  p.store h3 48 v6 x2 fun h4=>
  p.load h4 48 v6 fun x5=>
  Q x5 h4)
 (fun _=>
  p.call 35 [v7] h fun x6 h7=>
  p.store h7 48 v6 x6 fun h8=>
  p.load h8 48 v6 fun x9=>
  Q x9 h8)
theorem q_r7_reckon_1 (p:Pr) (l:LL) (Q:QQ) (s:List V) (h:Hp):zhS p l Q (nth s 6) (nth s 7) (nth s 8) h=zeq.K p EE l Q [true,true,true] (nths s 65 0) h:=by kernel_rfl
theorem r_r7_reckon_1 {Q:QQ} {v6 v7 v8:V} {h:Hp} (H:zhS (Pu EE) (zeq.L EE Q) Q v6 v7 v8 h):L_r7_reckon_1 Q v6 v7 v8 h:=
 labR (path:=[true,true,true]) rfl rfl fun s e=>by cases e; exact cast (q_r7_reckon_1 _ _ _ s h) H
noncomputable def c_r7_plus:Code:=match Tryz.f63.body with | some c=>c | none=>.skip
noncomputable def F_r7_plus:Fl:=⟨Tryz.f63,c_r7_plus,[]⟩
noncomputable def zk4 (p:Pr) (l:LL) (Q:QQ) (v0 v1:V) (h:Hp):Prop:=
 p.bin .add 3 false false v0 v1 fun x1=>
 p.bin .geq 3 false false x1 v0 fun x2=>
 p.bin .geq 3 false true v1 (.int .i64 0) fun x3=>
 p.bin .eql 4 false false x2 x3 fun x4=>
 Q (.tup [x1,x4]) h
theorem q_r7_plus_0 (p:Pr) (l:LL) (Q:QQ) (v0 v1:V) (h:Hp):zk4 p l Q v0 v1 h=F_r7_plus.K p EE l Q [] ([v0,v1]++List.replicate 15 zj) h:=by kernel_rfl
theorem a_r7_plus {Q:QQ} {v0 v1:V} {h:Hp} (H:zk4 (Pu EE) (F_r7_plus.L EE Q) Q v0 v1 h):Ans EE 63 [v0,v1] h Q:=
 ansL (F:=F_r7_plus) (by kernel_rfl) (by kernel_rfl) (by kernel_rfl) (by kernel_rfl) (cast (q_r7_plus_0 _ _ _ v0 v1 h) H)
noncomputable def c_r7_times:Code:=match Tryz.f62.body with | some c=>c | none=>.skip
noncomputable def F_r7_times:Fl:=⟨Tryz.f62,c_r7_times,[]⟩
noncomputable def ziV (p:Pr) (l:LL) (Q:QQ) (v0 v1:V) (h:Hp):Prop:=
 p.bin .eql 3 false true v0 (.int .i64 0) fun x1=>
 p.gval x1 false (fun k2=>
  k2 v1) fun x3=>
 p.gval x1 false (fun k4=>
  p.bin .eql 3 false true x3 (.int .i64 0) fun x5=>
  k4 x5) fun x6=>
 p.pick x1 (some (.bool true)) (some x6) fun x7=>
 p.cond x7
 (fun _=>
  Q (.tup [(.int .i64 0),(.bool true)]) h)
 (fun _=>
  p.bin .mul 3 false false v0 v1 fun x8=>
  p.bin .quo 3 false false x8 v1 fun x9=>
  p.bin .eql 3 false false x9 v0 fun x10=>
  p.gval x10 true (fun k11=>
  k11 v1) fun x12=>
  p.gval x10 true (fun k13=>
  p.bin .eql 3 false true x12 (.int .i64 (-1)) fun x14=>
  k13 x14) fun x15=>
  p.gval x10 true (fun k16=>
  k16 x15) fun x17=>
  p.gval x17 true (fun k18=>
  k18 v0) fun x19=>
  p.gval x17 true (fun k20=>
  p.bin .eql 3 false true x19 (.int .i64 (-9223372036854775808)) fun x21=>
  k20 x21) fun x22=>
  p.gval x10 true (fun k23=>
  p.pick x17 (some x22) (some (.bool false)) fun x24=>
  k23 x24) fun x25=>
  p.gval x10 true (fun k26=>
  p.un .not x25 fun x27=>
  k26 x27) fun x28=>
  p.pick x10 (some x28) (some (.bool false)) fun x29=>
  Q (.tup [x8,x29]) h)
theorem q_r7_times_0 (p:Pr) (l:LL) (Q:QQ) (v0 v1:V) (h:Hp):ziV p l Q v0 v1 h=F_r7_times.K p EE l Q [] ([v0,v1]++List.replicate 29 zj) h:=by kernel_rfl
theorem a_r7_times {Q:QQ} {v0 v1:V} {h:Hp} (H:ziV (Pu EE) (F_r7_times.L EE Q) Q v0 v1 h):Ans EE 62 [v0,v1] h Q:=
 ansL (F:=F_r7_times) (by kernel_rfl) (by kernel_rfl) (by kernel_rfl) (by kernel_rfl) (cast (q_r7_times_0 _ _ _ v0 v1 h) H)
noncomputable def c_r7_order:Code:=match Tryz.f140.body with | some c=>c | none=>.skip
noncomputable def F_r7_order:Fl:=⟨Tryz.f140,c_r7_order,[]⟩
noncomputable def zi0 (p:Pr) (l:LL) (Q:QQ) (v0 v1:V) (h:Hp):Prop:=
 p.box h 48 v0 fun x1 h2 b3=>
 p.box h2 48 v1 fun x4 h5 b6=>
 p.load h5 48 x1 fun x7=>
 p.load h5 48 x4 fun x8=>
 p.call 194 [x7,x8] h5 fun x9 h10=>
 p.store h10 48 x1 x9 fun h11=>
 p.load h11 48 x4 fun x12=>
 p.load h11 48 x1 fun x13=>
 p.call 194 [x12,x13] h11 fun x14 h15=>
 p.store h15 48 x4 x14 fun h16=>
 p.faddr 48 x1 0 fun x17=>
 p.load h16 3 x17 fun x18=>
 p.faddr 48 x4 0 fun x19=>
 p.load h16 3 x19 fun x20=>
 p.bin .lss 3 false false x18 x20 fun x21=>
 p.gval x21 false (fun k22=>
  p.faddr 48 x1 0 fun x23=>
  k22 x23) fun x24=>
 p.gval x21 false (fun k25=>
  p.load h16 3 x24 fun x26=>
  k25 x26) fun x27=>
 p.gval x21 false (fun k28=>
  p.faddr 48 x4 0 fun x29=>
  k28 x29) fun x30=>
 p.gval x21 false (fun k31=>
  p.load h16 3 x30 fun x32=>
  k31 x32) fun x33=>
 p.gval x21 false (fun k34=>
  p.bin .eql 3 false false x27 x33 fun x35=>
  k34 x35) fun x36=>
 p.gval x21 false (fun k37=>
  k37 x36) fun x38=>
 p.gval x38 true (fun k39=>
  p.faddr 48 x1 1 fun x40=>
  k39 x40) fun x41=>
 p.gval x38 true (fun k42=>
  p.load h16 3 x41 fun x43=>
  k42 x43) fun x44=>
 p.gval x38 true (fun k45=>
  p.faddr 48 x4 1 fun x46=>
  k45 x46) fun x47=>
 p.gval x38 true (fun k48=>
  p.load h16 3 x47 fun x49=>
  k48 x49) fun x50=>
 p.gval x38 true (fun k51=>
  p.bin .lss 3 false false x44 x50 fun x52=>
  k51 x52) fun x53=>
 p.gval x38 true (fun k54=>
  k54 x53) fun x55=>
 p.gval x55 false (fun k56=>
  p.faddr 48 x1 1 fun x57=>
  k56 x57) fun x58=>
 p.gval x55 false (fun k59=>
  p.load h16 3 x58 fun x60=>
  k59 x60) fun x61=>
 p.gval x55 false (fun k62=>
  p.faddr 48 x4 1 fun x63=>
  k62 x63) fun x64=>
 p.gval x55 false (fun k65=>
  p.load h16 3 x64 fun x66=>
  k65 x66) fun x67=>
 p.gval x55 false (fun k68=>
  p.bin .eql 3 false false x61 x67 fun x69=>
  k68 x69) fun x70=>
 p.gval x55 false (fun k71=>
  k71 x70) fun x72=>
 p.gval x72 true (fun k73=>
  p.faddr 48 x1 2 fun x74=>
  k73 x74) fun x75=>
 p.gval x72 true (fun k76=>
  p.load h16 9 x75 fun x77=>
  k76 x77) fun x78=>
 p.gval x72 true (fun k79=>
  p.faddr 48 x4 2 fun x80=>
  k79 x80) fun x81=>
 p.gval x72 true (fun k82=>
  p.load h16 9 x81 fun x83=>
  k82 x83) fun x84=>
 p.gval x72 true (fun k85=>
  p.bin .lss 9 false false x78 x84 fun x86=>
  k85 x86) fun x87=>
 p.gval x55 false (fun k88=>
  p.pick x72 (some x87) (some (.bool false)) fun x89=>
  k88 x89) fun x90=>
 p.gval x38 true (fun k91=>
  p.pick x55 (some (.bool true)) (some x90) fun x92=>
  k91 x92) fun x93=>
 p.gval x21 false (fun k94=>
  p.pick x38 (some x93) (some (.bool false)) fun x95=>
  k94 x95) fun x96=>
 p.pick x21 (some (.bool true)) (some x96) fun x97=>
 p.cond x97
 (fun _=>
  Q (.int .i64 (-1)) h16)
 (fun _=>
  p.load h16 48 x1 fun x98=>
  p.load h16 48 x4 fun x99=>
  p.bin .eql 48 false false x98 x99 fun x100=>
  p.cond x100
  (fun _=>
  Q (.int .i64 0) h16)
  (fun _=>
  Q (.int .i64 1) h16))
theorem q_r7_order_0 (p:Pr) (l:LL) (Q:QQ) (v0 v1:V) (h:Hp):zi0 p l Q v0 v1 h=F_r7_order.K p EE l Q [] ([v0,v1]++List.replicate 47 zj) h:=by kernel_rfl
theorem a_r7_order {Q:QQ} {v0 v1:V} {h:Hp} (H:zi0 (Pu EE) (F_r7_order.L EE Q) Q v0 v1 h):Ans EE 140 [v0,v1] h Q:=
 ansL (F:=F_r7_order) (by kernel_rfl) (by kernel_rfl) (by kernel_rfl) (by kernel_rfl) (cast (q_r7_order_0 _ _ _ v0 v1 h) H)
noncomputable def c_r7_as:Code:=match Tryz.f194.body with | some c=>c | none=>.skip
noncomputable def F_r7_as:Fl:=⟨Tryz.f194,c_r7_as,[]⟩
noncomputable def t_r7_as_0 (p:Pr) (l:LL) (Q:QQ) (v0 v1:V) (h:Hp):Prop:=
 p.box h 48 v0 fun x1 h2 b3=>
 p.box h2 48 v1 fun x4 h5 b6=>
 p.alloc h5 48 fun x7 h8 b9=>
 p.faddr 48 x1 0 fun x10=>
 p.load h8 3 x10 fun x11=>
 p.bin .eql 3 false true x11 (.int .i64 0) fun x12=>
 p.cond x12
 (fun _=>
  p.faddr 48 x4 0 fun x13=>
  p.load h8 3 x13 fun x14=>
  p.faddr 48 x1 0 fun x15=>
  p.store h8 3 x15 x14 fun h16=>
  p.load h16 48 x1 fun x17=>
  p.store h16 48 x7 x17 fun h18=>
  p.load h18 48 x7 fun x19=>
  Q x19 h18)
 (fun _=>
  p.load h8 48 x1 fun x20=>
  p.store h8 48 x7 x20 fun h21=>
  p.load h21 48 x7 fun x22=>
  Q x22 h21)
theorem q_r7_as_0 (p:Pr) (l:LL) (Q:QQ) (v0 v1:V) (h:Hp):t_r7_as_0 p l Q v0 v1 h=F_r7_as.K p EE l Q [] ([v0,v1]++List.replicate 10 zj) h:=by kernel_rfl
theorem a_r7_as {Q:QQ} {v0 v1:V} {h:Hp} (H:t_r7_as_0 (Pu EE) (F_r7_as.L EE Q) Q v0 v1 h):Ans EE 194 [v0,v1] h Q:=
 ansL (F:=F_r7_as) (by kernel_rfl) (by kernel_rfl) (by kernel_rfl) (by kernel_rfl) (cast (q_r7_as_0 _ _ _ v0 v1 h) H)
noncomputable def c_r7_ValText:Code:=match Tryz.f138.body with | some c=>c | none=>.skip
noncomputable def ziR:Fl:=⟨Tryz.f138,c_r7_ValText,[]⟩
noncomputable def zhk (p:Pr) (l:LL) (Q:QQ) (v0:V) (h:Hp):Prop:=
 p.box h 48 v0 fun x1 h2 b3=>
 p.faddr 48 x1 0 fun x4=>
 p.load h2 3 x4 fun x5=>
 p.bin .eql 3 false true x5 (.int .i64 1) fun x6=>
 p.cond x6
 (fun _=>
  p.faddr 48 x1 1 fun x7=>
  p.load h2 3 x7 fun x8=>
  p.call 38 [x8] h2 fun x9 h10=>
  Q x9 h10)
 (fun _=>
  p.bin .eql 3 false true x5 (.int .i64 2) fun x11=>
  p.cond x11
  (fun _=>
  p.faddr 48 x1 2 fun x12=>
  p.load h2 9 x12 fun x13=>
  Q x13 h2)
  (fun _=>
  p.bin .eql 3 false true x5 (.int .i64 3) fun x14=>
  p.cond x14
  (fun _=>
   p.faddr 48 x1 1 fun x15=>
   p.load h2 3 x15 fun x16=>
   p.bin .eql 3 false true x16 (.int .i64 1) fun x17=>
   p.cond x17
   (fun _=>
   Q (.str [84,82,85,69]) h2)
   (fun _=>
   Q (.str [70,65,76,83,69]) h2))
  (fun _=>
   p.bin .eql 3 false true x5 (.int .i64 4) fun x18=>
   p.cond x18
   (fun _=>
   p.bsl h2 40 7 [(0,(.str [])),(1,(.str [35,86,65,76,85,69,33])),(2,(.str [35,78,85,77,33])),(3,(.str [35,68,73,86,48,33])),(4,(.str [35,82,69,70,33])),(5,(.str [35,78,65,77,69,33])),(6,(.str [35,67,89,67,76,69,33]))] fun x19 h20 b21=>
   p.faddr 48 x1 1 fun x22=>
   p.load h20 3 x22 fun x23=>
   p.iaddr 40 x19 x23 fun x24=>
   p.load h20 9 x24 fun x25=>
   Q x25 h20)
   (fun _=>
   Q (.str []) h2))))
theorem q_r7_ValText_0 (p:Pr) (l:LL) (Q:QQ) (v0:V) (h:Hp):zhk p l Q v0 h=ziR.K p EE l Q [] ([v0]++List.replicate 25 zj) h:=by kernel_rfl
theorem a_r7_ValText {Q:QQ} {v0:V} {h:Hp} (H:zhk (Pu EE) (ziR.L EE Q) Q v0 h):Ans EE 138 [v0] h Q:=
 ansL (F:=ziR) (by kernel_rfl) (by kernel_rfl) (by kernel_rfl) (by kernel_rfl) (cast (q_r7_ValText_0 _ _ _ v0 h) H)
noncomputable def c_r7_Int:Code:=match Tryz.f137.body with | some c=>c | none=>.skip
noncomputable def F_r7_Int:Fl:=⟨Tryz.f137,c_r7_Int,[]⟩
noncomputable def t_r7_Int_0 (p:Pr) (l:LL) (Q:QQ) (v0:V) (h:Hp):Prop:=
 p.box h 48 v0 fun x1 h2 b3=>
 p.faddr 48 x1 0 fun x4=>
 p.load h2 3 x4 fun x5=>
 p.bin .eql 3 false true x5 (.int .i64 1) fun x6=>
 p.gval x6 false (fun k7=>
  p.faddr 48 x1 0 fun x8=>
  k7 x8) fun x9=>
 p.gval x6 false (fun k10=>
  p.load h2 3 x9 fun x11=>
  k10 x11) fun x12=>
 p.gval x6 false (fun k13=>
  p.bin .eql 3 false true x12 (.int .i64 0) fun x14=>
  k13 x14) fun x15=>
 p.pick x6 (some (.bool true)) (some x15) fun x16=>
 p.cond x16
 (fun _=>
  p.faddr 48 x1 1 fun x17=>
  p.load h2 3 x17 fun x18=>
  Q (.tup [x18,(.bool true)]) h2)
 (fun _=>
  Q (.tup [(.int .i64 0),(.bool false)]) h2)
theorem q_r7_Int_0 (p:Pr) (l:LL) (Q:QQ) (v0:V) (h:Hp):t_r7_Int_0 p l Q v0 h=F_r7_Int.K p EE l Q [] ([v0]++List.replicate 13 zj) h:=by kernel_rfl
theorem a_r7_Int {Q:QQ} {v0:V} {h:Hp} (H:t_r7_Int_0 (Pu EE) (F_r7_Int.L EE Q) Q v0 h):Ans EE 137 [v0] h Q:=
 ansL (F:=F_r7_Int) (by kernel_rfl) (by kernel_rfl) (by kernel_rfl) (by kernel_rfl) (cast (q_r7_Int_0 _ _ _ v0 h) H)
noncomputable def c_r7_Truth:Code:=match Tryz.f193.body with | some c=>c | none=>.skip
noncomputable def F_r7_Truth:Fl:=⟨Tryz.f193,c_r7_Truth,[]⟩
noncomputable def zi8 (p:Pr) (l:LL) (Q:QQ) (v0:V) (h:Hp):Prop:=
 p.box h 48 v0 fun x1 h2 b3=>
 p.faddr 48 x1 0 fun x4=>
 p.load h2 3 x4 fun x5=>
 p.bin .eql 3 false true x5 (.int .i64 1) fun x6=>
 p.gval x6 false (fun k7=>
  p.faddr 48 x1 0 fun x8=>
  k7 x8) fun x9=>
 p.gval x6 false (fun k10=>
  p.load h2 3 x9 fun x11=>
  k10 x11) fun x12=>
 p.gval x6 false (fun k13=>
  p.bin .eql 3 false true x12 (.int .i64 3) fun x14=>
  k13 x14) fun x15=>
 p.pick x6 (some (.bool true)) (some x15) fun x16=>
 p.gval x16 false (fun k17=>
  p.faddr 48 x1 0 fun x18=>
  k17 x18) fun x19=>
 p.gval x16 false (fun k20=>
  p.load h2 3 x19 fun x21=>
  k20 x21) fun x22=>
 p.gval x16 false (fun k23=>
  p.bin .eql 3 false true x22 (.int .i64 0) fun x24=>
  k23 x24) fun x25=>
 p.pick x16 (some (.bool true)) (some x25) fun x26=>
 p.cond x26
 (fun _=>
  p.faddr 48 x1 1 fun x27=>
  p.load h2 3 x27 fun x28=>
  p.bin .neq 3 false true x28 (.int .i64 0) fun x29=>
  Q (.tup [x29,(.bool true)]) h2)
 (fun _=>
  Q (.tup [(.bool false),(.bool false)]) h2)
theorem q_r7_Truth_0 (p:Pr) (l:LL) (Q:QQ) (v0:V) (h:Hp):zi8 p l Q v0 h=F_r7_Truth.K p EE l Q [] ([v0]++List.replicate 19 zj) h:=by kernel_rfl
theorem a_r7_Truth {Q:QQ} {v0:V} {h:Hp} (H:zi8 (Pu EE) (F_r7_Truth.L EE Q) Q v0 h):Ans EE 193 [v0] h Q:=
 ansL (F:=F_r7_Truth) (by kernel_rfl) (by kernel_rfl) (by kernel_rfl) (by kernel_rfl) (cast (q_r7_Truth_0 _ _ _ v0 h) H)
noncomputable def c_r7_no:Code:=match Tryz.f23.body with | some c=>c | none=>.skip
noncomputable def F_r7_no:Fl:=⟨Tryz.f23,c_r7_no,[]⟩
noncomputable def t_r7_no_0 (p:Pr) (l:LL) (Q:QQ) (v0:V) (h:Hp):Prop:=
 p.alloc h 48 fun x1 h2 b3=>
 p.build 48 [(0,(.int .i64 4)),(1,v0)] fun x4=>
 p.store h2 48 x1 x4 fun h5=>
 p.load h5 48 x1 fun x6=>
 Q x6 h5
theorem q_r7_no_0 (p:Pr) (l:LL) (Q:QQ) (v0:V) (h:Hp):t_r7_no_0 p l Q v0 h=F_r7_no.K p EE l Q [] ([v0]++List.replicate 4 zj) h:=by kernel_rfl
theorem a_r7_no {Q:QQ} {v0:V} {h:Hp} (H:t_r7_no_0 (Pu EE) (F_r7_no.L EE Q) Q v0 h):Ans EE 23 [v0] h Q:=
 ansL (F:=F_r7_no) (by kernel_rfl) (by kernel_rfl) (by kernel_rfl) (by kernel_rfl) (cast (q_r7_no_0 _ _ _ v0 h) H)
noncomputable def c_r7_num:Code:=match Tryz.f35.body with | some c=>c | none=>.skip
noncomputable def F_r7_num:Fl:=⟨Tryz.f35,c_r7_num,[]⟩
noncomputable def t_r7_num_0 (p:Pr) (l:LL) (Q:QQ) (v0:V) (h:Hp):Prop:=
 p.alloc h 48 fun x1 h2 b3=>
 p.build 48 [(0,(.int .i64 1)),(1,v0)] fun x4=>
 p.store h2 48 x1 x4 fun h5=>
 p.load h5 48 x1 fun x6=>
 Q x6 h5
theorem q_r7_num_0 (p:Pr) (l:LL) (Q:QQ) (v0:V) (h:Hp):t_r7_num_0 p l Q v0 h=F_r7_num.K p EE l Q [] ([v0]++List.replicate 4 zj) h:=by kernel_rfl
theorem a_r7_num {Q:QQ} {v0:V} {h:Hp} (H:t_r7_num_0 (Pu EE) (F_r7_num.L EE Q) Q v0 h):Ans EE 35 [v0] h Q:=
 ansL (F:=F_r7_num) (by kernel_rfl) (by kernel_rfl) (by kernel_rfl) (by kernel_rfl) (cast (q_r7_num_0 _ _ _ v0 h) H)
noncomputable def c_r7_truth:Code:=match Tryz.f84.body with | some c=>c | none=>.skip
noncomputable def F_r7_truth:Fl:=⟨Tryz.f84,c_r7_truth,[]⟩
noncomputable def zjk (p:Pr) (l:LL) (Q:QQ) (v0:V) (h:Hp):Prop:=
 p.alloc h 48 fun x1 h2 b3=>
 p.cond v0
 (fun _=>
  p.build 48 [(0,(.int .i64 3)),(1,(.int .i64 1))] fun x4=>
  p.store h2 48 x1 x4 fun h5=>
  p.load h5 48 x1 fun x6=>
  Q x6 h5)
 (fun _=>
  p.build 48 [(0,(.int .i64 3))] fun x7=>
  p.store h2 48 x1 x7 fun h8=>
  p.load h8 48 x1 fun x9=>
  Q x9 h8)
theorem q_r7_truth_0 (p:Pr) (l:LL) (Q:QQ) (v0:V) (h:Hp):zjk p l Q v0 h=F_r7_truth.K p EE l Q [] ([v0]++List.replicate 5 zj) h:=by kernel_rfl
theorem a_r7_truth {Q:QQ} {v0:V} {h:Hp} (H:zjk (Pu EE) (F_r7_truth.L EE Q) Q v0 h):Ans EE 84 [v0] h Q:=
 ansL (F:=F_r7_truth) (by kernel_rfl) (by kernel_rfl) (by kernel_rfl) (by kernel_rfl) (cast (q_r7_truth_0 _ _ _ v0 h) H)
end
end Go.Proofs.YtbchdlelmkmagaaGreatDoor.VM
namespace Go.Proofs.YtbchdlelmkmagaaGreatDoor.VM
open Go
set_option linter.unusedVariables false
set_option linter.unusedSectionVars false
set_option linter.unusedSimpArgs false
set_option maxRecDepth 20000
noncomputable section
attribute [local instance] syZ
theorem rnum_ok (n:Int) (h:Hp):Ans EE 35 [.int .i64 n] h fun x h'=>x=valV (vlN n)∧Ext h.n h h':=by
 apply a_r7_num
 unfold t_r7_num_0
 refine zq ze fun h1 b w=>?_
 rw [zaD za2 _ (fun p hp=>by
  simp only [List.mem_cons,List.not_mem_nil,or_false] at hp
  rcases hp with rfl | rfl <;> exact zcU _ _) rfl]
 exact outV (vlN n) w fun h' x=>⟨rfl,x⟩
theorem ziT (e:Nat) (z:Int) (hz:z=(e:Int)) (h:Hp):Ans EE 23 [.int .i64 z] h fun x h'=>x=valV (vlE e)∧Ext h.n h h':=by
 subst hz
 apply a_r7_no
 unfold t_r7_no_0
 refine zq ze fun h1 b w=>?_
 rw [zaD za2 _ (fun p hp=>by
  simp only [List.mem_cons,List.not_mem_nil,or_false] at hp
  rcases hp with rfl | rfl <;> exact zcU _ _) rfl]
 exact outV (vlE e) w fun h' x=>⟨rfl,x⟩
theorem rtruth_ok (c:Bool) (h:Hp):Ans EE 84 [.bool c] h fun x h'=>x=valV (vlB c)∧Ext h.n h h':=by
 apply a_r7_truth
 unfold zjk
 refine zq ze fun h1 b w=>?_
 cases c with
 | true=>
  rw [zc,zaD za2 _ (fun p hp=>by
   simp only [List.mem_cons,List.not_mem_nil,or_false] at hp
   rcases hp with rfl | rfl <;> exact zcU _ _) rfl]
  exact outV (vlB true) w fun h' x=>⟨rfl,x⟩
 | false=>
  rw [zb,zaD za2 _ (fun p hp=>by
   simp only [List.mem_cons,List.not_mem_nil,or_false] at hp
   rcases hp with rfl; exact zcU _ _) rfl]
  exact outV (vlB false) w fun h' x=>⟨rfl,x⟩
theorem rtext_ok (v:Vl) (m:MayV v) (hk:v.k ≠ 4) (h:Hp):Ans EE 138 [valV v] h fun x h'=>x=.str (textV v)∧Ext h.n h h':=by
 apply a_r7_ValText
 unfold zhk
 refine zdn v fun h1 b w=>?_
 have e:=w.ext (Nat.le_refl _)
 rw [zF,za zm w.at_ rfl,eqlK _ 1 1 rfl,zi]
 unfold textV
 refine ⟨fun h1'=>?_,fun h1'=>?_⟩
 ·rw [zat,za zm w.at_ rfl,if_pos h1']
  refine (dig_ok hook_dig v.n m.f h1).mono ?_
  rintro x h2 ⟨rfl,rfl⟩
  exact ⟨rfl,e⟩
 ·rw [eqlK _ 2 2 rfl,zi,if_neg h1']
  refine ⟨fun h2'=>?_,fun h2'=>?_⟩
  ·rw [zdq,za zL w.at_ rfl,if_pos h2']
   exact ⟨rfl,e⟩
  ·rw [eqlK _ 3 3 rfl,zi,if_neg h2']
   refine ⟨fun h3'=>?_,fun h3'=>?_⟩
   ·rw [zat,za zm w.at_ rfl,zcJ,zi,if_pos h3']
    exact ⟨fun q=>by rw [if_pos q]; exact ⟨rfl,e⟩,fun q=>by rw [if_neg q]; exact ⟨rfl,e⟩⟩
   ·rw [eqlK _ 4 4 rfl,zi,if_neg h3']
    exact ⟨fun q=>absurd q hk,fun _=>⟨rfl,e⟩⟩
theorem rint_ok (v:Vl) (h:Hp):Ans EE 137 [valV v] h fun x h'=>x=.tup [.int .i64 ((intV v).getD 0),.bool (intV v).isSome]∧Ext h.n h h':=by
 apply a_r7_Int
 unfold t_r7_Int_0
 refine zdn v fun h1 b w=>?_
 have e:=w.ext (Nat.le_refl _)
 rw [zF,za zm w.at_ rfl,eqlK _ 1 1 rfl]
 unfold intV
 by_cases h1':v.k=1
 ·rw [decide_eq_true h1']
  simp only [zaH]
  rw [zB,zc,zat,za zm w.at_ rfl,if_pos (by omega)]
  exact ⟨rfl,e⟩
 ·rw [decide_eq_false h1']
  simp only [zu]
  rw [zF,za zm w.at_ rfl,eqlK _ 0 0 rfl,zo,zi]
  refine ⟨fun h0=>?_,fun h0=>?_⟩
  ·rw [zat,za zm w.at_ rfl,if_pos (by omega)]
   exact ⟨rfl,e⟩
  ·rw [if_neg (by omega)]
   exact ⟨rfl,e⟩
theorem rtr_ok (v:Vl) (h:Hp):Ans EE 193 [valV v] h fun x h'=>x=.tup [.bool ((ziB v).getD false),.bool (ziB v).isSome]∧Ext h.n h h':=by
 apply a_r7_Truth
 unfold zi8
 refine zdn v fun h1 b w=>?_
 have e:=w.ext (Nat.le_refl _)
 have yes:v.k≤1∨v.k=3→(Pu EE).faddr 48 (.ptr b 0) 1 fun x27=>(Pu EE).load h1 3 x27 fun x28=>(Pu EE).bin .neq 3 false true x28 (.int .i64 0) fun x29=>V.tup [x29,(.bool true)]=.tup [.bool ((ziB v).getD false),.bool (ziB v).isSome]∧Ext h.n h h1:=by
  intro hy
  rw [zat,za zm w.at_ rfl,pu_neq]
  unfold ziB
  rw [if_pos hy]
  refine ⟨?_,e⟩
  simp
 rw [zF,za zm w.at_ rfl,eqlK _ 1 1 rfl]
 by_cases h1':v.k=1
 ·rw [decide_eq_true h1']
  simp only [zaH]
  rw [zB]
  simp only [zaH]
  rw [zB,zc]
  exact yes (.inl (by omega))
 ·rw [decide_eq_false h1']
  simp only [zu]
  rw [zF,za zm w.at_ rfl,eqlK _ 3 3 rfl,zo]
  by_cases h3:v.k=3
  ·rw [decide_eq_true h3]
   simp only [zaH]
   rw [zB,zc]
   exact yes (.inr h3)
  ·rw [decide_eq_false h3]
   simp only [zu]
   rw [zF,za zm w.at_ rfl,eqlK _ 0 0 rfl,zo]
   by_cases h0:v.k=0
   ·rw [decide_eq_true h0,zc]
    exact yes (.inl (by omega))
   ·rw [decide_eq_false h0,zb]
    unfold ziB
    rw [if_neg (by omega)]
    exact ⟨rfl,e⟩
theorem plus_fit {x y:Int} (hx:zar x) (hy:zar y):(decide (x≤IntKind.i64.wrap (x+y)) == decide (0≤y))=decide (zar (x+y))∧(zar (x+y)→IntKind.i64.wrap (x+y)=x+y):=by
 refine ⟨?_,fun h=>by unfold zar at *; rw [ze7]; omega⟩
 rw [Bool.eq_iff_iff,beq_iff_eq,decide_eq_true_iff,decide_eq_decide,ze7]
 unfold zar at *
 omega
theorem rplus_ok {x y:Int} (hx:zar x) (hy:zar y) (h:Hp):Ans EE 63 [.int .i64 x,.int .i64 y] h fun r h'=>(∃ z,r=.tup [.int .i64 z,.bool (decide (zar (x+y)))]∧(zar (x+y)→z=x+y))∧Ext h.n h h':=by
 apply a_r7_plus
 unfold zk4
 obtain ⟨f1,f2⟩:=plus_fit hx hy
 rw [pu_add,pu_geq,pu_geq,pu_beql,f1]
 exact ⟨⟨_,rfl,f2⟩,Ext.refl _ _⟩
theorem rtimes_ok {x:Int} (hx:zar x) (h:Hp):Ans EE 62 [.int .i64 x,.int .i64 2] h fun r h'=>(∃ z,r=.tup [.int .i64 z,.bool (decide (zar (x * 2)))]∧(zar (x * 2)→z=x * 2))∧Ext h.n h h':=by
 apply a_r7_times
 unfold ziV
 obtain ⟨f1,f2⟩:=dbl_fit hx
 rw [zcJ]
 by_cases h0:x=0
 ·subst h0
  rw [decide_eq_true rfl]
  simp only [zaH]
  rw [zB,zc]
  exact ⟨⟨0,rfl,fun _=>rfl⟩,Ext.refl _ _⟩
 ·rw [decide_eq_false h0]
  simp only [zu]
  rw [zcJ,decide_eq_false (by decide:¬ (2:Int)=0),zo,zb]
  rw [pu_mul,pu_quo _ _ _ _ _ _ (by decide),zcJ]
  have hw:IntKind.i64.wrap ((IntKind.i64.wrap (x * 2)).tdiv 2)=(IntKind.i64.wrap (x * 2)).tdiv 2:=by
   have h1:zar ((IntKind.i64.wrap (x * 2)).tdiv 2):=by
    have h2:=Int.mul_tdiv_add_tmod (IntKind.i64.wrap (x * 2)) 2
    have h3:=Int.tmod_lt_of_pos (IntKind.i64.wrap (x * 2)) (b:=2) (by omega)
    have h4:=Int.lt_tmod_of_pos (IntKind.i64.wrap (x * 2)) (b:=2) (by omega)
    have h5:zar (IntKind.i64.wrap (x * 2)):=by rw [ze7]; unfold zar; omega
    unfold zar at *
    omega
   rw [ze7 ((IntKind.i64.wrap (x * 2)).tdiv 2)]
   unfold zar at h1
   omega
  rw [hw]
  by_cases hf:zar (x * 2)
  ·rw [decide_eq_true (f1.1 hf),decide_eq_true hf,f2 hf]
   simp only [zu]
   rw [zcJ,decide_eq_false (by decide:¬ (2:Int) = -1)]
   simp only [zS]
   rw [zo,zaE,Bool.not_false,zB]
   exact ⟨⟨_,rfl,fun _=>rfl⟩,Ext.refl _ _⟩
  ·rw [decide_eq_false (fun q=>hf (f1.2 q)),decide_eq_false hf]
   simp only [zS,zch]
   rw [zo]
   exact ⟨⟨_,rfl,fun q=>absurd q hf⟩,Ext.refl _ _⟩
end
end Go.Proofs.YtbchdlelmkmagaaGreatDoor.VM
namespace Go.Proofs.YtbchdlelmkmagaaGreatDoor.VM
open Go
set_option linter.unusedVariables false
set_option linter.unusedSectionVars false
set_option linter.unusedSimpArgs false
set_option maxRecDepth 20000
noncomputable section
attribute [local instance] syZ
def recS (k:Nat) (x y:Int):Vl:=if k=16 then numS (x+y) else if k=18 then numS (x * y) else if y=0 then vlE 3 else vlN (x.tdiv y)
def RecOK (k:Nat) (x y:Int):Prop:=k=16∨(k=18∧y=2)∨(k=19∧x=1∧(y=0∨y=1))
theorem reckon_end {h h2:Hp} {b1:Nat} {cs:List V} (hb:h2.t.get b1=some (.cells cs 48 false)) (hl:cs.length=3) (hb1:h.n≤b1) (hn:b1 < h2.n) (x2:Ext h.n h h2) {z r:Int} (hz:zar r→z=r):
  L_r7_reckon_1 (fun x h'=>x=valV (numS r)∧Ext h.n h h') (.ptr b1 0) (.int .i64 z) (.bool (decide (zar r))) h2:=by
 apply r_r7_reckon_1
 unfold zhS
 have n2:=x2.n
 have fin:∀ (h':Hp) (v:Vl),v=numS r→Ext h2.n h2 h'→(Pu EE).store h' 48 (.ptr b1 0) (valV v) fun h58=>(Pu EE).load h58 48 (.ptr b1 0) fun x59=>x59=valV (numS r)∧Ext h.n h h58:=by
  intro h' v e x'
  subst e
  have n':=x'.n
  refine retV ((x'.old b1 hn).trans hb) hl _ fun h3 w=>⟨rfl,by have:=w.n; omega,fun c hc=>?_⟩
  rw [w.other c (by omega),x'.old c (by omega),x2.old c hc]
 rw [zaE]
 by_cases hf:zar r
 ·rw [decide_eq_true hf,Bool.not_true,zb]
  refine (rnum_ok z h2).mono ?_
  rintro y h3 ⟨rfl,x3⟩
  exact fin h3 _ (by rw [numS,if_pos hf,hz hf]) x3
 ·rw [decide_eq_false hf,Bool.not_false,zc]
  refine (ziT 2 2 rfl h2).mono ?_
  rintro y h3 ⟨rfl,x3⟩
  exact fin h3 _ (by rw [numS,if_neg hf]) x3
theorem reckon_ok (k:Nat) {x y:Int} (hx:zar x) (hy:zar y) (ho:RecOK k x y) (h:Hp):Ans EE 139 [.int .i64 (k:Int),.int .i64 x,.int .i64 y] h fun r h'=>r=valV (recS k x y)∧Ext h.n h h':=by
 apply a_r7_reckon
 unfold zig
 refine zq ze fun h1 b1 w1=>?_
 have n1:=w1.n
 have e1:=w1.b
 rcases ho with rfl | ⟨rfl,rfl⟩ | ⟨rfl,rfl,hb⟩
 ·rw [eqlK 16 16 16 rfl,decide_eq_true rfl,zc]
  refine (rplus_ok hx hy h1).mono ?_
  rintro r h2 ⟨⟨z,rfl,hz⟩,x2⟩
  have n2:=x2.n
  rw [zao,zam]
  exact reckon_end (h:=h) ((x2.old b1 (by omega)).trans w1.at_) rfl (by omega) (by omega) ((w1.ext (Nat.le_refl _)).trans (x2.mono (by omega))) hz
 ·rw [eqlK 18 16 16 rfl,decide_eq_false (by decide),zb,eqlK 18 17 17 rfl,decide_eq_false (by decide),zb,eqlK 18 18 18 rfl,decide_eq_true rfl,zc]
  refine (rtimes_ok hx h1).mono ?_
  rintro r h2 ⟨⟨z,rfl,hz⟩,x2⟩
  have n2:=x2.n
  rw [zao,zam]
  exact reckon_end (h:=h) ((x2.old b1 (by omega)).trans w1.at_) rfl (by omega) (by omega) ((w1.ext (Nat.le_refl _)).trans (x2.mono (by omega))) hz
 ·rw [eqlK 19 16 16 rfl,decide_eq_false (by decide),zb,eqlK 19 17 17 rfl,decide_eq_false (by decide),zb,eqlK 19 18 18 rfl,decide_eq_false (by decide),zb,eqlK 19 19 19 rfl,decide_eq_true rfl,zc,zcJ]
  rcases hb with rfl | rfl
  ·rw [decide_eq_true rfl,zc]
   refine (ziT 3 3 rfl h1).mono ?_
   rintro y h2 ⟨rfl,x2⟩
   have n2:=x2.n
   refine retV ((x2.old b1 (by omega)).trans w1.at_) rfl _ fun h3 w=>⟨rfl,by have:=w.n; omega,fun c hc=>?_⟩
   rw [w.other c (by omega),x2.old c (by omega),w1.old c hc]
  ·rw [decide_eq_false (by decide),zb,zcJ,decide_eq_false (by decide:¬ (1:Int) = -9223372036854775808)]
   simp only [zS]
   rw [zo,zb,pu_quo _ _ _ _ _ _ (by decide)]
   have:=reckon_end (h:=h) (z:=1) (r:=1) w1.at_ rfl (by omega) (by omega) (w1.ext (Nat.le_refl _)) (fun _=>rfl)
   rw [decide_eq_true (by unfold zar; omega:zar 1)] at this
   exact this
theorem ras_ok (v o:Vl) (m:MayV v) (h:Hp):Ans EE 194 [valV v,valV o] h fun x h'=>x=valV (zaP v o)∧Ext h.n h h':=by
 apply a_r7_as
 unfold t_r7_as_0
 refine zdn v fun h1 b1 w1=>?_
 refine zdn o fun h2 b2 w2=>?_
 refine zq ze fun h3 b3 w3=>?_
 have n1:=w1.n
 have n2:=w2.n
 have n3:=w3.n
 have e1:=w1.b
 have e2:=w2.b
 have e3:=w3.b
 have g1:h3.t.get b1=some (.cells (vlC v) 48 false):=by rw [w3.old b1 (by omega),w2.old b1 (by omega)]; exact w1.at_
 have g2:h3.t.get b2=some (.cells (vlC o) 48 false):=by rw [w3.old b2 (by omega)]; exact w2.at_
 have X:Ext h.n h h2:=(w1.ext (Nat.le_refl _)).trans (w2.ext (by omega))
 rw [zF,za zm g1 rfl,eqlK _ 0 0 rfl,zi]
 unfold zaP
 refine ⟨fun hk=>?_,fun hk=>?_⟩
 ·have hn:=m.n (by omega) (by omega) (by omega)
  have hs:=m.s (by omega)
  rw [zF,za zm g2 rfl,zF,if_pos hk]
  refine zC zm g1 (x:=.int .i64 (o.k:Int)) rfl rfl (r:=vlC ⟨o.k,0,[]⟩) (by unfold vlC; rw [hn,hs]; rfl) fun h4 w4=>?_
  have n4:=w4.n
  rw [zd ze w4.at_ (l:=vlC ⟨o.k,0,[]⟩) rfl]
  refine retV (by rw [w4.other b3 (by omega)]; exact w3.at_) rfl _ fun h5 w5=>⟨rfl,by rw [w5.n]; omega,fun c hc=>?_⟩
  rw [w5.other c (by omega),w4.other c (by omega),w3.old c (by omega),X.old c hc]
 ·rw [zd ze g1 (l:=vlC v) rfl,if_neg hk]
  exact outV v w3 fun h' x=>⟨rfl,X.trans (x.mono (by omega))⟩
end
end Go.Proofs.YtbchdlelmkmagaaGreatDoor.VM
namespace Go.Proofs.YtbchdlelmkmagaaGreatDoor.VM
open Go
set_option linter.unusedVariables false
set_option linter.unusedSectionVars false
set_option linter.unusedSimpArgs false
set_option maxRecDepth 20000
noncomputable section
attribute [local instance] syZ
theorem like_like (a b:Vl) (mb:MayV b):zaP b (zaP a b)=zaP b a:=by
 unfold zaP
 by_cases hb:b.k=0
 ·rw [if_pos hb,if_pos hb]
  by_cases ha:a.k=0
  ·rw [if_pos ha,ha,hb]
  ·rw [if_neg ha]
 ·rw [if_neg hb,if_neg hb]
theorem pu_valeq (A B:Vl) (q:V→Prop):(Pu EE).bin .eql 48 false false (.agg (vlC A)) (.agg (vlC B)) q↔q (.bool (decide (A=B))):=by
 show (∃ v,vbinB EE .eql 48 false false (.agg (vlC A)) (.agg (vlC B))=some v∧q v)↔_
 have h:(EE.ty.get 48).map (fun j=>(j.plain,(match j.k with | .struct _=>true | _=>false)))=some (some [.int .i64,.int .i64,.str],true):=by kernel_rfl
 obtain ⟨j,h1,h2⟩:=Option.map_eq_some_iff.1 h
 simp only [Prod.mk.injEq] at h2
 obtain ⟨h3,h4⟩:=h2
 have e:veq EE j (.agg (vlC A)) (.agg (vlC B))=some (decide (A=B)):=by
  have e1:veq EE j (.agg (vlC A)) (.agg (vlC B))=aeq j (vlC A) (vlC B):=by
   unfold veq
   split at h4 <;> first | (cases h4; done) | skip
   rename_i fs hfs
   rw [hfs]
  rw [e1]
  unfold aeq vlC
  rw [h3]
  simp only [Option.bind_some,leq,ceq,zci,zbc,cond_true,zet]
  obtain ⟨ak,an,as_⟩:=A
  obtain ⟨bk,bn,bs⟩:=B
  have e3:decide (((ak:Nat):Int)=(bk:Int))=decide (ak=bk):=by rw [decide_eq_decide]; omega
  simp only [Vl.mk.injEq]
  rw [e3]
  by_cases q1:ak=bk <;> by_cases q2:an=bn <;> by_cases q3:as_=bs <;> simp [q1,q2,q3]
 have e2:vbinB EE .eql 48 false false (.agg (vlC A)) (.agg (vlC B))=eqOp .eql ((EE.ty.get 48).bind fun i=>veq EE i (.agg (vlC A)) (.agg (vlC B))):=rfl
 rw [e2,h1,Option.bind_some,e]
 show (∃ v,some (V.bool (decide (A=B)))=some v∧q v)↔_
 rw [zT]
def ltP (A B:Vl):Bool:=decide (A.k < B.k) || (decide (A.k=B.k) && (decide (A.n < B.n) || (decide (A.n=B.n) && slt A.s B.s)))
theorem rcmpV_ok (a b:Vl) (ma:MayV a) (mb:MayV b) (h:Hp):Ans EE 140 [valV a,valV b] h fun x h'=>x=.int .i64 (if ltP (zaP a b) (zaP b a) then -1 else if zaP a b=zaP b a then 0 else 1)∧Ext h.n h h':=by
 apply a_r7_order
 unfold zi0
 refine zdn a fun h1 b1 w1=>?_
 refine zdn b fun h2 b2 w2=>?_
 have n1:=w1.n
 have n2:=w2.n
 have e1:=w1.b
 have e2:=w2.b
 have g1:h2.t.get b1=some (.cells (vlC a) 48 false):=by rw [w2.old b1 (by omega)]; exact w1.at_
 have X2:Ext h.n h h2:=(w1.ext (Nat.le_refl _)).trans (w2.ext (by omega))
 rw [zd ze g1 (l:=vlC a) rfl,zd ze w2.at_ (l:=vlC b) rfl]
 refine (ras_ok a b ma h2).mono ?_
 rintro x h3 ⟨rfl,x3⟩
 have n3:=x3.n
 have hs:∀ (u v:Vl),spl (vlC u) 0 (vlC v)=some (vlC v):=fun u v=>by simp [vlC,spl]
 refine zC ze (by rw [x3.old b1 (by omega)]; exact g1) (x:=valV (zaP a b)) rfl rfl (hs _ _) fun h4 w4=>?_
 have n4:=w4.n
 have g2:h4.t.get b2=some (.cells (vlC b) 48 false):=by rw [w4.other b2 (by omega),x3.old b2 (by omega)]; exact w2.at_
 rw [zd ze g2 (l:=vlC b) rfl,zd ze w4.at_ (l:=vlC (zaP a b)) rfl]
 refine (ras_ok b (zaP a b) mb h4).mono ?_
 rintro x h5 ⟨rfl,x5⟩
 have n5:=x5.n
 rw [like_like a b mb]
 refine zC ze (by rw [x5.old b2 (by omega)]; exact g2) (x:=valV (zaP b a)) rfl rfl (hs _ _) fun h6 w6=>?_
 have n6:=w6.n
 have k1:h6.t.get b1=some (.cells (vlC (zaP a b)) 48 false):=by rw [w6.other b1 (by omega),x5.old b1 (by omega)]; exact w4.at_
 have k2:=w6.at_
 have X6:Ext h.n h h6:=⟨by omega,fun c hc=>by rw [w6.other c (by omega),x5.old c (by omega),w4.other c (by omega),x3.old c (by omega),X2.old c hc]⟩
 generalize zaP a b=A at k1 ⊢
 generalize zaP b a=B at k2 ⊢
 have neg1:ltP A B=true→(V.int .i64 (-1):V)=.int .i64 (if ltP A B then -1 else if A=B then 0 else 1):=fun q=>by rw [if_pos q]
 have rest:ltP A B=false→(Pu EE).load h6 48 (.ptr b1 0) fun x98=>(Pu EE).load h6 48 (.ptr b2 0) fun x99=>(Pu EE).bin .eql 48 false false x98 x99 fun x100=>(Pu EE).cond x100 (fun _=>(V.int .i64 0:V)=.int .i64 (if ltP A B then -1 else if A=B then 0 else 1)∧Ext h.n h h6) (fun _=>(V.int .i64 1:V)=.int .i64 (if ltP A B then -1 else if A=B then 0 else 1)∧Ext h.n h h6):=by
  intro q
  rw [zd ze k1 (l:=vlC A) rfl,zd ze k2 (l:=vlC B) rfl]
  rw [pu_valeq,zi,if_neg (by rw [q]; decide)]
  exact ⟨fun e=>by rw [if_pos e]; exact ⟨rfl,X6⟩,fun e=>by rw [if_neg e]; exact ⟨rfl,X6⟩⟩
 rw [zF,za zm k1 (v:=.int .i64 (A.k:Int)) rfl,zF,za zm k2 (v:=.int .i64 (B.k:Int)) rfl,zak]
 by_cases c1:A.k < B.k
 ·rw [decide_eq_true (by omega)]
  simp only [zaH,zch]
  rw [zB,zc]
  exact ⟨neg1 (by unfold ltP; rw [decide_eq_true c1]; rfl),X6⟩
 rw [decide_eq_false (by omega)]
 simp only [zu]
 rw [zF,za zm k1 (v:=.int .i64 (A.k:Int)) rfl,zF,za zm k2 (v:=.int .i64 (B.k:Int)) rfl,zcJ]
 by_cases c2:A.k=B.k
 ·rw [decide_eq_true (by omega)]
  simp only [zu]
  rw [zat,za zm k1 (v:=.int .i64 A.n) rfl,zat,za zm k2 (v:=.int .i64 B.n) rfl,zak]
  by_cases c3:A.n < B.n
  ·rw [decide_eq_true c3]
   simp only [zaH,zch]
   rw [zB,zB,zo,zc]
   exact ⟨neg1 (by unfold ltP; rw [decide_eq_true c2,decide_eq_true c3]; simp),X6⟩
  ·rw [decide_eq_false c3]
   simp only [zu]
   rw [zat,za zm k1 (v:=.int .i64 A.n) rfl,zat,za zm k2 (v:=.int .i64 B.n) rfl,zcJ]
   by_cases c4:A.n=B.n
   ·rw [decide_eq_true c4]
    simp only [zu]
    rw [zdq,za zL k1 (v:=.str A.s) rfl,zdq,za zL k2 (v:=.str B.s) rfl,pu_slss,zB,zo,zB,zo]
    cases c5:slt A.s B.s with
    | true=>
     rw [zc]
     exact ⟨neg1 (by unfold ltP; rw [decide_eq_true c2,decide_eq_true c4,c5]; simp),X6⟩
    | false=>
     rw [zb]
     exact rest (by unfold ltP; rw [decide_eq_false c1,decide_eq_false c3,c5]; simp)
   ·rw [decide_eq_false c4]
    simp only [zS,zch]
    rw [zo,zo,zB,zo,zb]
    exact rest (by unfold ltP; rw [decide_eq_false c1,decide_eq_false c3,decide_eq_false c4]; simp)
 ·rw [decide_eq_false (by omega)]
  simp only [zS,zch]
  rw [zo,zo,zb]
  exact rest (by unfold ltP; rw [decide_eq_false c1,decide_eq_false c2]; simp)
end
end Go.Proofs.YtbchdlelmkmagaaGreatDoor.VM
namespace Go.Proofs.YtbchdlelmkmagaaGreatDoor.VM
open Go
set_option linter.unusedVariables false
set_option linter.unusedSectionVars false
set_option linter.unusedSimpArgs false
set_option maxRecDepth 20000
noncomputable section
attribute [local instance] syZ
theorem like_parts {a b:Vl} (ma:MayV a):(zaP a b).k=(if a.k=0 then b.k else a.k)∧(zaP a b).n=a.n∧(zaP a b).s=a.s:=by
 unfold zaP
 split
 ·rename_i h
  exact ⟨rfl,(ma.n (by omega) (by omega) (by omega)).symm,(ma.s (by omega)).symm⟩
 ·exact ⟨rfl,rfl,rfl⟩
theorem order_gt {a b:Vl} (ma:MayV a) (mb:MayV b):decide ((0:Int) < (if ltP (zaP a b) (zaP b a) then -1 else if zaP a b=zaP b a then 0 else 1))=gtV a b:=by
 have ha:=like_parts (b:=b) ma
 have hb:=like_parts (b:=a) mb
 have hg:gtV a b=(decide ((zaP b a).k < (zaP a b).k) || (decide ((zaP b a).k=(zaP a b).k) && (decide ((zaP b a).n < (zaP a b).n) || (decide ((zaP b a).n=(zaP a b).n) && slt (zaP b a).s (zaP a b).s)))):=by
  rw [ha.1,ha.2.1,ha.2.2,hb.1,hb.2.1,hb.2.2]; rfl
 rw [hg]
 generalize zaP a b=A
 generalize zaP b a=B
 obtain ⟨ak,an,as_⟩:=A
 obtain ⟨bk,bn,bs⟩:=B
 unfold ltP
 simp only [Vl.mk.injEq]
 rcases (by omega:ak < bk∨ak=bk∨bk < ak) with h | h | h
 ·rw [decide_eq_true h,Bool.true_or,if_pos rfl,decide_eq_false (by omega:¬ bk < ak),decide_eq_false (by omega:¬ bk=ak)]; rfl
 ·subst h
  rw [decide_eq_false (Nat.lt_irrefl ak),decide_eq_true rfl,Bool.false_or,Bool.true_and]
  rcases (by omega:an < bn∨an=bn∨bn < an) with k | k | k
  ·rw [decide_eq_true k,Bool.true_or,if_pos rfl,decide_eq_false (by omega:¬ bn < an),decide_eq_false (by omega:¬ bn=an)]; rfl
  ·subst k
   rw [decide_eq_false (Int.lt_irrefl an),decide_eq_true rfl,Bool.false_or,Bool.true_and]
   rcases slt_tri as_ bs with q | q | q
   ·rw [q,slt_asym q,if_pos rfl]; rfl
   ·subst q
    rw [zhb,if_neg (by decide),if_pos ⟨rfl,rfl,rfl⟩]; rfl
   ·have e:slt as_ bs=false:=slt_asym q
    have hne:as_ ≠ bs:=fun z=>by subst z; rw [zhb] at q; cases q
    rw [e,q,if_neg (by decide),if_neg (fun z=>hne z.2.2)]; rfl
  ·rw [decide_eq_false (by omega:¬ an < bn),decide_eq_false (by omega:¬ an=bn),decide_eq_true k]
   rw [Bool.false_and,Bool.false_or,if_neg (by decide),if_neg (fun z=>by have:=z.2.1; omega)]; rfl
 ·rw [decide_eq_false (by omega:¬ ak < bk),decide_eq_false (by omega:¬ ak=bk),decide_eq_true h]
  rw [Bool.false_and,Bool.false_or,if_neg (by decide),if_neg (fun z=>by have:=z.1; omega)]; rfl
theorem rtwo_ok (k:Nat) (a b:Vl) (ma:MayV a) (mb:MayV b) (ho:TwoOK k a b) (h:Hp):Ans EE 89 [.int .i64 (k:Int),valV a,valV b] h fun x h'=>x=valV (twoS k a b)∧Ext h.n h h':=by
 apply a_r7_Two
 unfold t_r7_Two_0
 refine zdn a fun h1 b1 w1=>?_
 refine zdn b fun h2 b2 w2=>?_
 refine zq ze fun h3 b3 w3=>?_
 have n1:=w1.n
 have e1:=w1.b
 have n2:=w2.n
 have e2:=w2.b
 have n3:=w3.n
 have e3:=w3.b
 have hb1:h3.t.get b1=some (.cells (vlC a) 48 false):=by rw [w3.old b1 (by omega),w2.old b1 (by omega)]; exact w1.at_
 have hb2:h3.t.get b2=some (.cells (vlC b) 48 false):=by rw [w3.old b2 (by omega)]; exact w2.at_
 have xh:Ext h.n h h3:=⟨by omega,fun c hc=>by rw [w3.old c (by omega),w2.old c (by omega),w1.old c (by omega)]⟩
 have fin:∀ (h':Hp) (v:Vl),v=twoS k a b→Ext h3.n h3 h'→(Pu EE).store h' 48 (.ptr b3 0) (valV v) fun h58=>(Pu EE).load h58 48 (.ptr b3 0) fun x59=>x59=valV (twoS k a b)∧Ext h.n h h58:=by
  intro h' v e x'
  subst e
  have n':=x'.n
  refine retV ((x'.old b3 (by omega)).trans w3.at_) rfl _ fun h2 w=>⟨rfl,by have:=w.n; omega,fun c hc=>?_⟩
  rw [w.other c (by omega),x'.old c (by omega),xh.old c hc]
 rw [zF,za zm hb1 rfl,eqlK a.k 4 4 rfl]
 by_cases ha:a.k=4
 ·rw [decide_eq_true ha,zc,zd ze hb1 (l:=vlC a) rfl]
  exact fin h3 a (by unfold twoS; rw [if_pos ha]) (Ext.refl _ _)
 rw [decide_eq_false ha,zb,zF,za zm hb2 rfl,eqlK b.k 4 4 rfl]
 by_cases hb:b.k=4
 ·rw [decide_eq_true hb,zc,zd ze hb2 (l:=vlC b) rfl]
  exact fin h3 b (by unfold twoS; rw [if_neg ha,if_pos hb]) (Ext.refl _ _)
 rw [decide_eq_false hb,zb,eqlK k 15 15 rfl]
 by_cases k15:k=15
 ·subst k15
  rw [decide_eq_true rfl,zc,zd ze hb1 (l:=vlC a) rfl,zd ze hb2 (l:=vlC b) rfl]
  refine (rtext_ok a ma ha h3).mono ?_
  rintro z h4 ⟨rfl,x4⟩
  have hb2':h4.t.get b2=some (.cells (vlC b) 48 false):=by rw [x4.old b2 (by omega)]; exact hb2
  rw [zd ze hb2' (l:=vlC b) rfl]
  show (Pu EE).same (valV b) (valV b) _
  rw [zh7]
  refine (rtext_ok b mb hb h4).mono ?_
  rintro z h5 ⟨rfl,x5⟩
  have x35:=x4.trans (x5.mono x4.n)
  obtain ⟨i,hi1,hi2⟩:=zhD
  rw [pu_sadd _ _ _ _ _ (by have:=textV_len ma; have:=textV_len mb; omega),pu_slen _ i h5 hi1 hi2,show (200:Int)=((200:Nat):Int) from rfl,gtrN,zi]
  have h2':twoS 15 a b=vlT (textV a++textV b):=by unfold twoS; rw [if_neg ha,if_neg hb,if_pos rfl]
  refine ⟨fun hl=>?_,fun hl=>?_⟩
  ·refine (ziT 1 1 rfl h5).mono ?_
   rintro z h6 ⟨rfl,x6⟩
   exact fin h6 _ (by rw [h2']; unfold vlT; rw [if_neg (by omega)]) (x35.trans (x6.mono x35.n))
  ·rw [zaD za2 _ (fun p hp=>by
    simp only [List.mem_cons,List.not_mem_nil,or_false] at hp
    rcases hp with rfl | rfl
    ·exact zcU _ _
    ·exact c1_str _) rfl]
   exact fin h5 ⟨2,0,textV a++textV b⟩ (by rw [h2']; unfold vlT; rw [if_pos (by omega)]) x35
 rw [decide_eq_false k15,zb,pu_geq]
 rcases ho with rfl | h15 | ho
 ·rw [decide_eq_false (by decide)]
  simp only [zS]
  rw [zo,zb,zd ze hb1 (l:=vlC a) rfl,zd ze hb2 (l:=vlC b) rfl]
  refine (rcmpV_ok a b ma mb h3).mono ?_
  rintro z h4 ⟨rfl,x4⟩
  rw [eqlK 13 9 9 rfl,decide_eq_false (by decide),zb,eqlK 13 10 10 rfl,decide_eq_false (by decide),zb,eqlK 13 11 11 rfl,decide_eq_false (by decide),zb,eqlK 13 12 12 rfl,decide_eq_false (by decide),zb,eqlK 13 13 13 rfl,decide_eq_true rfl,zc,zgc,order_gt ma mb]
  refine (rtruth_ok _ h4).mono ?_
  rintro z h5 ⟨rfl,x5⟩
  exact fin h5 _ (by unfold twoS; rw [if_neg ha,if_neg hb,if_neg (by decide),if_pos rfl]) (x4.trans (x5.mono x4.n))
 ·exact absurd h15 k15
 ·have hk:16≤k∧k≤19:=by rcases ho with h | h | h <;> omega
  rw [decide_eq_true (by omega)]
  simp only [zu]
  rw [zhL,decide_eq_true (by omega),zB,zc,zd ze hb1 (l:=vlC a) rfl]
  refine (rint_ok a h3).mono ?_
  rintro z h4 ⟨rfl,x4⟩
  have n4:=x4.n
  have hb2':h4.t.get b2=some (.cells (vlC b) 48 false):=by rw [x4.old b2 (by omega)]; exact hb2
  rw [zao,zam,zd ze hb2' (l:=vlC b) rfl]
  refine (rint_ok b h4).mono ?_
  rintro z h5 ⟨rfl,x5⟩
  have x35:=x4.trans (x5.mono x4.n)
  rw [zao,zam,zaE]
  have hS:=twoS_num ho ha hb
  cases hx:intV a with
  | none=>
   simp only [Option.isSome_none,Bool.not_false,zaH]
   rw [zB,zc]
   refine (ziT 1 1 rfl h5).mono ?_
   rintro y h6 ⟨rfl,x6⟩
   exact fin h6 _ (by rw [hS]; unfold ziL; rw [hx]) (x35.trans (x6.mono x35.n))
  | some x=>
   simp only [Option.isSome_some,Bool.not_true,zu,Option.getD_some]
   cases hy:intV b with
   | none=>
    simp only [Option.isSome_none,zaE,Bool.not_false]
    rw [zo,zc]
    refine (ziT 1 1 rfl h5).mono ?_
    rintro y h6 ⟨rfl,x6⟩
    exact fin h6 _ (by rw [hS]; unfold ziL; rw [hx,hy]) (x35.trans (x6.mono x35.n))
   | some y=>
    simp only [Option.isSome_some,zaE,Bool.not_true,Option.getD_some]
    rw [zo,zb]
    have hrec:RecOK k x y:=by
     rcases ho with h | ⟨h,rfl⟩ | ⟨h,rfl,hb'⟩
     ·exact .inl h
     ·cases hy; exact .inr (.inl ⟨h,rfl⟩)
     ·cases hx
      refine .inr (.inr ⟨h,rfl,?_⟩)
      rcases hb' with rfl | rfl <;> cases hy
      ·exact .inl rfl
      ·exact .inr rfl
    refine (reckon_ok k (intV_fit ma hx) (intV_fit mb hy) hrec h5).mono ?_
    rintro z h6 ⟨rfl,x6⟩
    exact fin h6 _ (by rw [hS]; unfold ziL recS; rw [hx,hy]) (x35.trans (x6.mono x35.n))
end
end Go.Proofs.YtbchdlelmkmagaaGreatDoor.VM
namespace Go.Proofs.YtbchdlelmkmagaaGreatDoor.VM
open Go
set_option linter.unusedVariables false
set_option linter.unusedSectionVars false
set_option linter.unusedSimpArgs false
set_option maxRecDepth 20000
noncomputable section
attribute [local instance] syZ
theorem arg_val {h:Hp} {u:V} {ws:List V} {l:List Vl} (a:ArgN h u ws l) {i:Nat} {x:Vl} (hx:l[i]? = some x) (z:Int) (hz:z=(i:Int)) {K:V→Prop} (hk:K (valV x)):
  (Pu EE).iaddr 131 u (.int .i64 z) fun x4=>(Pu EE).faddr 133 x4 2 fun x5=>(Pu EE).load h 39 x5 fun x6=>(Pu EE).iaddr 39 x6 (.int .i64 0) fun x7=>(Pu EE).load h 48 x7 K:=by
 subst hz
 obtain ⟨w,b,o,vs,f,ro,g1,g2,g3,g4,g5,g6,g7⟩:=a.get hx
 rw [g4,zaw,za zN g6 g7]
 obtain ⟨b',o',k1,k2,_⟩:=rd_val (l:=[x]) g2 (i:=0) (x:=x) rfl
 have k1':=k1 .i64
 rw [show ((0:Nat):Int)=0 from rfl] at k1'
 rw [k1',k2]
 exact hk
theorem rchoose_ok {h:Hp} {u:V} {ws:List V} {x y z:Vl} (a:ArgN h u ws [x,y,z]):Ans EE 131 [u] h fun v h'=>v=valV (ifS x y z)∧Ext h.n h h':=by
 apply a_r7_choose
 unfold zij
 refine zq ze fun h1 b1 w1=>?_
 have n1:=w1.n
 have e1:=w1.b
 have X1:=w1.ext (Nat.le_refl h.n)
 refine arg_val (a.ext X1) (i:=0) (x:=x) rfl 0 rfl ?_
 refine vbox x fun h2 b2 w2=>?_
 have n2:=w2.n
 have e2:=w2.b
 have X2:Ext h.n h h2:=X1.trans (w2.ext (by omega))
 have fin:∀ (h':Hp) (v:Vl),v=ifS x y z→Ext h2.n h2 h'→(Pu EE).store h' 48 (.ptr b1 0) (valV v) fun h58=>(Pu EE).load h58 48 (.ptr b1 0) fun x59=>x59=valV (ifS x y z)∧Ext h.n h h58:=by
  intro h' v e x'
  subst e
  have n':=x'.n
  refine retV (by rw [x'.old b1 (by omega),w2.old b1 (by omega)]; exact w1.at_) rfl _ fun h3 w=>⟨rfl,by have:=w.n; omega,fun c hc=>?_⟩
  rw [w.other c (by omega),x'.old c (by omega),X2.old c hc]
 rw [zF,za zm w2.at_ rfl,eqlK x.k 4 4 rfl]
 by_cases hk:x.k=4
 ·rw [decide_eq_true hk,zc,zd ze w2.at_ (l:=vlC x) rfl]
  exact fin h2 x (by unfold ifS; rw [if_pos hk]) (Ext.refl _ _)
 rw [decide_eq_false hk,zb,zd ze w2.at_ (l:=vlC x) rfl]
 refine (rtr_ok x h2).mono ?_
 rintro v h3 ⟨rfl,x3⟩
 have n3:=x3.n
 have X3:Ext h.n h h3:=X2.trans (x3.mono (by omega))
 have a3:=a.ext X3
 rw [zao,zam,zaE]
 cases ht:ziB x with
 | none=>
  rw [Option.isSome_none,Bool.not_false,zc]
  refine (ziT 1 1 rfl h3).mono ?_
  rintro v h6 ⟨rfl,x6⟩
  exact fin h6 _ (by unfold ifS; rw [if_neg hk,ht]) (x3.trans (x6.mono n3))
 | some t=>
  rw [Option.isSome_some,Bool.not_true,zb,Option.getD_some]
  cases t with
  | true=>
   rw [zc]
   refine arg_val a3 (i:=1) (x:=y) rfl 1 rfl ?_
   exact fin h3 y (by unfold ifS; rw [if_neg hk,ht]) x3
  | false=>
   have hl3:ws.length=3:=a.len
   rw [zb,zp a3.ru zQ,eqlK ws.length 3 3 rfl,decide_eq_true hl3,zc]
   refine arg_val a3 (i:=2) (x:=z) rfl 2 rfl ?_
   exact fin h3 z (by unfold ifS; rw [if_neg hk,ht]) x3
theorem ArgG.get2 {h:Hp} {u:V} {al:List AD} (a:ArgG h u al) {i:Nat} {d:AD} (hd:al[i]? = some d):
  ∃ b o vs f ro,(∀ (k:IntKind) (q:V→Prop),(Pu EE).iaddr 131 u (.int k i) q↔q (.ptr b o))∧h.t.get b=some (.cells vs f ro)∧vs[o]? = some (.bool d.rg)∧vs[o+2]? = some d.w∧b < h.n:=by
 obtain ⟨b,o,h1,h2,h3,vs,f,ro,h4,h5,h6⟩:=zfT a.ru zQ zau (by omega) (List.getElem?_eq_some_iff.1 hd).1 (agCs_at al i d hd)
 exact ⟨b,o,vs,f,ro,h1,h4,h6 0 _ rfl,h6 2 _ rfl,a.iu b h3⟩
theorem first_loop2 {h:Hp} {u:V} {d:AD} (A:ArgG h u [d]) {b2:Nat} {cs:List V} (hb2:h.t.get b2=some (.cells cs 48 false)) (hl:cs.length=3) (hlen:d.l.length≤1000000) {Q:QQ}
  (hq:∀ e,d.l.find? isEv=some e→∀ h',Wr h h' b2 (.cells (vlC e) 48 false)→Q (valV e) h') (hn:d.l.find? isEv=none→L_r7_first_1 Q u (.ptr b2 0) (.int .i64 ((1:Nat):Int)) h):
  ∀ m i,d.l.length - i≤m→i≤d.l.length→d.l.find? isEv=(d.l.drop i).find? isEv→L_r7_first_2 Q u (.ptr b2 0) (.int .i64 ((0:Nat):Int)) (.int .i64 (i:Int)) h:=by
 obtain ⟨b,o,vs,f,ro,g1,g2,g3,g4,_⟩:=A.get2 (i:=0) (d:=d) rfl
 obtain ⟨hr,hin⟩:=A.at_ 0 d rfl
 intro m
 induction m with
 | zero=>
  intro i hm hi hf
  have:i=d.l.length:=by omega
  subst this
  rw [List.drop_length] at hf
  apply r_r7_first_2
  unfold zgM
  rw [g1,zaw,za zN g2 g4,zp hr zM,zak,decide_eq_false (by omega),zb,zK _ _ _ _ (by omega)]
  exact hn hf
 | succ m ih=>
  intro i hm hi hf
  apply r_r7_first_2
  unfold zgM
  rw [g1,zaw,za zN g2 g4,zp hr zM,zak]
  by_cases hil:i < d.l.length
  ·obtain ⟨y,hy⟩:∃ y,d.l[i]? = some y:=⟨d.l[i],List.getElem?_eq_getElem hil⟩
   obtain ⟨c,of,k1,k2,_⟩:=rd_val hr hy
   obtain ⟨c2,of2,k3,k4,k5,vs2,f2,ro2,k6,k7,k8⟩:=zfT hr zM ze (by omega) hil (vlCs_at d.l i y hy)
   have hd:d.l.drop i=y::d.l.drop (i+1):=by
    rw [List.drop_eq_getElem_cons hil]
    rw [List.getElem?_eq_getElem hil] at hy
    cases hy; rfl
   rw [decide_eq_true (by omega),zc,g1,zaw,za zN g2 g4,k3,zF,za zm k6 (k8 0 (.int .i64 (y.k:Int)) rfl),eqlK y.k 4 4 rfl]
   by_cases hk:y.k=4
   ·rw [decide_eq_true hk,zc,g1,zaw,za zN g2 g4,k1,k2]
    refine retV hb2 hl y fun h2 w2=>hq y ?_ h2 w2
    rw [hf,hd,List.find?_cons_of_pos (by unfold isEv; rw [decide_eq_true hk])]
   ·rw [decide_eq_false hk,zb,zK _ _ _ _ (by omega)]
    refine ih (i+1) (by omega) (by omega) ?_
    rw [hf,hd,List.find?_cons_of_neg (by unfold isEv; rw [decide_eq_false hk]; simp)]
  ·have:i=d.l.length:=by omega
   subst this
   rw [List.drop_length] at hf
   rw [decide_eq_false (by omega),zb,zK _ _ _ _ (by omega)]
   exact hn hf
theorem rfirst_ok {h:Hp} {u:V} {d:AD} (A:ArgG h u [d]) (hlen:d.l.length≤1000000):Ans EE 133 [u] h fun x h'=>x=valV ((d.l.find? isEv).getD vl0)∧Ext h.n h h':=by
 apply a_r7_first
 unfold zju
 refine zq ze fun h1 b1 w1=>?_
 have n1:=w1.n
 have e1:=w1.b
 have X1:=w1.ext (Nat.le_refl h.n)
 have A1:=A.ext X1
 apply r_r7_first_1
 unfold zgz
 rw [zp A1.ru zQ]
 rw [show (([d]:List AD).length:Int)=1 from rfl,zak,decide_eq_true (by decide),zc]
 refine first_loop2 A1 w1.at_ rfl hlen (fun e he h2 w2=>⟨by rw [he]; rfl,by rw [w2.n]; omega,fun c hc=>by rw [w2.other c (by omega),w1.old c hc]⟩) (fun hn=>?_) d.l.length 0 (by omega) (by omega) rfl
 apply r_r7_first_1
 unfold zgz
 rw [zp A1.ru zQ]
 rw [show (([d]:List AD).length:Int)=1 from rfl,zak,decide_eq_false (by decide),zb,zaD za2 _ (fun p hp=>by cases hp) rfl,hn]
 exact outV vl0 w1 fun h' x=>⟨rfl,x⟩
end
end Go.Proofs.YtbchdlelmkmagaaGreatDoor.VM
