/- CmVf CmA5 CmVg CmMw Open -/
import Derived.ProofKit
import Derived.Test.YtbchdlelmkmagaaGreatDoorMg15
namespace Go.Proofs.YtbchdlelmkmagaaGreatDoor.VM
open Go
set_option linter.unusedVariables false
set_option linter.unusedSectionVars false
set_option linter.unusedSimpArgs false
set_option maxRecDepth 20000
noncomputable section
attribute [local instance] syZ
section
variable {bk:Bok} {M N b1:Nat} {sv gv ov cv:V} {B:Nat→Nat→Nat} {sp:Nat→Prop} {O C:List Spt} {h0:Hp} (Q:V→Hp→Prop)
theorem rcyc_loop4 {g0:Grd} (gd:Good bk) (hl:bk.length < 1000000) (hC:∀ s ∈ C,s ∈ zJ bk) (hCl:C.length < 1000000)
  (hq:∀ h',VS bk M N b1 sv gv B sp (cycG bk C g0) h'→OwnS 0 h' ov O→Ext N h0 h'→zhR Q (.ptr b1 0) gv ov (.int .i64 0) h'):
  ∀ (j i:Nat),C.length - i=j→i≤C.length→∀ h:Hp,VS bk M N b1 sv gv B sp (cycG bk (C.take i) g0) h→OwnS 0 h ov O→OwnS 0 h cv C→Ext N h0 h→L_r7_Values_4 Q (.ptr b1 0) gv ov cv (.int .i64 i) h:=by
 intro j
 induction j with
 | zero=>
  intro i hj hi h a oO oC x
  obtain rfl:i=C.length:=by omega
  rw [List.take_of_length_le (Nat.le_refl _)] at a
  apply r_r7_Values_4
  unfold zfF
  rw [zp oC.sps zg,zr,decide_eq_false (by omega:¬ C.length < C.length),zb]
  exact hq h a oO x
 | succ j ih=>
  intro i hj hi h a oO oC x
  have hii:i < C.length:=by omega
  obtain ⟨s,hs⟩:∃ s,C[i]? = some s:=⟨_,List.getElem?_eq_getElem hii⟩
  obtain ⟨i0,t,row,k1,k2,k3,k4,k5⟩:=at_spot gd.ris (hC s (List.mem_of_getElem? hs))
  obtain ⟨vr,hat,hvl⟩:=a.fits.at2 k2 k4
  obtain ⟨b2,o2,m1,_,m3,vs,f,ro,m4,_,m5⟩:=zaT oC.sps zg zf hs
  have lb2:b2 < h.n:=oC.in_ b2 m3
  apply r_r7_Values_4
  unfold zfF
  rw [zp oC.sps zg,zr,decide_eq_true hii,zc,zd zy a.box (l:=[sv]) rfl,m1,z8,za zL m4 (m5 0 (.str s.s) rfl),m1,zae,za zm m4 (m5 1 (.int .i64 s.r) rfl),m1,zac,za zm m4 (m5 2 (.int .i64 s.c) rfl)]
  refine (rfind_ok M h _ bk s.s ⟨sv,rfl,a.sh⟩ (Nat.le_trans a.mN a.nh) hl).mono ?_
  rintro y h16 ⟨rfl,x16⟩
  have n16:=x16.n
  have hb16:h16.t.get b2=some (.cells vs f ro):=(x16.old b2 lb2).trans m4
  have a16:=a.keep x16
  obtain ⟨q1,q2,q3,q4,q5,q6,l1,l2,l3,l4,l5,l6,l7,l8,l9,⟨_,_,r1⟩,⟨_,_,r2⟩,⟨_,_,r3⟩,_,_⟩:=a16.gr.row2 hat
  rw [za zm hb16 (m5 2 (.int .i64 s.c) rfl),zab,za zm hb16 (m5 1 (.int .i64 s.r) rfl),zab,findZ_at k1,l1,l2,l3,l4]
  refine (ziT 6 6 rfl h16).mono ?_
  rintro y h24 ⟨rfl,x24⟩
  have n24:=x24.n
  have hb24:h24.t.get b2=some (.cells vs f ro):=(x24.old b2 (by omega)).trans hb16
  have a24:=a16.keep x24
  rw [zaF (x24.old _ l8),l4,zbt r3,zaF (x24.old _ l7),l2,zbt r2,za zm hb24 (m5 2 (.int .i64 s.c) rfl),zab,za zm hb24 (m5 1 (.int .i64 s.r) rfl),zab,zcT l5 (by omega)]
  have X24:Ext h.n h h24:=x16.trans (x24.mono (by omega))
  refine a24.set hat (by omega) may6 (oO.keep (by omega) fun b hb=>X24.old b (oO.in_ b hb)) (oC.keep (by omega) fun b hb=>X24.old b (oC.in_ b hb)) fun h30 a30 oO30 oC30 n30 _ f30=>?_
  rw [zK _ _ _ _ (by omega)]
  refine ih (i+1) (by omega) (by omega) h30 ?_ oO30 oC30 ?_
  ·rw [cycG_snoc hs,putS_at k1]; exact a30
  ·exact x.trans ((X24.mono a.nh).trans ⟨by omega,f30⟩)
theorem rord_loop5 {g0:Grd} (gd:Good bk) (tx:TextsIn bk) (hl:bk.length < 1000000) (hco:zbQ bk) (hO:∀ s ∈ O,s ∈ zt bk) (hOl:O.length < 1000000)
  (hq:∀ h',VS bk M N b1 sv gv B sp (ordG bk O g0) h'→Ext N h0 h'→Q gv h'):
  ∀ (j i:Nat),O.length - i=j→i≤O.length→∀ h:Hp,VS bk M N b1 sv gv B sp (ordG bk (O.take i) g0) h→OwnS 0 h ov O→Ext N h0 h→zhR Q (.ptr b1 0) gv ov (.int .i64 i) h:=by
 intro j
 induction j with
 | zero=>
  intro i hj hi h a oO x
  obtain rfl:i=O.length:=by omega
  rw [List.take_of_length_le (Nat.le_refl _)] at a
  apply r_r7_Values_5
  unfold zfC
  rw [zp oO.sps zg,zr,decide_eq_false (by omega:¬ O.length < O.length),zb]
  exact hq h a x
 | succ j ih=>
  intro i hj hi h a oO x
  have hii:i < O.length:=by omega
  obtain ⟨s,hs⟩:∃ s,O[i]? = some s:=⟨_,List.getElem?_eq_getElem hii⟩
  have hsF:=hO s (List.mem_of_getElem? hs)
  obtain ⟨i0,t,row,k1,k2,k3,k4,k5⟩:=at_spot gd.ris (zhm hsF).1
  obtain ⟨ns,hns⟩:=fCells_nks hsF
  have htx:=getC_in tx s
  have hnL:ns ∈ ziA:=List.mem_filterMap.2 ⟨_,htx,hns⟩
  obtain ⟨vr,hat,hvl⟩:=a.fits.at2 k2 k4
  obtain ⟨b2,o2,m1,m2,_⟩:=zaT oO.sps zg zf hs
  apply r_r7_Values_5
  unfold zfC
  rw [zp oO.sps zg,zr,decide_eq_true hii,zc,m1,m2]
  refine zq zf fun h5 b6 w5=>?_
  have n5:=w5.n
  have e5:=w5.b
  refine zC zf w5.at_ (x:=spV s) rfl rfl (r:=spC s) rfl fun h7 w7=>?_
  have n7:=w7.n
  have X7:Ext h.n h h7:=⟨by omega,fun c hc=>by rw [w7.other c (by omega),w5.old c hc]⟩
  have a7:=a.keep X7
  rw [zd zy a7.box (l:=[sv]) rfl,zd zf w7.at_ (l:=spC s) rfl]
  refine (rget_ok M h7 _ bk s ⟨sv,rfl,a7.sh⟩ (Nat.le_trans a7.mN a7.nh) hl).mono ?_
  rintro y h11 ⟨rfl,x11⟩
  have n11:=x11.n
  refine (form_okB hook_R htx h11).mono ?_
  rintro y h13 ⟨x13,hf⟩
  rw [hns] at hf
  obtain ⟨rfl,nb,nn⟩:=hf
  have n13:=x13.n
  have hb13:h13.t.get b6=some (.cells (spC s) 42 false):=by rw [x13.old b6 (by omega),x11.old b6 (by omega)]; exact w7.at_
  have a13:=(a7.keep x11).keep x13
  obtain ⟨_,hrs⟩:=a13.sh.rd
  rw [zao,zam,zd zy a13.box (l:=[sv]) rfl,z8,za zL hb13 (v:=.str s.s) rfl,zae,za zm hb13 (v:=.int .i64 s.r) rfl,zac,za zm hb13 (v:=.int .i64 s.c) rfl,z8,za zL hb13 (v:=.str s.s) rfl,zd zy a13.box (l:=[sv]) rfl]
  refine (rfind_ok M h13 _ bk s.s ⟨sv,rfl,a13.sh⟩ (Nat.le_trans a13.mN a13.nh) hl).mono ?_
  rintro y h27 ⟨rfl,x27⟩
  have n27:=x27.n
  have hb27:h27.t.get b6=some (.cells (spC s) 42 false):=(x27.old b6 (by omega)).trans hb13
  have a27:=a13.keep x27
  obtain ⟨q1,q2,q3,q4,q5,q6,l1,l2,l3,l4,l5,l6,l7,l8,l9,⟨_,_,r1⟩,⟨_,_,r2⟩,⟨_,_,r3⟩,_,_⟩:=a27.gr.row2 hat
  rw [zd zy a27.box (l:=[sv]) rfl,same_bk hrs,za zL hb27 (v:=.str s.s) rfl,same_str1,za zm hb27 (v:=.int .i64 s.c) rfl,zab,za zm hb27 (v:=.int .i64 s.r) rfl,zab,findZ_at k1,l1,l2,l3,l4]
  have cx:NCx M h11.n ns sv gv bk (ordG bk (O.take i) g0) h27:=⟨a27.ev hl,(NdC.mk nb nn).ext x27⟩
  have hm:=may_evS s.s hnL hco cx
  refine (reval_ok s.s hnL hco cx).mono ?_
  rintro y h37 ⟨rfl,x37⟩
  have n37:=x37.n
  have hb37:h37.t.get b6=some (.cells (spC s) 42 false):=(x37.old b6 (by omega)).trans hb27
  have a37:=a27.keep x37
  rw [zaF (x37.old _ l8),l4,zbt r3,zaF (x37.old _ l7),l2,zbt r2,za zm hb37 (v:=.int .i64 s.c) rfl,zab,za zm hb37 (v:=.int .i64 s.r) rfl,zab,zcT l5 (by omega)]
  have X37:Ext h.n h h37:=X7.trans ((x11.mono (by omega)).trans ((x13.mono (by omega)).trans ((x27.mono (by omega)).trans (x37.mono (by omega)))))
  have o37:OwnS 0 h37 ov O:=oO.keep (by omega) fun b hb=>X37.old b (oO.in_ b hb)
  refine a37.set hat (by omega) hm o37 o37 fun h43 a43 oO43 _ n43 _ f43=>?_
  rw [zK _ _ _ _ (by omega)]
  refine ih (i+1) (by omega) (by omega) h43 ?_ oO43 ?_
  ·rw [ordG_snoc hs,putS_at k1]
   unfold evF
   rw [hns]
   exact a43
  ·exact x.trans ((X37.mono a.nh).trans ⟨by omega,f43⟩)
end
theorem rvalues_ok (M:Nat) (h:Hp) (sv:V) (bk:Bok) (hs:zdB M h sv bk) (hM:M≤h.n) (gd:Good bk) (sm:Sm bk) (hco:zbQ bk):Ans EE 9 [.agg [sv]] h (ValsPost bk h):=by
 obtain ⟨cs,hrd⟩:=hs.rd
 have cS:=hrd.c1
 have hS:=sm.len
 have hFl:=zcE gd
 apply a_r7_Values
 unfold zhU
 refine zW (cs:=[sv]) (by simp [zh,cS.2]) fun h2 b1 w2=>?_
 have n2:=w2.n
 have e2:=w2.b
 have hs2:=hs.ext (w2.ext hM)
 refine rsheet_loop1 _ (M:=M) sm w2.at_ (by omega) hs2 (by omega) (fun h1 v3 ws B sp o hG hne x1=>?_) bk.length 0 (by omega) (Nat.zero_le _) h2 .nils [] (fun _ _=>0) (fun _=>False) (Own.nil _ _ _ _) (by rw [List.take_zero]; exact GrO.nil _ _ _ _ _) (fun c hc=>by cases hc) (Ext.refl _ _)
 have n1:=x1.n
 have hpl:(zbg bk).length=bk.length:=by unfold zbg; rw [List.length_map]
 have hGG:GridG h2.n h1 v3 (zbg bk) B (fun b=>sp b∨zI v3=some b):=hG.grid (by rw [hpl]; exact o.rd) (Nat.le_refl _) fun b hb=>⟨o.in_ b hb,(hne b hb).2⟩
 have hb1:h1.t.get b1=some (.cells [sv] 26 false):=(x1.old b1 (by omega)).trans w2.at_
 have hs1:zdB M h1 sv bk:=hs2.ext (x1.mono (by omega))
 have V1:VS bk M h2.n b1 sv v3 B _ (zbg bk) h1:=⟨hb1,by omega,hs1,hGG,by omega,n1,Fits2.plain bk,MayG.plain sm.txt⟩
 apply r_r7_Values_1
 unfold zfz
 rw [zw,za zk hb1 (v:=sv) rfl,zp hrd zl,zr,decide_eq_false (by omega:¬ bk.length < bk.length),zb,zd zy hb1 (l:=[sv]) rfl]
 refine (rorder_own M h1 _ bk ⟨sv,rfl,hs1⟩ (by omega) gd).mono ?_
 rintro y h21 ⟨ov,cv,rfl,oO,oC,x21⟩
 have n21:=x21.n
 rw [zao,zam]
 have V21:=V1.keep x21
 have hlens:(ordL bk).length+(cycL bk).length≤100000:=by
  have:=(zgd (nd:=ndR bk) (zt bk).length (zt bk) (Nat.le_refl _)).length_eq
  rw [List.length_append] at this
  unfold ordL cycL
  omega
 have XA:Ext h.n h h21:=(w2.ext (Nat.le_refl _)).trans ((x1.mono (by omega)).trans (x21.mono (by omega)))
 refine rcyc_loop4 (h0:=h21) _ (C:=cycL bk) (O:=ordL bk) gd (by omega) (fun s hs=>(zhm (cycL_in hs)).1) (by omega) (fun h' V' o' x'=>?_) (cycL bk).length 0 (by omega) (Nat.zero_le _) h21 V21 oO oC (Ext.refl _ _)
 refine rord_loop5 (h0:=h21) _ (O:=ordL bk) gd sm.txt (by omega) hco (fun s hs=>ordL_in hs) (by omega) (fun h'' V'' x''=>?_) (ordL bk).length 0 (by omega) (Nat.zero_le _) h' V' o' x'
 exact ⟨_,_,_,by omega,V''.nh,V''.gr,V''.fits,V''.may,XA.trans (x''.mono (by omega))⟩
end
end Go.Proofs.YtbchdlelmkmagaaGreatDoor.VM
namespace Go.Proofs.YtbchdlelmkmagaaGreatDoor.VM
open Go
set_option linter.unusedVariables false
set_option maxRecDepth 100000
noncomputable section
noncomputable def c_r7_SameVals:Code:=match Tryz.f7.body with | some c=>c | none=>.skip
noncomputable def zaK:Fl:=⟨Tryz.f7,c_r7_SameVals,[([false,true,false,true,true],[0,1,5]),([false,true,true,false,false,true,false,false,true,false,true,true],[0,1,5,6]),([false,true,true,false,false,true,false,false,true,true,false,false,true,false,false,true,false,true,true],[0,1,5,6,7])]⟩
abbrev zgm (Q:QQ) (v0 v1 v5:V) (h:Hp):Prop:=zaK.L EE Q 1 [v0,v1,v5] h
abbrev zgq (Q:QQ) (v0 v1 v5 v6:V) (h:Hp):Prop:=zaK.L EE Q 2 [v0,v1,v5,v6] h
abbrev ziY (Q:QQ) (v0 v1 v5 v6 v7:V) (h:Hp):Prop:=zaK.L EE Q 3 [v0,v1,v5,v6,v7] h
noncomputable def zfZ (p:Pr) (l:LL) (Q:QQ) (v0 v1:V) (h:Hp):Prop:=
 p.lbui h #[29] .len [v0] fun x1=>
 p.lbui h #[29] .len [v1] fun x2=>
 p.bin .neq 3 false false x1 x2 fun x3=>
 p.cond x3
 (fun _=>
  Q (.bool false) h)
 (fun _=>
  l 1 [v0,v1,(.int .i64 0)] h)
theorem q_r7_SameVals_0 (p:Pr) (l:LL) (Q:QQ) (v0 v1:V) (h:Hp):zfZ p l Q v0 v1 h=zaK.K p EE l Q [] ([v0,v1]++List.replicate 87 zj) h:=by kernel_rfl
theorem a_r7_SameVals {Q:QQ} {v0 v1:V} {h:Hp} (H:zfZ (Pu EE) (zaK.L EE Q) Q v0 v1 h):Ans EE 7 [v0,v1] h Q:=
 ansL (F:=zaK) (by kernel_rfl) (by kernel_rfl) (by kernel_rfl) (by kernel_rfl) (cast (q_r7_SameVals_0 _ _ _ v0 v1 h) H)
noncomputable def zdT (p:Pr) (l:LL) (Q:QQ) (v0 v1 v5:V) (h:Hp):Prop:=
 p.lbui h #[29] .len [v0] fun x1=>
 p.bin .lss 3 false false v5 x1 fun x2=>
 p.cond x2
 (fun _=>
  p.iaddr 29 v0 v5 fun x3=>
  p.load h 35 x3 fun x4=>
  p.lbui h #[35] .len [x4] fun x5=>
  p.iaddr 29 v1 v5 fun x6=>
  p.load h 35 x6 fun x7=>
  p.lbui h #[35] .len [x7] fun x8=>
  p.bin .neq 3 false false x5 x8 fun x9=>
  p.cond x9
  (fun _=>
  Q (.bool false) h)
  (fun _=>
  l 2 [v0,v1,v5,(.int .i64 0)] h))
 (fun _=>
  Q (.bool true) h)
theorem q_r7_SameVals_1 (p:Pr) (l:LL) (Q:QQ) (s:List V) (h:Hp):zdT p l Q (nth s 0) (nth s 1) (nth s 5) h=zaK.K p EE l Q [true,true,false,true,false] (nths s 89 0) h:=by kernel_rfl
theorem zjE {Q:QQ} {v0 v1 v5:V} {h:Hp} (H:zdT (Pu EE) (zaK.L EE Q) Q v0 v1 v5 h):zgm Q v0 v1 v5 h:=
 labR (path:=[true,true,false,true,false]) rfl rfl fun s e=>by cases e; exact cast (q_r7_SameVals_1 _ _ _ s h) H
noncomputable def zeb (p:Pr) (l:LL) (Q:QQ) (v0 v1 v5 v6:V) (h:Hp):Prop:=
 p.iaddr 29 v0 v5 fun x1=>
 p.load h 35 x1 fun x2=>
 p.lbui h #[35] .len [x2] fun x3=>
 p.bin .lss 3 false false v6 x3 fun x4=>
 p.cond x4
 (fun _=>
  p.iaddr 29 v0 v5 fun x5=>
  p.load h 35 x5 fun x6=>
  p.iaddr 35 x6 v6 fun x7=>
  p.load h 39 x7 fun x8=>
  p.lbui h #[39] .len [x8] fun x9=>
  p.iaddr 29 v1 v5 fun x10=>
  p.load h 35 x10 fun x11=>
  p.iaddr 35 x11 v6 fun x12=>
  p.load h 39 x12 fun x13=>
  p.lbui h #[39] .len [x13] fun x14=>
  p.bin .neq 3 false false x9 x14 fun x15=>
  p.cond x15
  (fun _=>
  Q (.bool false) h)
  (fun _=>
  l 3 [v0,v1,v5,v6,(.int .i64 0)] h))
 (fun _=>
  p.bin .add 3 false true v5 (.int .i64 1) fun x16=>
  l 1 [v0,v1,x16] h)
theorem q_r7_SameVals_2 (p:Pr) (l:LL) (Q:QQ) (s:List V) (h:Hp):zeb p l Q (nth s 0) (nth s 1) (nth s 5) (nth s 6) h=zaK.K p EE l Q [true,true,false,true,false,false,true,false,false,true,true,false] (nths s 89 0) h:=by kernel_rfl
theorem zjf {Q:QQ} {v0 v1 v5 v6:V} {h:Hp} (H:zeb (Pu EE) (zaK.L EE Q) Q v0 v1 v5 v6 h):zgq Q v0 v1 v5 v6 h:=
 labR (path:=[true,true,false,true,false,false,true,false,false,true,true,false]) rfl rfl fun s e=>by cases e; exact cast (q_r7_SameVals_2 _ _ _ s h) H
noncomputable def zee (p:Pr) (l:LL) (Q:QQ) (v0 v1 v5 v6 v7:V) (h:Hp):Prop:=
 p.iaddr 29 v0 v5 fun x1=>
 p.load h 35 x1 fun x2=>
 p.iaddr 35 x2 v6 fun x3=>
 p.load h 39 x3 fun x4=>
 p.lbui h #[39] .len [x4] fun x5=>
 p.bin .lss 3 false false v7 x5 fun x6=>
 p.cond x6
 (fun _=>
  p.iaddr 29 v0 v5 fun x7=>
  p.load h 35 x7 fun x8=>
  p.iaddr 35 x8 v6 fun x9=>
  p.load h 39 x9 fun x10=>
  p.iaddr 39 x10 v7 fun x11=>
  p.load h 48 x11 fun x12=>
  p.iaddr 29 v1 v5 fun x13=>
  p.load h 35 x13 fun x14=>
  p.iaddr 35 x14 v6 fun x15=>
  p.load h 39 x15 fun x16=>
  p.iaddr 39 x16 v7 fun x17=>
  p.load h 48 x17 fun x18=>
  p.bin .neq 48 false false x12 x18 fun x19=>
  p.cond x19
  (fun _=>
  Q (.bool false) h)
  (fun _=>
  p.bin .add 3 false true v7 (.int .i64 1) fun x20=>
  l 3 [v0,v1,v5,v6,x20] h))
 (fun _=>
  p.bin .add 3 false true v6 (.int .i64 1) fun x21=>
  l 2 [v0,v1,v5,x21] h)
theorem q_r7_SameVals_3 (p:Pr) (l:LL) (Q:QQ) (s:List V) (h:Hp):zee p l Q (nth s 0) (nth s 1) (nth s 5) (nth s 6) (nth s 7) h=zaK.K p EE l Q [true,true,false,true,false,false,true,false,false,true,true,false,false,true,false,false,true,true,false] (nths s 89 0) h:=by kernel_rfl
theorem zjR {Q:QQ} {v0 v1 v5 v6 v7:V} {h:Hp} (H:zee (Pu EE) (zaK.L EE Q) Q v0 v1 v5 v6 v7 h):ziY Q v0 v1 v5 v6 v7 h:=
 labR (path:=[true,true,false,true,false,false,true,false,false,true,true,false,false,true,false,false,true,true,false]) rfl rfl fun s e=>by cases e; exact cast (q_r7_SameVals_3 _ _ _ s h) H
noncomputable def c_law14_CalcMade:Code:=match Tryz.f3.body with | some c=>c | none=>.skip
noncomputable def zfl:Fl:=⟨Tryz.f3,c_law14_CalcMade,[]⟩
noncomputable def zdA (p:Pr) (l:LL) (Q:QQ) (v0 v1:V) (h:Hp):Prop:=
 p.lbui h #[22] .len [v0] fun x1=>
 p.bin .gtr 3 false true x1 (.int .i64 80) fun x2=>
 p.cond x2
 (fun _=>
  p.call 5 [] h fun x3 h4=>
  Q x3 h4)
 (fun _=>
  p.call 6 [v0,v1] h fun x5 h6=>
  p.alloc h6 26 fun x7 h8 b9=>
  p.store h8 26 x7 x5 fun h10=>
  p.load h10 26 x7 fun x11=>
  p.load h10 26 x7 fun x12=>
  p.call 8 [x11] h10 fun x13 h14=>
  p.load h14 26 x7 fun x15=>
  p.same x15 x12 (
  p.call 9 [x12] h14 fun x16 h17=>
  p.call 7 [x13,x16] h17 fun x18 h19=>
  p.geff x18 true (fun k20=>
  p.call 5 [] h19 fun x21 h22=>
  k20 x21 h22) h19 fun x23 h24=>
  p.pick x18 (some x23) (some (.bool false)) fun x25=>
  Q x25 h24))
theorem q_law14_CalcMade_0 (p:Pr) (l:LL) (Q:QQ) (v0 v1:V) (h:Hp):zdA p l Q v0 v1 h=zfl.K p EE l Q [] ([v0,v1]++List.replicate 19 zj) h:=by kernel_rfl
theorem a_law14_CalcMade {Q:QQ} {v0 v1:V} {h:Hp} (H:zdA (Pu EE) (zfl.L EE Q) Q v0 v1 h):Ans EE 3 [v0,v1] h Q:=
 ansL (F:=zfl) (by kernel_rfl) (by kernel_rfl) (by kernel_rfl) (by kernel_rfl) (cast (q_law14_CalcMade_0 _ _ _ v0 v1 h) H)
end
end Go.Proofs.YtbchdlelmkmagaaGreatDoor.VM
namespace Go.Proofs.YtbchdlelmkmagaaGreatDoor.VM
open Go
set_option linter.unusedVariables false
set_option linter.unusedSectionVars false
set_option linter.unusedSimpArgs false
set_option maxRecDepth 20000
noncomputable section
attribute [local instance] syZ
theorem aeq_val:∃ i,EE.ty.get 48=some i∧∀ a b:Vl,veq EE i (valV a) (valV b)=some (decide (a=b)):=by
 have h:(EE.ty.get 48).map (fun j=>(j.plain,(match j.k with | .struct _=>true | _=>false)))=some (some [.int .i64,.int .i64,.str],true):=by kernel_rfl
 obtain ⟨j,h1,h2⟩:=Option.map_eq_some_iff.1 h
 simp only [Prod.mk.injEq] at h2
 obtain ⟨h3,h4⟩:=h2
 refine ⟨j,h1,fun a b=>?_⟩
 have e:veq EE j (valV a) (valV b)=aeq j (vlC a) (vlC b):=by
  unfold veq valV
  split at h4 <;> first | (cases h4; done) | skip
  rename_i fs hfs
  rw [hfs]
 rw [e]
 unfold aeq vlC
 rw [h3]
 simp only [Option.bind_some,leq,ceq,zci,zbc,cond_true,zet]
 have e3:∀ x y:Nat,decide ((x:Int)=(y:Int))=decide (x=y):=fun x y=>by rw [decide_eq_decide]; omega
 rw [e3]
 obtain ⟨k,n,s⟩:=a
 obtain ⟨k',n',s'⟩:=b
 simp only [Vl.mk.injEq]
 by_cases q1:k=k' <;> by_cases q2:n=n' <;> by_cases q3:s=s' <;> simp [q1,q2,q3]
theorem pu_vne (cx cy:Bool) (a b:Vl) (q:V→Prop):(Pu EE).bin .neq 48 cx cy (valV a) (valV b) q↔q (.bool (!decide (a=b))):=by
 obtain ⟨i,h1,h2⟩:=aeq_val
 show (∃ v,vbinB EE .neq 48 cx cy (valV a) (valV b)=some v∧q v)↔_
 have:vbinB EE .neq 48 cx cy (valV a) (valV b)=some (.bool (!decide (a=b))):=by
  show eqOp .neq ((EE.ty.get 48).bind fun i=>veq EE i (valV a) (valV b))=_
  rw [h1,Option.bind_some,h2]
  rfl
 rw [this,zT]
theorem GridG.sheet {N:Nat} {h:Hp} {v:V} {g:Grd} {B:Nat→Nat→Nat} {sp:Nat→Prop} (G:GridG N h v g B sp) {i:Nat} {rows:List (List Vl)} (hi:g[i]? = some rows):∃ b o w us,(∀ (k:IntKind) (q:V→Prop),(Pu EE).iaddr 29 v (.int k i) q↔q (.ptr b o))∧(∀ q:V→Prop,(Pu EE).load h 35 (.ptr b o) q↔q w)∧Rd h 1 w rows.length us ∧
  ∀ (r:Nat) (row:List Vl),rows[r]? = some row→∃ b2 o2 u,(∀ (k:IntKind) (q:V→Prop),(Pu EE).iaddr 35 w (.int k r) q↔q (.ptr b2 o2))∧(∀ q:V→Prop,(Pu EE).load h 39 (.ptr b2 o2) q↔q u)∧LeafV (B i r) row.length u∧h.t.get (B i r)=some (.cells (vlCs row) 48 false):=by
 obtain ⟨ws,h1,h2⟩:=G.out
 obtain ⟨w,us,k1,k2,k3,k4⟩:=h2 i rows hi
 obtain ⟨b,o,g1,g2,_⟩:=zde h1 zaa zap k1
 refine ⟨b,o,w,us,g1,g2,k2,fun r row hr=>?_⟩
 obtain ⟨u,q1,q2,q3⟩:=k4 r row hr
 obtain ⟨b2,o2,g3,g4,_⟩:=zde k2 zaC zN q1
 exact ⟨b2,o2,u,g3,g4,q2,q3⟩
theorem GridG.rd {N:Nat} {h:Hp} {v:V} {g:Grd} {B:Nat→Nat→Nat} {sp:Nat→Prop} (G:GridG N h v g B sp):∃ ws,Rd h 1 v g.length ws:=by
 obtain ⟨ws,h1,_⟩:=G.out
 exact ⟨ws,h1⟩
section
variable {N0 N1:Nat} {h:Hp} {v0 v1:V} {g:Grd} {B0 B1:Nat→Nat→Nat} {s0 s1:Nat→Prop} (Q:V→Hp→Prop)
theorem samev_loop3 (G0:GridG N0 h v0 g B0 s0) (G1:GridG N1 h v1 g B1 s1) {i r:Nat} {rows:List (List Vl)} {row:List Vl} (hi:g[i]? = some rows) (hr:rows[r]? = some row) (hl:row.length < 1000000) (hr1:r < 1000000)
  (hq:zgq Q v0 v1 (.int .i64 i) (.int .i64 ((r+1:Nat):Int)) h):∀ (j c:Nat),row.length - c=j→c≤row.length→ziY Q v0 v1 (.int .i64 i) (.int .i64 r) (.int .i64 c) h:=by
 obtain ⟨b,o,w,us,a1,a2,a3,a4⟩:=G0.sheet hi
 obtain ⟨b2,o2,u,a5,a6,a7,a8⟩:=a4 r row hr
 obtain ⟨b',o',w',us',c1,c2,c3,c4⟩:=G1.sheet hi
 obtain ⟨b2',o2',u',c5,c6,c7,c8⟩:=c4 r row hr
 intro j
 induction j with
 | zero=>
  intro c hj hc
  apply zjR
  unfold zee
  rw [a1,a2,a5,a6,zp (leaf_rd a7 a8) zM,zr,decide_eq_false (by omega:¬ c < row.length),zb,zK _ _ _ _ (by omega)]
  exact hq
 | succ j ih=>
  intro c hj hc
  have hcC:c < row.length:=by omega
  have hx:row[c]? = some row[c]:=List.getElem?_eq_getElem hcC
  apply zjR
  unfold zee
  rw [a1,a2,a5,a6,zp (leaf_rd a7 a8) zM,zr,decide_eq_true hcC,zc,a1,a2,a5,a6,zcT a7 hcC,zfc a8 hx,c1,c2,c5,c6,zcT c7 hcC,zfc c8 hx,pu_vne,decide_eq_true rfl,Bool.not_true,zb,zK _ _ _ _ (by omega)]
  exact ih (c+1) (by omega) (by omega)
theorem samev_loop2 (G0:GridG N0 h v0 g B0 s0) (G1:GridG N1 h v1 g B1 s1) {i:Nat} {rows:List (List Vl)} (hi:g[i]? = some rows) (hl:rows.length < 1000000) (hi1:i < 1000000) (hll:∀ row ∈ rows,row.length < 1000000)
  (hq:zgm Q v0 v1 (.int .i64 ((i+1:Nat):Int)) h):∀ (j r:Nat),rows.length - r=j→r≤rows.length→zgq Q v0 v1 (.int .i64 i) (.int .i64 r) h:=by
 obtain ⟨b,o,w,us,a1,a2,a3,a4⟩:=G0.sheet hi
 obtain ⟨b',o',w',us',c1,c2,c3,c4⟩:=G1.sheet hi
 intro j
 induction j with
 | zero=>
  intro r hj hr
  apply zjf
  unfold zeb
  rw [a1,a2,zp a3 zaC,zr,decide_eq_false (by omega:¬ r < rows.length),zb,zK _ _ _ _ (by omega)]
  exact hq
 | succ j ih=>
  intro r hj hr
  have hrR:r < rows.length:=by omega
  obtain ⟨row,hrow⟩:∃ row,rows[r]? = some row:=⟨_,List.getElem?_eq_getElem hrR⟩
  obtain ⟨b2,o2,u,a5,a6,a7,a8⟩:=a4 r row hrow
  obtain ⟨b2',o2',u',c5,c6,c7,c8⟩:=c4 r row hrow
  apply zjf
  unfold zeb
  rw [a1,a2,zp a3 zaC,zr,decide_eq_true hrR,zc,a1,a2,a5,a6,zp (leaf_rd a7 a8) zM,c1,c2,c5,c6,zp (leaf_rd c7 c8) zM,neqN,decide_eq_true rfl,Bool.not_true,zb]
  exact samev_loop3 Q G0 G1 hi hrow (hll row (List.mem_of_getElem? hrow)) (by omega) (ih (r+1) (by omega) (by omega)) row.length 0 (by omega) (Nat.zero_le _)
theorem samev_loop1 (G0:GridG N0 h v0 g B0 s0) (G1:GridG N1 h v1 g B1 s1) (hl:g.length < 1000000) (hll:∀ rows ∈ g,rows.length < 1000000∧∀ row ∈ rows,row.length < 1000000)
  (hq:Q (.bool true) h):∀ (j i:Nat),g.length - i=j→i≤g.length→zgm Q v0 v1 (.int .i64 i) h:=by
 obtain ⟨ws,hw⟩:=G0.rd
 intro j
 induction j with
 | zero=>
  intro i hj hi
  apply zjE
  unfold zdT
  rw [zp hw zaa,zr,decide_eq_false (by omega:¬ i < g.length),zb]
  exact hq
 | succ j ih=>
  intro i hj hi
  have hiS:i < g.length:=by omega
  obtain ⟨rows,hrows⟩:∃ rows,g[i]? = some rows:=⟨_,List.getElem?_eq_getElem hiS⟩
  obtain ⟨b,o,w,us,a1,a2,a3,a4⟩:=G0.sheet hrows
  obtain ⟨b',o',w',us',c1,c2,c3,c4⟩:=G1.sheet hrows
  obtain ⟨l1,l2⟩:=hll rows (List.mem_of_getElem? hrows)
  apply zjE
  unfold zdT
  rw [zp hw zaa,zr,decide_eq_true hiS,zc,a1,a2,zp a3 zaC,c1,c2,zp c3 zaC,neqN,decide_eq_true rfl,Bool.not_true,zb]
  exact samev_loop2 Q G0 G1 hrows l1 (by omega) l2 (ih (i+1) (by omega) (by omega)) rows.length 0 (by omega) (Nat.zero_le _)
end
theorem samev_ok {N0 N1:Nat} {h:Hp} {v0 v1:V} {g:Grd} {B0 B1:Nat→Nat→Nat} {s0 s1:Nat→Prop} (G0:GridG N0 h v0 g B0 s0) (G1:GridG N1 h v1 g B1 s1) (hl:g.length < 1000000) (hll:∀ rows ∈ g,rows.length < 1000000∧∀ row ∈ rows,row.length < 1000000):Ans EE 7 [v0,v1] h fun x h'=>x=.bool true∧h'=h:=by
 obtain ⟨ws,hw⟩:=G0.rd
 obtain ⟨ws',hw'⟩:=G1.rd
 apply a_r7_SameVals
 unfold zfZ
 rw [zp hw zaa,zp hw' zaa,neqN,decide_eq_true rfl,Bool.not_true,zb]
 exact samev_loop1 _ G0 G1 hl hll ⟨rfl,rfl⟩ g.length 0 (by omega) (Nat.zero_le _)
theorem book_sm {ns:List Nat} {sh:Nat} (h:∀ n ∈ ns,n < 256):Sm (zfA ns sh):=by
 have hR:=@nR_le sh
 have hC:=@nC_le sh
 have hS:=@nS_le sh
 refine ⟨by unfold zfA; simp; omega,fun t ht=>?_,book_in h⟩
 obtain ⟨h1,_,h2⟩:=zfW t ht
 refine ⟨by unfold nR at h1; omega,by omega,fun row hr=>?_⟩
 have:=h2 row hr
 unfold nC at this
 unfold nC at hC
 omega
theorem book_rowsOK {ns:List Nat} {sh:Nat}:zbQ (zfA ns sh):=fun t ht=>by
 have hR:=@nR_le sh
 have hC:=@nC_le sh
 obtain ⟨h1,h2,h3⟩:=zfW t ht
 exact ⟨fun row hr=>by rw [h3 row hr,h2],by omega,by omega⟩
theorem fits_small {bk:Bok} {g:Grd} (f:Fits2 bk g) (sm:Sm bk):g.length < 1000000∧∀ rows ∈ g,rows.length < 1000000∧∀ row ∈ rows,row.length < 1000000:=by
 have:=sm.len
 refine ⟨by rw [f.1]; omega,fun rows hr=>?_⟩
 obtain ⟨i,hi⟩:=List.getElem?_of_mem hr
 have hil:i < bk.length:=by rw [← f.1]; exact (List.getElem?_eq_some_iff.1 hi).1
 obtain ⟨s,hs⟩:∃ s,bk[i]? = some s:=⟨_,List.getElem?_eq_getElem hil⟩
 obtain ⟨rows',k1,k2,k3⟩:=f.2 i s hs
 rw [hi] at k1
 cases k1
 obtain ⟨_,r2,r3⟩:=sm.rows s (List.mem_of_getElem? hs)
 refine ⟨by omega,fun row hrow=>?_⟩
 obtain ⟨r,hr2⟩:=List.getElem?_of_mem hrow
 have hrl:r < s.rows.length:=by have:=(List.getElem?_eq_some_iff.1 hr2).1; omega
 obtain ⟨row0,hrow0⟩:∃ row0,s.rows[r]? = some row0:=⟨_,List.getElem?_eq_getElem hrl⟩
 obtain ⟨vr,m1,m2⟩:=k3 r row0 hrow0
 rw [hr2] at m1
 cases m1
 have:=(r3 row0 (List.mem_of_getElem? hrow0)).2
 omega
theorem awake_any (h:Hp):Ans EE 5 [] h fun v _=>v=.bool true:=(awake_ok h).mono fun _ _ q=>q.1
theorem made_ok {h:Hp} {v0:V} {ns:List Nat} {sh:Nat} (rd:Rd h 1 v0 ns.length (ns.map fun (n:Nat)=>V.int .u8 (n:Int))) (in_:In h.n v0) (lt:∀ n ∈ ns,n < 256) (hsh:sh < 256):
  Ans EE 3 [v0,.int .u8 sh] h fun x _=>x=.bool true:=by
 apply a_law14_CalcMade
 unfold zdA
 rw [zp rd zhp,show (80:Int)=((80:Nat):Int) from rfl,gtrN,zi]
 refine ⟨fun _=>awake_any h,fun hlen=>?_⟩
 have hg:=book_good (sh:=sh) lt
 have sm:=book_sm (sh:=sh) lt
 refine (book_ok hsh ⟨rfl,rd,in_,lt,by omega⟩).mono ?_
 rintro bv h1 ⟨hb1,x1⟩
 obtain ⟨sv,rfl,hs1⟩:=hb1
 obtain ⟨cs,hrd1⟩:=hs1.rd
 have cS:=hrd1.c1
 refine zq zy fun h2 b2 w2=>?_
 refine zC zy w2.at_ (x:=.agg [sv]) rfl (cells1 cS.2) (r:=[sv]) rfl fun h3 w3=>?_
 have n2:=w2.n
 have n3:=w3.n
 have e2:=w2.b
 have X3:Ext h1.n h1 h3:=⟨by omega,fun c hc=>by rw [w3.other c (by omega),w2.old c hc]⟩
 have hs3:zdB h1.n h3 sv (zfA ns sh):=hs1.ext X3
 rw [zd zy w3.at_ (l:=[sv]) rfl,zd zy w3.at_ (l:=[sv]) rfl]
 refine (values_ok h1.n h3 sv (zfA ns sh) hs3 (by omega) hg (book_mays lt hsh) (fun s _=>book_few lt s) sm book_rowsOK).mono ?_
 rintro x h4 ⟨N0,B0,s0,p1,p2,G0,F0,M0,x4⟩
 have n4:=x4.n
 have hb4:h4.t.get b2=some (.cells [sv] 26 false):=by rw [x4.old b2 (by omega)]; exact w3.at_
 have hs4:zdB h1.n h4 sv (zfA ns sh):=hs3.ext (x4.mono (by omega))
 obtain ⟨_,hrd4⟩:=hs4.rd
 rw [zd zy hb4 (l:=[sv]) rfl,same_bk hrd4]
 refine (rvalues_ok h1.n h4 sv (zfA ns sh) hs4 (by omega) hg sm book_rowsOK).mono ?_
 rintro y h5 ⟨N1,B1,s1,q1,q2,G1,F1,M1,x5⟩
 obtain ⟨l1,l2⟩:=fits_small F1 sm
 refine (samev_ok (G0.keep x5) G1 l1 l2).mono ?_
 rintro z h6 ⟨rfl,rfl⟩
 rw [ze9]
 refine (awake_any _).mono ?_
 rintro z h7 rfl
 rw [zB]
end
end Go.Proofs.YtbchdlelmkmagaaGreatDoor.VM
namespace Go.Proofs.YtbchdlelmkmagaaGreatDoor
open Go Go.RowKit VM
set_option linter.unusedVariables false
set_option maxRecDepth 20000
theorem calcMade_walk (W:World) (A0:Option Addr) (l0:List UInt8) (c0:Nat) (n1:Int) (h0:At1 vByte W A0 l0) (w1:(Lit.int .u8 n1).wf=true) (htabs:Tabs W):
  Calls Tryz.prog 3 #[.slice A0 l0.length c0,.int .u8 n1] W fun e W'=>e=.returned (.bool true)∧Below W.heap.size W W':=by
 simp [Lit.wf,IntKind.min,IntKind.max,IntKind.signed,IntKind.bits] at w1
 obtain ⟨obj,o2,hG,hW⟩:=glOK_of htabs
 letI:=syE obj o2
 obtain ⟨cs,h,σ,hcs,O⟩:=opened_all W hW (blocksOf A0 l0) fun b hb=>blocks_ok h0 b hb
 obtain ⟨v0,r0,d0,i0⟩:=opened_list (g:=fun x=>V.int .u8 (x.toNat:Int)) told_byte O (c:=c0) h0 fun b hb=>hcs b hb
 obtain ⟨sh,rfl⟩:=Int.eq_ofNat_of_zero_le w1.1
 have A:=made_ok (sh:=sh) (rd_of d0) (in_of d0 i0) (u8_lt l0) (by omega)
 refine (calls_of_ans hG Tryz.func3 (by kernel_rfl) A O.rel (.cons _ _ _ _ r0 (.cons _ _ _ _ (.int _ _) .nil))).mono ?_
 rintro e W' ⟨v,h',x,rfl,rfl,σ',_,_,hr,_,hb⟩
 cases hr
 exact ⟨rfl,hb⟩
end Go.Proofs.YtbchdlelmkmagaaGreatDoor
namespace Go.Proofs.YtbchdlelmkmagaaGreatDoor
open Go.ChangeShapes Go.WideShapes Go.ChangeAt Go.RowKit
section
variable {H:Type} {enc:TypeId × Value→H} {P:Program} {w:World} {base:Nat} {spare:Nat→Bool} {held:Bool} {r:Reach} {b0:Nat} {t e:TypeId} {v:Value} {d:DataW H} {p:List MemPlace}
theorem getElem?_take_getD {α:Type} {l:List α} {n i:Nat} {x y:α} (h:(l.take n)[i]? = some x):i < l.length∧l.getD i y=x:=by
 rw [List.getElem?_take] at h
 split at h
 ·obtain ⟨h1,h2⟩:=List.getElem?_eq_some_iff.1 h
  exact ⟨h1,by simp [List.getD,h]⟩
 ·cases h
theorem open_ints_at {k:IntKind} (ht:P.underlying t=some (.slice e)) (he:P.underlying e=some (.int k)) (hc:P.cellsOf e=1) (hval:Value.okWide P w r b0 t v) (h:DataW.Trod enc P w base spare held t v d p):
  ∃ A c zs,v=.slice A zs.length c∧At1 (Value.int k) w A zs∧(∀ n ∈ zs,(Lit.int k n).wf=true):=by
 obtain ⟨a,len,cap,rfl⟩:=okWide_slice ht hval
 obtain ⟨fuel,hf⟩:=h
 rcases open_ints ht he hc hf with ⟨hcs,_⟩ | ⟨x,l,c,zs,hcs,_,hl,hm,hz,_,hcell,hwz⟩
 ·simp [Value.cells] at hcs
  obtain ⟨rfl,rfl,rfl⟩:=hcs
  exact ⟨none,0,[],rfl,At1.nil _ _ _,by simp⟩
 ·simp [Value.cells] at hcs
  obtain ⟨rfl,rfl,rfl⟩:=hcs
  have hz':len≤zs.length:=by rw [hz]; split <;> omega
  refine ⟨some x,cap,zs.take len,by rw [List.length_take,Nat.min_eq_left hz'],⟨?_,fun _=>⟨x,rfl,fun i y hy=>?_⟩⟩,fun n hn=>hwz n (List.mem_of_mem_take hn)⟩
  ·rw [List.length_take]; unfold maxLen at hm; omega
  ·obtain ⟨h1,h2⟩:=getElem?_take_getD (y:=0) hy
   rw [hcell i h1,h2]
theorem open_bytes_at (ht:P.underlying t=some (.slice e)) (he:P.underlying e=some (.int .u8)) (hc:P.cellsOf e=1) (hval:Value.okWide P w r b0 t v) (h:DataW.Trod enc P w base spare held t v d p):
  ∃ A c ns,v=.slice A ns.length c∧At1 vByte w A ns:=by
 obtain ⟨A,c,zs,rfl,h1,h2⟩:=open_ints_at ht he hc hval h
 refine ⟨A,c,zs.map fun n=>UInt8.ofNat n.toNat,by simp,by simpa using h1.1,fun hn=>?_⟩
 obtain ⟨ad,rfl,hcell⟩:=h1.2 (by simpa using hn)
 refine ⟨ad,rfl,fun i x hx=>?_⟩
 rw [List.getElem?_map] at hx
 cases hz:zs[i]? with
 | none=>rw [hz] at hx; cases hx
 | some z=>
  rw [hz] at hx
  injection hx with hx
  subst hx
  have hw:=h2 z (List.mem_of_getElem? hz)
  simp [Lit.wf,IntKind.min,IntKind.max,IntKind.signed,IntKind.bits] at hw
  rw [hcell i z hz]
  have hlt:z.toNat < 256:=by omega
  show some (Value.int .u8 z)=some (Value.int .u8 ((UInt8.ofNat z.toNat).toNat:Int))
  rw [UInt8.toNat_ofNat_of_lt' hlt]
  congr 2
  omega
end
end Go.Proofs.YtbchdlelmkmagaaGreatDoor
