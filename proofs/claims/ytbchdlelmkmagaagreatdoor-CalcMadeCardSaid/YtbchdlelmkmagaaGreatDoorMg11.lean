/- DpP DpBk CmLaw CmTy DpA6 DpBo DpBp DpBq CmGrid CmTy2 CmA3 CmV -/
import Derived.Test.YtbchdlelmkmagaaGreatDoorMg10
namespace Go.Proofs.YtbchdlelmkmagaaGreatDoor.VM
open Go
set_option linter.unusedVariables false
set_option linter.unusedSectionVars false
set_option linter.unusedSimpArgs false
set_option maxRecDepth 20000
noncomputable section
attribute [local instance] syZ
theorem pu_min (h:Hp) (ts:Array TypeId) (a b:Int) (q:V→Prop):(Pu EE).lbui h ts .min [.int .i64 a,.int .i64 b] q↔q (.int .i64 (if b < a then b else a)):=by
 show (∃ v,zdV EE h ts .min [.int .i64 a,.int .i64 b]=some v∧q v)↔_
 have:zdV EE h ts .min [.int .i64 a,.int .i64 b]=some (.int .i64 (if b < a then b else a)):=by
  show vminS EE true [.int .i64 a,.int .i64 b]=_
  unfold vminS vmin
  simp only [vminF,zbc,cond_true,ilt_dec,zbn,Bool.cond_decide]
 rw [this,zT]
theorem w64m (n:Nat) (h:n < 1000000):IntKind.i64.wrap ((n:Int) - 1)=(n:Int) - 1:=by
 unfold IntKind.wrap
 simp [IntKind.bits,IntKind.signed]
 omega
theorem min_guard (c t n:Nat):decide ((c:Int)≤if (n:Int) - 1 < (t:Int) then (n:Int) - 1 else (t:Int))=decide (c < min (t+1) n):=by
 rw [decide_eq_decide]
 split <;> omega
theorem neqN (a:Nat) (b:Nat) (t:Nat) (cx cy:Bool) (q:V→Prop):(Pu EE).bin .neq t cx cy (.int .i64 a) (.int .i64 b) q↔q (.bool (!decide (a=b))):=by
 rw [pu_neq]
 have:decide ((a:Int)=(b:Int))=decide (a=b):=by rw [decide_eq_decide]; omega
 rw [this]
theorem own_fresh {N:Nat} {h:Hp} {v:V} {l:List Spt} (o:OwnS N h v l) {b:Nat} (hb:h.n≤b):zI v ≠ some b:=fun e=>by
 have:=o.in_ b e
 omega
def boxN (d:Nd) (tr tc:Nat) (t0 t3 t4:V):List V:=[.int .i64 d.k,d.z 0,d.z 1,.str d.s,.int .i64 d.c,.int .i64 d.r,d.z 2,d.z 3,t0,.int .i64 tc,.int .i64 tr,t3,t4,d.z 7]
section
variable (Q:V→Hp→Prop) (M:Nat) (h0:Hp) (bk:Bok) (sv nv:V) (nds:List Nd) (s:Spt) (b2 b3:Nat)
structure DN (h:Hp) (v:V) (acc:List Spt):Prop where
 bk:zdB M h sv bk
 box:h.t.get b2=some (.cells [sv] 26 false)
 spot:h.t.get b3=some (.cells (spC s) 42 false)
 nodes:NodesAt h0.n h nv nds
 own:OwnS h0.n h v acc
 ext:Ext h0.n h0 h
variable (hM:M≤h0.n) (hb2:b2 < h0.n) (hb3:b3 < h0.n) (g:Good bk) (tot:List Spt) (htot:tot.length≤12)
include hM hb2 hb3
theorem DN.next {h h':Hp} {v v':V} {acc acc':List Spt} (a:DN M h0 bk sv nv nds s b2 b3 h v acc) (x:Ext h0.n h h') (o:OwnS h0.n h' v' acc'):DN M h0 bk sv nv nds s b2 b3 h' v' acc':=
 ⟨a.bk.ext (x.mono hM),by rw [x.old b2 hb2]; exact a.box,by rw [x.old b3 hb3]; exact a.spot,a.nodes.ext x,o,a.ext.trans x⟩
include g htot
theorem dn_l3 (i b8:Nat) (d:Nd) (tr tc:Nat) (t0 t3 t4:V) (nm:List Nat) (rv:V) (rows:List (List (List Nat))) (r:Nat) (row:List (List Nat)) (rest:List Spt) (hrow:rows[r]? = some row) (hrl:row.length < 1000000) (hrr:rows.length < 1000000) (hb8:h0.n≤b8)
  (hnext:∀ (h:Hp) (v:V) (acc:List Spt),DN M h0 bk sv nv nds s b2 b3 h v acc→zdz M h rv rows→h.t.get b8=some (.cells (boxN d tr tc t0 t3 t4) 88 false)→zI v ≠ some b8→b8 < h.n→acc++rest=tot →
   zg5 Q (.ptr b2 0) (.ptr b3 0) v (.ptr b8 0) (.str nm) rv (.int .i64 (r+1:Nat)) nv (.int .i64 nds.length) (.int .i64 i) h):
  ∀ (k c:Nat),min (tc+1) row.length - c=k→∀ (h:Hp) (v:V) (acc:List Spt),DN M h0 bk sv nv nds s b2 b3 h v acc→zdz M h rv rows→h.t.get b8=some (.cells (boxN d tr tc t0 t3 t4) 88 false)→zI v ≠ some b8→b8 < h.n →
   acc++(zjc nm r c (min (tc+1) row.length)++rest)=tot→zkO Q (.ptr b2 0) (.ptr b3 0) v (.ptr b8 0) (.str nm) rv (.int .i64 r) (.int .i64 c) nv (.int .i64 nds.length) (.int .i64 i) h:=by
 have hril:=(List.getElem?_eq_some_iff.1 hrow).1
 intro k
 induction k with
 | zero=>
  intro c hk h v acc a hra h8 hne hbn he
  apply zkq
  unfold zeM
  obtain ⟨b5,o5,w5,m1,m2,m3⟩:=zbU hra zn zaz hrow
  rw [zaL,zZ,za zm h8 rfl,m1,m2,zp m3.1 z7,zdf,w64m _ hrl,pu_min,zhL,min_guard,zi]
  refine ⟨fun h1=>absurd h1 (by omega),fun _=>?_⟩
  rw [zK _ _ _ _ (by omega)]
  rw [colsL_end (by omega),List.nil_append] at he
  exact hnext h v acc a hra h8 hne hbn he
 | succ k ih=>
  intro c hk h v acc a hra h8 hne hbn he
  apply zkq
  unfold zeM
  obtain ⟨b5,o5,w5,m1,m2,m3⟩:=zbU hra zn zaz hrow
  rw [zaL,zZ,za zm h8 rfl,m1,m2,zp m3.1 z7,zdf,w64m _ hrl,pu_min,zhL,min_guard,zi]
  refine ⟨fun h1=>?_,fun h1=>absurd (by omega) h1⟩
  rw [mk_spot]
  rw [colsL_step h1] at he
  have hl:acc.length+1≤1048576:=by
   have:=congrArg List.length he
   simp only [List.length_append,List.cons_append,List.length_cons] at this
   omega
  refine zcg a.own _ hl a.ext.n _ fun v' h' o' x hkeep hblk=>?_
  rw [zK _ _ _ _ (by omega)]
  refine ih (c+1) (by omega) h' v' (acc++[⟨nm,r,c⟩]) (a.next M h0 bk sv nv nds s b2 b3 hM hb2 hb3 x o') (hra.ext (x.mono hM)) (by rw [hkeep b8 hbn hne]; exact h8) (fun e=>?_) (Nat.lt_of_lt_of_le hbn ?_) ?_
  ·rcases hblk b8 e with e' | e'
   ·exact hne e'
   ·omega
  ·exact x.n
  ·rw [← he]
   simp
theorem dn_l2 (i b8:Nat) (d:Nd) (tr tc r0:Nat) (t0 t3 t4:V) (nm:List Nat) (rv:V) (rows:List (List (List Nat))) (rest:List Spt) (hrl:∀ row ∈ rows,row.length < 1000000) (hrr:rows.length < 1000000) (hb8:h0.n≤b8) (hi:i < 1000000)
  (hnext:∀ (h:Hp) (v:V) (acc:List Spt),DN M h0 bk sv nv nds s b2 b3 h v acc→acc++rest=tot→zbZ Q (.ptr b2 0) (.ptr b3 0) v nv (.int .i64 nds.length) (.int .i64 (i+1:Nat)) h):
  ∀ (k r:Nat),min (tr+1) rows.length - r=k→∀ (h:Hp) (v:V) (acc:List Spt),DN M h0 bk sv nv nds s b2 b3 h v acc→zdz M h rv rows→h.t.get b8=some (.cells (boxN d tr tc t0 t3 t4) 88 false)→zI v ≠ some b8→b8 < h.n →
   acc++(rowsL ⟨nm,r0,d.c,tr,tc⟩ rows k r++rest)=tot→zg5 Q (.ptr b2 0) (.ptr b3 0) v (.ptr b8 0) (.str nm) rv (.int .i64 r) nv (.int .i64 nds.length) (.int .i64 i) h:=by
 intro k
 induction k with
 | zero=>
  intro r hk h v acc a hra h8 hne hbn he
  apply zkH
  unfold ze0
  obtain ⟨us,hu⟩:=hra.rd
  rw [zaL,zaf,za zm h8 rfl,zp hu zn,zdf,w64m _ hrr,pu_min,zhL,min_guard,zi]
  refine ⟨fun h1=>absurd h1 (by omega),fun _=>?_⟩
  rw [zK _ _ _ _ (by omega)]
  rw [rowsL,List.nil_append] at he
  exact hnext h v acc a he
 | succ k ih=>
  intro r hk h v acc a hra h8 hne hbn he
  apply zkH
  unfold ze0
  obtain ⟨us,hu⟩:=hra.rd
  rw [zaL,zaf,za zm h8 rfl,zp hu zn,zdf,w64m _ hrr,pu_min,zhL,min_guard,zi]
  refine ⟨fun h1=>?_,fun h1=>absurd (by omega) h1⟩
  rw [zA,zZ,za zm h8 rfl]
  have hrow:rows[r]? = some rows[r]:=List.getElem?_eq_getElem (by omega)
  rw [rowsL,hrow] at he
  simp only [Option.getD_some,List.append_assoc] at he
  exact dn_l3 Q M h0 bk sv nv nds s b2 b3 hM hb2 hb3 g tot htot i b8 d tr tc t0 t3 t4 nm rv rows r rows[r] _ hrow (hrl _ (List.mem_of_getElem? hrow)) hrr hb8
   (fun h' v' acc' a' hra' h8' hne' hbn' he'=>ih (r+1) (by omega) h' v' acc' a' hra' h8' hne' hbn' he') _ d.c rfl h v acc a hra h8 hne hbn he
theorem dn_l5 (i b8:Nat) (d:Nd) (tr tc:Nat) (t0 t3 t4:V) (nm:List Nat) (rest:List Spt) (hb8:h0.n≤b8) (hi:i < 1000000)
  (hnext:∀ (h:Hp) (v:V) (acc:List Spt),DN M h0 bk sv nv nds s b2 b3 h v acc→acc++rest=tot→zbZ Q (.ptr b2 0) (.ptr b3 0) v nv (.int .i64 nds.length) (.int .i64 (i+1:Nat)) h)
  (h:Hp) (v:V) (acc:List Spt) (a:DN M h0 bk sv nv nds s b2 b3 h v acc) (h8:h.t.get b8=some (.cells (boxN d tr tc t0 t3 t4) 88 false)) (hne:zI v ≠ some b8) (hbn:b8 < h.n)
  (he:acc++(zf4 bk ⟨nm,d.r,d.c,tr,tc⟩++rest)=tot):zkx Q (.ptr b2 0) (.ptr b3 0) v (.ptr b8 0) (.str nm) nv (.int .i64 nds.length) (.int .i64 i) h:=by
 apply r_deps_Needs_5
 unfold zg0
 have hxn:=a.ext.n
 rw [zd zy a.box (l:=[sv]) rfl]
 refine (zkc M h _ bk nm ⟨sv,rfl,a.bk⟩ (by omega) g.fit.len).mono ?_
 rintro y h2 ⟨rfl,hx⟩
 have hn2:=hx.n
 have a2:DN M h0 bk sv nv nds s b2 b3 h2 v acc:=a.next M h0 bk sv nv nds s b2 b3 hM hb2 hb3 (hx.mono hxn) (a.own.keep hx.n fun c hc=>hx.old c (a.own.in_ c hc))
 have h82:h2.t.get b8=some (.cells (boxN d tr tc t0 t3 t4) 88 false):=by rw [hx.old b8 hbn]; exact h8
 unfold zkn
 cases hf:zcm bk nm 0 with
 | none=>
  have hr:=zfN hf
  simp only
  rw [zak,decide_eq_true (by decide:(-1:Int) < 0),zc,zK _ _ _ _ (by omega)]
  refine hnext h2 v acc a2 ?_
  rw [← he]
  unfold zf4
  rw [hr]
  rfl
 | some j=>
  obtain ⟨_,t,ht,hnm,hfr⟩:=zbY hf
  rw [Nat.sub_zero] at ht
  simp only
  rw [zak,decide_eq_false (by omega:¬ (j:Int) < 0),zb]
  obtain ⟨b4,o4,rv,g1,g2,g3,vs,f,ro,g4,g5⟩:=zbu a2.bk zl zH ht
  rw [zw,za zk a2.box rfl,g1,zG,za zD g4 (g5 2 _ rfl),zA,zaf,za zm h82 rfl]
  have hrl:=g.fit.rows t (List.mem_of_getElem? ht)
  unfold zf4 at he
  rw [hfr] at he
  exact dn_l2 Q M h0 bk sv nv nds s b2 b3 hM hb2 hb3 g tot htot i b8 d tr tc d.r t0 t3 t4 nm rv t.rows rest hrl.2 hrl.1 hb8 hi hnext _ d.r rfl h2 v acc a2 g3 h82 hne (by omega) he
theorem dn_l4 (i b8:Nat) (d:Nd) (tr tc:Nat) (t0 t3 t4:V) (rest:List Spt) (hb8:h0.n≤b8) (hi:i < 1000000)
  (hnext:∀ (h:Hp) (v:V) (acc:List Spt),DN M h0 bk sv nv nds s b2 b3 h v acc→acc++rest=tot→zbZ Q (.ptr b2 0) (.ptr b3 0) v nv (.int .i64 nds.length) (.int .i64 (i+1:Nat)) h)
  (h:Hp) (v:V) (acc:List Spt) (a:DN M h0 bk sv nv nds s b2 b3 h v acc) (h8:h.t.get b8=some (.cells (boxN d tr tc t0 t3 t4) 88 false)) (hne:zI v ≠ some b8) (hbn:b8 < h.n)
  (he:acc++(zf4 bk ⟨if d.s=[] then s.s else d.s,d.r,d.c,tr,tc⟩++rest)=tot):zkA Q (.ptr b2 0) (.ptr b3 0) v (.ptr b8 0) nv (.int .i64 nds.length) (.int .i64 i) h:=by
 apply r_deps_Needs_4
 unfold zg6
 rw [zA,zdk,za zL h8 rfl,zbj,zi]
 refine ⟨fun e=>?_,fun e=>?_⟩
 ·rw [z8,za zL a.spot rfl]
  rw [if_pos e] at he
  exact dn_l5 Q M h0 bk sv nv nds s b2 b3 hM hb2 hb3 g tot htot i b8 d tr tc t0 t3 t4 s.s rest hb8 hi hnext h v acc a h8 hne hbn he
 ·rw [if_neg e] at he
  exact dn_l5 Q M h0 bk sv nv nds s b2 b3 hM hb2 hb3 g tot htot i b8 d tr tc t0 t3 t4 d.s rest hb8 hi hnext h v acc a h8 hne hbn he
theorem dn_l1 (hnl:nds.length < 1000000) (hnd:tot.Nodup) (hq:∀ (x:V) (h':Hp) (l':List Spt),OwnS h0.n h' x l'→l'.Perm tot→Ris l'→Ext h0.n h0 h'→Q x h'):
  ∀ (k i:Nat),nds.length - i=k→i≤nds.length→∀ (h:Hp) (v:V) (acc:List Spt),DN M h0 bk sv nv nds s b2 b3 h v acc→acc++(za9 s.s (nds.drop i)).flatMap (zf4 bk)=tot →
   zbZ Q (.ptr b2 0) (.ptr b3 0) v nv (.int .i64 nds.length) (.int .i64 i) h:=by
 intro k
 induction k with
 | zero=>
  intro i hk hi h v acc a he
  apply zkQ
  unfold zeR
  rw [zr,zi]
  refine ⟨fun h1=>absurd h1 (by omega),fun _=>?_⟩
  rw [List.drop_eq_nil_of_le (by omega:nds.length≤i)] at he
  have e:acc=tot:=by simpa [za9] using he
  subst e
  refine (rising_ok h0.n h v acc a.own htot a.ext.n hnd).mono ?_
  rintro x h' ⟨l',o',p',r',x'⟩
  exact hq x h' l' o' p' r' (a.ext.trans x')
 | succ k ih=>
  intro i hk hi h v acc a he
  apply zkQ
  unfold zeR
  rw [zr,zi]
  refine ⟨fun h1=>?_,fun h1=>absurd (by omega) h1⟩
  obtain ⟨d,hd⟩:∃ d,d=nds[i]:=⟨_,rfl⟩
  have hdl:nds[i]? = some d:=by rw [hd]; exact List.getElem?_eq_getElem h1
  obtain ⟨b1,o1,g1,g2⟩:=nd_get a.nodes hdl
  have hcell:=a.nodes.cell d (List.mem_of_getElem? hdl)
  rw [g1,g2]
  have hxn:=a.ext.n
  refine zq zbh fun h2 b8 w8=>?_
  refine zC zbh w8.at_ (x:=.agg d.cells) rfl hcell (r:=d.cells) rfl fun h3 w9=>?_
  have n2:=w8.n
  have e2:=w8.b
  have n3:=w9.n
  have x3:Ext h0.n h h3:=(w8.ext hxn).trans (w9.ext (by omega))
  have o3:OwnS h0.n h3 v acc:=a.own.keep (by omega) fun c hc=>by
   have:=a.own.in_ c hc
   rw [w9.other c (by omega),w8.old c (by omega)]
  have hne:zI v ≠ some b8:=own_fresh a.own (by omega)
  have a3:DN M h0 bk sv nv nds s b2 b3 h3 v acc:=a.next M h0 bk sv nv nds s b2 b3 hM hb2 hb3 x3 o3
  rw [zcd h1,← hd] at he
  have nx:∀ (h':Hp) (v':V) (acc':List Spt),DN M h0 bk sv nv nds s b2 b3 h' v' acc'→acc'++(za9 s.s (nds.drop (i+1))).flatMap (zf4 bk)=tot→zbZ Q (.ptr b2 0) (.ptr b3 0) v' nv (.int .i64 nds.length) (.int .i64 (i+1:Nat)) h':=
   fun h' v' acc' a' he'=>ih (i+1) (by omega) (by omega) h' v' acc' a' he'
  rw [zE,za zm w9.at_ rfl,show (5:Int)=((5:Nat):Int) from rfl,eqlN,zi]
  refine ⟨fun q5=>?_,fun q5=>?_⟩
  ·rw [zA,zd zck w9.at_ (l:=[.str d.s,.int .i64 d.c,.int .i64 d.r,d.z 2,d.z 3]) rfl,zaL]
   have hc3:zh [V.str d.s,.int .i64 d.c,.int .i64 d.r,d.z 2,d.z 3]=true:=by
    refine zU.2 fun u hu=>zU.1 hcell u ?_
    simp only [List.mem_cons,List.not_mem_nil,or_false] at hu
    rcases hu with rfl | rfl | rfl | rfl | rfl <;> simp [Nd.cells]
   refine zC zck w9.at_ (x:=.agg [.str d.s,.int .i64 d.c,.int .i64 d.r,d.z 2,d.z 3]) rfl hc3 (r:=boxN d d.r d.c (.str d.s) (d.z 2) (d.z 3)) rfl fun h4 w10=>?_
   have n4:=w10.n
   have x4:Ext h0.n h3 h4:=w10.ext (by omega)
   have o4:OwnS h0.n h4 v acc:=o3.keep (by omega) fun c hc=>w10.other c fun e=>hne (e ▸ hc)
   have a4:=a3.next M h0 bk sv nv nds s b2 b3 hM hb2 hb3 x4 o4
   refine dn_l4 Q M h0 bk sv nv nds s b2 b3 hM hb2 hb3 g tot htot i b8 d d.r d.c _ _ _ _ (by omega) (by omega) nx h4 v acc a4 w10.at_ hne (by omega) ?_
   rw [← he]
   have:za9 s.s (d::nds.drop (i+1))=⟨if d.s=[] then s.s else d.s,d.r,d.c,d.r,d.c⟩::za9 s.s (nds.drop (i+1)):=by
    unfold za9
    rw [List.filterMap_cons]
    simp [Nd.rect,q5]
   rw [this,List.flatMap_cons]
  ·rw [zE,za zm w9.at_ rfl,show (6:Int)=((6:Nat):Int) from rfl,neqN,zjI]
   refine ⟨fun q6=>?_,fun q6=>?_⟩
   ·rw [zK _ _ _ _ (by omega)]
    refine nx h3 v acc a3 ?_
    rw [← he]
    have:za9 s.s (d::nds.drop (i+1))=za9 s.s (nds.drop (i+1)):=by
     unfold za9
     rw [List.filterMap_cons]
     simp [Nd.rect,q5,q6]
    rw [this]
   ·refine dn_l4 Q M h0 bk sv nv nds s b2 b3 hM hb2 hb3 g tot htot i b8 d d.r1 d.c1 (d.z 4) (d.z 5) (d.z 6) _ (by omega) (by omega) nx h3 v acc a3 w9.at_ hne (by omega) ?_
    rw [← he]
    have:za9 s.s (d::nds.drop (i+1))=⟨if d.s=[] then s.s else d.s,d.r,d.c,d.r1,d.c1⟩::za9 s.s (nds.drop (i+1)):=by
     unfold za9
     rw [List.filterMap_cons]
     simp [Nd.rect,q5,q6]
    rw [this,List.flatMap_cons]
end
theorem ris_needs {bk:Bok} (hb:Rises bk) (ks:List Rct) {l:List Spt} (hp:l.Perm (ks.flatMap (zf4 bk))) (hs:Ris l):l=needsR ks bk:=by
 have h1:=needs_law hb ks hp (hs.imp fun q=>zdm q)
 rw [← h1]
 exact ris_ext hs (compL_ris l (hs.imp fun q=>zdm q)) fun a=>(zi2 l a).symm
def Few (bk:Bok) (s:Spt):Prop:=((rectsT s.s (getC bk s)).flatMap (zf4 bk)).length≤12∧((rectsT s.s (getC bk s)).flatMap (zf4 bk)).Nodup
theorem dneeds_ok (M:Nat) (h:Hp) (v:V) (bk:Bok) (s:Spt) (hv:zir M h v bk) (hM:M≤h.n) (g:Good bk) (hw:Few bk s):Ans EE 27 [v,spV s] h fun x h'=>OwnS h.n h' x (ndR bk s)∧Ext h.n h h':=by
 have hv0:=hv
 obtain ⟨sv,rfl,hs⟩:=hv
 obtain ⟨cs,hrd⟩:=hs.rd
 have hcell:zh [sv]=true:=by have:=hrd.c1; simp [zh,this.2]
 apply a_deps_Needs
 unfold zhg
 refine zW (cs:=[sv]) hcell fun h1 b1 w1=>?_
 refine zW (cs:=spC s) rfl fun h2 b2 w2=>?_
 have n1:=w1.n
 have n2:=w2.n
 have e1:=w1.b
 have e2:=w2.b
 have hx2:Ext h.n h h2:=(w1.ext (Nat.le_refl h.n)).trans (w2.ext (by omega))
 have hb1:h2.t.get b1=some (.cells [sv] 26 false):=by rw [w2.old b1 (by omega)]; exact w1.at_
 rw [zd zy hb1 (l:=[sv]) rfl,zd zf w2.at_ (l:=spC s) rfl]
 refine (pget_ok M h2 _ bk s (hv0.ext (hx2.mono hM)) (by omega) g.fit.len).mono ?_
 rintro y h3 ⟨rfl,hx3⟩
 have n3:=hx3.n
 have ht:=g.get s
 refine (pform_ok ht h3).mono ?_
 rintro y h4 ⟨hx4,hp⟩
 have n4:=hx4.n
 have x4:Ext h2.n h2 h4:=hx3.trans (hx4.mono n3)
 have xx:Ext h.n h h4:=hx2.trans (x4.mono (by omega))
 have hrt:=rectsT_prog ht s.s
 cases hf:formP (getC bk s) with
 | none=>
  rw [hf] at hp
  simp only at hp
  subst hp
  rw [zao,zam,zaE]
  simp only [Bool.not_false,zc]
  have hr:zg3 (getC bk s)=none:=by
   have:=ht.some_
   rw [hf] at this
   cases q:zg3 (getC bk s) with
   | none=>rfl
   | some b=>rw [q] at this; cases this
  rw [ndR_none hr]
  exact ⟨OwnS.nil _ _,xx⟩
 | some ds=>
  rw [hf] at hp hrt
  obtain ⟨nv,ds',rfl,hnd,hlen,hrc⟩:=hp
  simp only at hrt
  rw [zao,zam,zaE]
  simp only [Bool.not_true,zb]
  have hfew:ds.length≤20:=by
   have:=ht.some_
   rw [hf] at this
   cases q:zg3 (getC bk s) with
   | none=>rw [q] at this; cases this
   | some b=>exact (ht.few ds b hf q).1
  rw [zp hnd.rd zbM]
  have hnodes:NodesAt h4.n h4 nv ds':=hnd
  refine dn_l1 _ M h4 bk sv nv ds' s b1 b2 (by omega) (by omega) (by omega) g ((rectsT s.s (getC bk s)).flatMap (zf4 bk)) hw.1 (by omega) hw.2 (fun x h' l' o' p' r' x'=>⟨?_,xx.trans (x'.mono (by omega))⟩) _ 0 rfl (by omega) h4 .nils []
   ⟨(hs.ext (hx2.mono hM)).ext (x4.mono (by omega)),by rw [x4.old b1 (by omega)]; exact hb1,by rw [x4.old b2 (by omega)]; exact w2.at_,hnodes,OwnS.nil _ _,Ext.refl _ _⟩ ?_
  ·rw [List.drop_zero,List.nil_append,hrc,hrt]
  ·have:=ris_needs g.ris _ p' r'
   rw [this] at o'
   exact o'.mono (by omega)
end
end Go.Proofs.YtbchdlelmkmagaaGreatDoor.VM
namespace Go.Proofs.YtbchdlelmkmagaaGreatDoor.VM
open Go
set_option linter.unusedVariables false
set_option linter.unusedSectionVars false
set_option linter.unusedSimpArgs false
set_option maxRecDepth 20000
noncomputable section
attribute [local instance] syZ
def cellT (ns:List Nat) (p:Nat):List Nat:=match ns[p]? with
 | some n=>txt n
 | none=>[]
def rowT (ns:List Nat) (C p:Nat):List (List Nat):=(List.range C).map fun c=>cellT ns (p+c)
def rowsT (ns:List Nat) (C R p:Nat):List (List (List Nat)):=(List.range R).map fun r=>rowT ns C (p+r * C)
def nS (sh:Nat):Nat:=1+sh % 3
def nC (sh:Nat):Nat:=1+sh / 3 % 4
def nR (sh:Nat):Nat:=1+sh / 12 % 5
def nameT (sh i:Nat):List Nat:=[65+i+sh / 64 * i]
def shtT (ns:List Nat) (sh i:Nat):Sht:=⟨nameT sh i,nC sh,rowsT ns (nC sh) (nR sh) (i * (nR sh * nC sh))⟩
def zfA (ns:List Nat) (sh:Nat):Bok:=(List.range (nS sh)).map (shtT ns sh)
theorem nil_in:([]:List Nat) ∈ zcR:=txt_in (n:=0) (by omega)
theorem cell_in {ns:List Nat} (h:∀ n ∈ ns,n < 256) (p:Nat):cellT ns p ∈ zcR:=by
 unfold cellT
 split
 ·rename_i n hn; exact txt_in (h n (List.mem_of_getElem? hn))
 ·exact nil_in
def TextsIn (bk:Bok):Prop:=∀ s ∈ bk,∀ row ∈ s.rows,∀ t ∈ row,t ∈ zcR
theorem getC_in {bk:Bok} (h:TextsIn bk) (s:Spt):getC bk s ∈ zcR:=by
 unfold getC
 split
 ·exact nil_in
 ·rename_i t ht
  split
  ·exact nil_in
  ·rename_i row hrow
   cases hc:row[s.c]? with
   | none=>exact nil_in
   | some x=>exact h t (List.mem_of_find?_eq_some ht) row (List.mem_of_getElem? hrow) x (List.mem_of_getElem? hc)
def rk (k:Rct):Nat × Nat × Nat × Nat:=(k.r0,k.c0,k.r1,k.c1)
theorem rects_rk (own:List Nat):∀ l:List Nd,(za9 own l).map rk=(za9 [0] l).map rk
 | []=>rfl
 | d::l=>by
  have ih:=rects_rk own l
  unfold za9 at ih ⊢
  have e:(Nd.rect own d).map rk=(Nd.rect [0] d).map rk:=by
   unfold Nd.rect
   split
   ·rfl
   ·split
    ·rfl
    ·rfl
  cases h1:Nd.rect own d with
  | none=>
   cases h2:Nd.rect [0] d with
   | none=>rw [List.filterMap_cons_none h1,List.filterMap_cons_none h2,ih]
   | some b=>rw [h1,h2] at e; cases e
  | some a=>
   cases h2:Nd.rect [0] d with
   | none=>rw [h1,h2] at e; cases e
   | some b=>
    rw [h1,h2] at e
    rw [List.filterMap_cons_some h1,List.filterMap_cons_some h2,List.map_cons,List.map_cons,ih]
    simp only [Option.map_some,Option.some.injEq] at e
    rw [e]
def szR (q:Nat × Nat × Nat × Nat):Nat:=(q.2.2.1+1 - q.1) * (q.2.2.2+1 - q.2.1)
def apartR (a b:Nat × Nat × Nat × Nat):Bool:=Nat.blt a.2.2.1 b.1 || Nat.blt b.2.2.1 a.1 || Nat.blt a.2.2.2 b.2.1 || Nat.blt b.2.2.2 a.2.1
def apartL:List (Nat × Nat × Nat × Nat)→Bool
 | []=>true
 | a::l=>l.all (apartR a) && apartL l
def sumR:List (Nat × Nat × Nat × Nat)→Nat
 | []=>0
 | a::l=>szR a+sumR l
def fewOK (t:List Nat):Bool:=match zg3 t with
 | none=>true
 | some l=>Nat.ble (sumR ((za9 [0] l).map rk)) 12 && apartL ((za9 [0] l).map rk)
theorem few_ok:zcR.all fewOK=true:=by kernel_rfl
theorem colsL_len (nm:List Nat) (r a b:Nat):(zjc nm r a b).length=b - a:=by unfold zjc; simp
theorem rowsL_len (k:Rct) (rows:List (List (List Nat))):∀ (n r:Nat),(rowsL k rows n r).length≤n * (k.c1+1 - k.c0)
 | 0,r=>by simp [rowsL]
 | n+1,r=>by
  rw [rowsL,List.length_append,colsL_len,Nat.succ_mul]
  have:=rowsL_len k rows n (r+1)
  omega
theorem rectL_len (bk:Bok) (k:Rct):(zf4 bk k).length≤szR (rk k):=by
 unfold zf4
 split
 ·simp
 ·refine Nat.le_trans (rowsL_len _ _ _ _) ?_
  unfold szR rk
  exact Nat.mul_le_mul_right _ (by simp only; omega)
theorem colsL_ris (nm:List Nat) (r a b:Nat):Ris (zjc nm r a b):=by
 unfold zjc Ris
 rw [List.pairwise_map]
 refine List.Pairwise.imp (fun {x y} h=>?_) List.pairwise_lt_range
 rw [zcI]
 exact .inr ⟨rfl,.inr ⟨rfl,by simp only; omega⟩⟩
theorem rowsL_ris (k:Rct) (rows:List (List (List Nat))):∀ (n r:Nat),Ris (rowsL k rows n r)
 | 0,r=>List.Pairwise.nil
 | n+1,r=>by
  rw [rowsL]
  refine List.pairwise_append.2 ⟨colsL_ris _ _ _ _,rowsL_ris k rows n (r+1),fun a ha b hb=>?_⟩
  obtain ⟨h1,h2,_⟩:=colsL_mem.1 ha
  obtain ⟨h3,h4,_⟩:=rowsL_mem.1 hb
  rw [zcI]
  exact .inr ⟨by rw [h1,h3],.inl (by omega)⟩
theorem rectL_nodup (bk:Bok) (k:Rct):(zf4 bk k).Nodup:=by
 unfold zf4
 split
 ·exact List.nodup_nil
 ·exact (rowsL_ris _ _ _ _).nodup
theorem apart_disj {bk:Bok} (hb:Rises bk) {a b:Rct} (h:apartR (rk a) (rk b)=true) {x:Spt} (h1:x ∈ zf4 bk a) (h2:x ∈ zf4 bk b):False:=by
 have k1:=((rectL_mem hb).1 h1).1
 have k2:=((rectL_mem hb).1 h2).1
 simp only [Rct.has,Bool.and_eq_true,decide_eq_true_iff] at k1 k2
 simp only [apartR,rk,Bool.or_eq_true,Nat.blt_eq] at h
 omega
theorem few_rects {bk:Bok} (hb:Rises bk):∀ (ks:List Rct),apartL (ks.map rk)=true→(ks.flatMap (zf4 bk)).length≤sumR (ks.map rk)∧(ks.flatMap (zf4 bk)).Nodup
 | [],_=>by simp [sumR]
 | a::l,h=>by
  simp only [List.map_cons,apartL,Bool.and_eq_true,List.all_eq_true] at h
  obtain ⟨h1,h2⟩:=few_rects hb l h.2
  rw [List.flatMap_cons,List.map_cons,sumR,List.length_append]
  refine ⟨by have:=rectL_len bk a; omega,List.nodup_append.2 ⟨rectL_nodup bk a,h2,fun x hx y hy e=>?_⟩⟩
  subst e
  obtain ⟨b,hb1,hb2⟩:=List.mem_flatMap.1 hy
  exact apart_disj hb (h.1 (rk b) (List.mem_map_of_mem hb1)) hx hb2
theorem few_of {bk:Bok} (hb:Rises bk) (s:Spt) (ht:getC bk s ∈ zcR):Few bk s:=by
 have hk:=List.all_eq_true.1 few_ok _ ht
 unfold Few rectsT
 unfold fewOK at hk
 split at hk
 ·rename_i e
  rw [e]
  simp
 ·rename_i l e
  rw [e]
  simp only [Bool.and_eq_true,Nat.ble_eq] at hk
  have e2:=rects_rk s.s l
  rw [← e2] at hk
  obtain ⟨h1,h2⟩:=few_rects hb (za9 s.s l) hk.2
  show ((za9 s.s l).flatMap (zf4 bk)).length≤12∧((za9 s.s l).flatMap (zf4 bk)).Nodup
  exact ⟨by have:=hk.1; omega,h2⟩
section
variable {ns:List Nat} {sh:Nat}
theorem book_in (h:∀ n ∈ ns,n < 256):TextsIn (zfA ns sh):=fun s hs row hr t ht=>by
 unfold zfA at hs
 obtain ⟨i,_,rfl⟩:=List.mem_map.1 hs
 unfold shtT rowsT at hr
 obtain ⟨r,_,rfl⟩:=List.mem_map.1 hr
 unfold rowT at ht
 obtain ⟨c,_,rfl⟩:=List.mem_map.1 ht
 exact cell_in h _
theorem book_ris:Rises (zfA ns sh):=by
 unfold zfA Rises
 rw [List.pairwise_map]
 refine List.Pairwise.imp (fun {x y} h=>?_) List.pairwise_lt_range
 unfold shtT nameT
 rw [slt_cons]
 left
 have:=Nat.mul_le_mul_left (sh / 64) (Nat.le_of_lt h)
 omega
theorem allSpots_len (R C:Nat):∀ (bk:Bok),(∀ s ∈ bk,s.rows.length≤R∧∀ row ∈ s.rows,row.length≤C)→(zJ bk).length≤bk.length * (R * C)
 | [],_=>by simp [zJ]
 | s::bk,h=>by
  have h1:=allSpots_len R C bk fun t ht=>h t (by simp [ht])
  have h2:∀ (rows:List (List (List Nat))) (r:Nat),(∀ row ∈ rows,row.length≤C)→(zbl s.name r rows).length≤rows.length * C:=by
   intro rows
   induction rows with
   | nil=>intro r _; simp [zbl]
   | cons row rows ih=>
    intro r hr
    rw [zbl,List.length_append,List.length_cons,Nat.succ_mul]
    have:=ih (r+1) fun x hx=>hr x (by simp [hx])
    have h3:(ze6 s.name r row).length=row.length:=by unfold ze6; simp
    have:=hr row (by simp)
    omega
  have h3:=h2 s.rows 0 (h s (by simp)).2
  have h4:=Nat.mul_le_mul_right C (h s (by simp)).1
  rw [zJ,List.length_append,List.length_cons,Nat.succ_mul]
  omega
theorem zfW:∀ s ∈ zfA ns sh,s.rows.length=nR sh∧s.cols=nC sh∧∀ row ∈ s.rows,row.length=nC sh:=fun s hs=>by
 unfold zfA at hs
 obtain ⟨i,_,rfl⟩:=List.mem_map.1 hs
 unfold shtT rowsT
 refine ⟨by simp,rfl,fun row hr=>?_⟩
 obtain ⟨r,_,rfl⟩:=List.mem_map.1 hr
 unfold rowT
 simp
theorem nC_le:nC sh≤4:=by unfold nC; omega
theorem nR_le:nR sh≤5:=by unfold nR; omega
theorem nS_le:nS sh≤3:=by unfold nS; omega
theorem book_good (h:∀ n ∈ ns,n < 256):Good (zfA ns sh):=by
 have hR:=@nR_le sh
 have hC:=@nC_le sh
 have hS:=@nS_le sh
 have hl:(zfA ns sh).length=nS sh:=by unfold zfA; simp
 refine ⟨⟨?_,by omega,fun s hs=>?_⟩,book_ris,fun s hs row hr t ht=>textIs (book_in h s hs row hr t ht)⟩
 ·have:=allSpots_len 5 4 (zfA ns sh) fun s hs=>by
   obtain ⟨h1,_,h2⟩:=zfW s hs
   exact ⟨by omega,fun row hr=>by rw [h2 row hr]; exact hC⟩
  rw [hl] at this
  omega
 ·obtain ⟨h1,_,h2⟩:=zfW s hs
  exact ⟨by omega,fun row hr=>by rw [h2 row hr]; omega⟩
theorem book_mays (h:∀ n ∈ ns,n < 256) (hsh:sh < 256):Mays (zfA ns sh):=by
 have hR:=@nR_le sh
 have hC:=@nC_le sh
 have hS:=@nS_le sh
 refine ⟨book_good h,by unfold zfA; simp; omega,fun s hs=>?_,fun s hs=>?_,fun s hs r hr=>?_,fun s hs=>?_⟩
 ·obtain ⟨_,h1,_⟩:=zfW s hs; omega
 ·obtain ⟨h1,_,_⟩:=zfW s hs; omega
 ·obtain ⟨_,h1,h2⟩:=zfW s hs; rw [h2 r hr,h1]
 ·unfold zfA at hs
  obtain ⟨i,hi,rfl⟩:=List.mem_map.1 hs
  have hi:=List.mem_range.1 hi
  have h64:sh / 64≤3:=by omega
  have:sh / 64 * i≤3 * 2:=Nat.mul_le_mul h64 (by omega)
  exact name1 (by omega) (by omega)
theorem book_few (h:∀ n ∈ ns,n < 256) (s:Spt):Few (zfA ns sh) s:=few_of book_ris s (getC_in (book_in h) s)
end
end
end Go.Proofs.YtbchdlelmkmagaaGreatDoor.VM
namespace Go.Proofs.YtbchdlelmkmagaaGreatDoor.VM
open Go
set_option linter.unusedVariables false
noncomputable section
def ownS (own s:List Nat):List Nat:=if s=[] then own else s
def refS (bk:Bok) (g:Grd) (own:List Nat) (d:Nk):Vl:=match zcm bk (ownS own d.s) 0 with
 | none=>vlE 4
 | some i=>match bk[i]? with
  | none=>vl0
  | some sh=>match sh.rows[d.r]? with
   | none=>vl0
   | some row=>if d.c < row.length then getG g i d.r d.c else vl0
def zek (g:Grd) (i r c0 c1:Nat):List Vl:=(List.range (c1 - c0)).map fun j=>getG g i r (c0+j)
def rowsS (g:Grd) (i c0 c1:Nat):Nat→Nat→List Vl
 | 0,_=>[]
 | n+1,r=>zek g i r c0 c1++rowsS g i c0 c1 n (r+1)
def zb2 (bk:Bok) (g:Grd) (own:List Nat) (d:Nk):List Vl:=match zcm bk (ownS own d.s) 0 with
 | none=>[vlE 4]
 | some i=>match bk[i]? with
  | none=>[]
  | some sh=>rowsS g i d.c (min (d.c1+1) sh.cols) (min (d.r1+1) sh.rows.length - d.r) d.r
def evN (ns:List Nk) (bk:Bok) (g:Grd) (own:List Nat):Nat→Nat→Vl
 | 0,_=>vlE 1
 | f+1,at_=>match ns[at_]? with
  | none=>vlE 1
  | some d=>
   if d.k=1 then vlN d.n
   else if d.k=2 then vlT d.t
   else if d.k=4 then vlE 4
   else if d.k=5 then refS bk g own d
   else if d.k=7 then
    (match d.kids with
    | [a]=>sumS (match ns[a]? with | some e=>zb2 bk g own e | none=>[])
    | [a,b,c]=>ifS (evN ns bk g own f a) (evN ns bk g own f b) (evN ns bk g own f c)
    | _=>vlE 1)
   else match d.kids with
    | [a,b]=>twoS d.k (evN ns bk g own f a) (evN ns bk g own f b)
    | _=>vlE 1
def evS (ns:List Nk) (bk:Bok) (g:Grd) (own:List Nat):Vl:=evN ns bk g own ns.length (ns.length - 1)
end
end Go.Proofs.YtbchdlelmkmagaaGreatDoor.VM
namespace Go.Proofs.YtbchdlelmkmagaaGreatDoor.VM
open Go
noncomputable section
theorem ze:El EE 48 3 [.int .i64 0,.int .i64 0,.str []] true:=zfe (by kernel_rfl) rfl
theorem zF (b o:Nat) (q:V→Prop):(Pu EE).faddr 48 (.ptr b o) 0 q↔q (.ptr b (o+0)):=zcK (by kernel_rfl) q
theorem zat (b o:Nat) (q:V→Prop):(Pu EE).faddr 48 (.ptr b o) 1 q↔q (.ptr b (o+1)):=zcK (by kernel_rfl) q
theorem zdq (b o:Nat) (q:V→Prop):(Pu EE).faddr 48 (.ptr b o) 2 q↔q (.ptr b (o+2)):=zcK (by kernel_rfl) q
theorem za2:ze2 EE 48 [(0,1),(1,1),(2,1)] [.int .i64 0,.int .i64 0,.str []]:=zgG (by kernel_rfl)
theorem zM:IsSl EE 39 48:=isSl (by kernel_rfl)
theorem zN:El EE 39 1 [.nils] false:=zfe (by kernel_rfl) rfl
theorem zaC:IsSl EE 35 39:=isSl (by kernel_rfl)
theorem zap:El EE 35 1 [.nils] false:=zfe (by kernel_rfl) rfl
theorem zaa:IsSl EE 29 35:=isSl (by kernel_rfl)
theorem zdO:El EE 29 1 [.nils] false:=zfe (by kernel_rfl) rfl
theorem zau:El EE 133 3 [.bool false,.int .i64 0,.nils] true:=zfe (by kernel_rfl) rfl
theorem zdl (b o:Nat) (q:V→Prop):(Pu EE).faddr 133 (.ptr b o) 0 q↔q (.ptr b (o+0)):=zcK (by kernel_rfl) q
theorem zaw (b o:Nat) (q:V→Prop):(Pu EE).faddr 133 (.ptr b o) 2 q↔q (.ptr b (o+2)):=zcK (by kernel_rfl) q
theorem zfP:ze2 EE 133 [(0,1),(1,1),(2,1)] [.bool false,.int .i64 0,.nils]:=zgG (by kernel_rfl)
theorem zQ:IsSl EE 131 133:=isSl (by kernel_rfl)
theorem zjZ:El EE 131 1 [.nils] false:=zfe (by kernel_rfl) rfl
theorem zcf:El EE 74 4 [.nils,.str [],.nils,.nils] true:=zfe (by kernel_rfl) rfl
theorem ze8 (b o:Nat) (q:V→Prop):(Pu EE).faddr 74 (.ptr b o) 0 q↔q (.ptr b (o+0)):=zcK (by kernel_rfl) q
theorem fa_calc_eval_1 (b o:Nat) (q:V→Prop):(Pu EE).faddr 74 (.ptr b o) 1 q↔q (.ptr b (o+1)):=zcK (by kernel_rfl) q
theorem zeX (b o:Nat) (q:V→Prop):(Pu EE).faddr 74 (.ptr b o) 2 q↔q (.ptr b (o+2)):=zcK (by kernel_rfl) q
theorem zkr (b o:Nat) (q:V→Prop):(Pu EE).faddr 74 (.ptr b o) 3 q↔q (.ptr b (o+3)):=zcK (by kernel_rfl) q
theorem so_calc_eval:ze2 EE 74 [(0,1),(1,1),(2,1),(3,1)] [.nils,.str [],.nils,.nils]:=zgG (by kernel_rfl)
end
end Go.Proofs.YtbchdlelmkmagaaGreatDoor.VM
namespace Go.Proofs.YtbchdlelmkmagaaGreatDoor.VM
open Go
set_option linter.unusedVariables false
set_option maxRecDepth 100000
noncomputable section
noncomputable def c_deps_Order:Code:=match Tryz.f10.body with | some c=>c | none=>.skip
noncomputable def zV:Fl:=⟨Tryz.f10,c_deps_Order,[([false,true,false,true,true,true,true],[1,2,3,4,5,30,31,32]),([false,true,false,true,true,true,true,true,true],[1,2,3,4,5,8,40,41,42]),([false,true,true,false,false,true,true,false,false,true,false,true,true,true,true,true,true],[1,2,3,4,5,8,10,40,41,42,48,49,50]),([false,true,false,true,true,true,true,true,true,true,true],[2,3,4,5,8,15,79,80,81]),([false,false,true,true,true,true,true,true,true,true,true],[2,3,4,5,8,15]),([false,true,true,true,false,true,false,false,false,true,true,true,true,true,true,true,true,true],[2,3,4,5,8,15,111,112,113]),([false,true,false,true,true,true,true,true,true,true,true,true,true],[2,3,5,133,134,135])]⟩
abbrev zhh (Q:QQ) (v1 v2 v3 v4 v5 v30 v31 v32:V) (h:Hp):Prop:=zV.L EE Q 1 [v1,v2,v3,v4,v5,v30,v31,v32] h
abbrev zg8 (Q:QQ) (v1 v2 v3 v4 v5 v8 v40 v41 v42:V) (h:Hp):Prop:=zV.L EE Q 2 [v1,v2,v3,v4,v5,v8,v40,v41,v42] h
abbrev zgU (Q:QQ) (v1 v2 v3 v4 v5 v8 v10 v40 v41 v42 v48 v49 v50:V) (h:Hp):Prop:=zV.L EE Q 3 [v1,v2,v3,v4,v5,v8,v10,v40,v41,v42,v48,v49,v50] h
abbrev zkK (Q:QQ) (v2 v3 v4 v5 v8 v15 v79 v80 v81:V) (h:Hp):Prop:=zV.L EE Q 4 [v2,v3,v4,v5,v8,v15,v79,v80,v81] h
abbrev zbX (Q:QQ) (v2 v3 v4 v5 v8 v15:V) (h:Hp):Prop:=zV.L EE Q 5 [v2,v3,v4,v5,v8,v15] h
abbrev zgT (Q:QQ) (v2 v3 v4 v5 v8 v15 v111 v112 v113:V) (h:Hp):Prop:=zV.L EE Q 6 [v2,v3,v4,v5,v8,v15,v111,v112,v113] h
abbrev zg9 (Q:QQ) (v2 v3 v5 v133 v134 v135:V) (h:Hp):Prop:=zV.L EE Q 7 [v2,v3,v5,v133,v134,v135] h
noncomputable def zg7 (p:Pr) (l:LL) (Q:QQ) (v0:V) (h:Hp):Prop:=
 p.box h 26 v0 fun x1 h2 b3=>
 p.load h2 26 x1 fun x4=>
 p.call 16 [x4] h2 fun x5 h6=>
 p.un .not x5 fun x7=>
 p.cond x7
 (fun _=>
  Q (.tup [.nils,.nils]) h6)
 (fun _=>
  p.load h6 26 x1 fun x8=>
  p.call 26 [x8] h6 fun x9 h10=>
  p.mkmap h10 true fun x11 h12 b13=>
  p.lbui h12 #[32] .len [x9] fun x14=>
  l 1 [x1,.nils,.nils,x9,x11,x9,x14,(.int .i64 0)] h12)
theorem q_deps_Order_0 (p:Pr) (l:LL) (Q:QQ) (v0:V) (h:Hp):zg7 p l Q v0 h=zV.K p EE l Q [] ([v0]++List.replicate 149 zj) h:=by kernel_rfl
theorem a_deps_Order {Q:QQ} {v0:V} {h:Hp} (H:zg7 (Pu EE) (zV.L EE Q) Q v0 h):Ans EE 10 [v0] h Q:=
 ansL (F:=zV) (by kernel_rfl) (by kernel_rfl) (by kernel_rfl) (by kernel_rfl) (cast (q_deps_Order_0 _ _ _ v0 h) H)
noncomputable def ze1 (p:Pr) (l:LL) (Q:QQ) (v1 v2 v3 v4 v5 v30 v31 v32:V) (h:Hp):Prop:=
 p.bin .lss 3 false false v32 v31 fun x1=>
 p.cond x1
 (fun _=>
  p.iaddr 32 v30 v32 fun x2=>
  p.load h 42 x2 fun x3=>
  p.alloc h 42 fun x4 h5 b6=>
  p.store h5 42 x4 x3 fun h7=>
  p.load h7 42 x4 fun x8=>
  p.mapu h7 56 v5 x8 (.int .i64 0) fun h9=>
  p.bin .add 3 false true v32 (.int .i64 1) fun x10=>
  l 1 [v1,v2,v3,v4,v5,v30,v31,x10] h9)
 (fun _=>
  p.mkmap h true fun x11 h12 b13=>
  p.lbui h12 #[32] .len [v4] fun x14=>
  l 2 [v1,v2,v3,v4,v5,x11,v4,x14,(.int .i64 0)] h12)
theorem q_deps_Order_1 (p:Pr) (l:LL) (Q:QQ) (s:List V) (h:Hp):ze1 p l Q (nth s 1) (nth s 2) (nth s 3) (nth s 4) (nth s 5) (nth s 30) (nth s 31) (nth s 32) h=zV.K p EE l Q [true,true,true,true,false,true,false] (nths s 150 0) h:=by kernel_rfl
theorem zky {Q:QQ} {v1 v2 v3 v4 v5 v30 v31 v32:V} {h:Hp} (H:ze1 (Pu EE) (zV.L EE Q) Q v1 v2 v3 v4 v5 v30 v31 v32 h):zhh Q v1 v2 v3 v4 v5 v30 v31 v32 h:=
 labR (path:=[true,true,true,true,false,true,false]) rfl rfl fun s e=>by cases e; exact cast (q_deps_Order_1 _ _ _ s h) H
noncomputable def zeY (p:Pr) (l:LL) (Q:QQ) (v1 v2 v3 v4 v5 v8 v40 v41 v42:V) (h:Hp):Prop:=
 p.bin .lss 3 false false v42 v41 fun x1=>
 p.cond x1
 (fun _=>
  p.iaddr 32 v40 v42 fun x2=>
  p.load h 42 x2 fun x3=>
  p.alloc h 42 fun x4 h5 b6=>
  p.store h5 42 x4 x3 fun h7=>
  p.load h7 26 v1 fun x8=>
  p.load h7 42 x4 fun x9=>
  p.call 27 [x8,x9] h7 fun x10 h11=>
  p.lbui h11 #[32] .len [x10] fun x12=>
  l 3 [v1,v2,v3,v4,v5,v8,x4,v40,v41,v42,x10,x12,(.int .i64 0)] h11)
 (fun _=>
  p.bsl h 61 0 [] fun x13 h14 b15=>
  p.box h14 61 x13 fun x16 h17 b18=>
  p.lbui h17 #[32] .len [v4] fun x19=>
  l 4 [v2,v3,v4,v5,v8,x16,v4,x19,(.int .i64 0)] h17)
theorem q_deps_Order_2 (p:Pr) (l:LL) (Q:QQ) (s:List V) (h:Hp):zeY p l Q (nth s 1) (nth s 2) (nth s 3) (nth s 4) (nth s 5) (nth s 8) (nth s 40) (nth s 41) (nth s 42) h=zV.K p EE l Q [true,true,true,true,true,true,false,true,false] (nths s 150 0) h:=by kernel_rfl
theorem zkL {Q:QQ} {v1 v2 v3 v4 v5 v8 v40 v41 v42:V} {h:Hp} (H:zeY (Pu EE) (zV.L EE Q) Q v1 v2 v3 v4 v5 v8 v40 v41 v42 h):zg8 Q v1 v2 v3 v4 v5 v8 v40 v41 v42 h:=
 labR (path:=[true,true,true,true,true,true,false,true,false]) rfl rfl fun s e=>by cases e; exact cast (q_deps_Order_2 _ _ _ s h) H
noncomputable def zeO (p:Pr) (l:LL) (Q:QQ) (v1 v2 v3 v4 v5 v8 v10 v40 v41 v42 v48 v49 v50:V) (h:Hp):Prop:=
 p.bin .lss 3 false false v50 v49 fun x1=>
 p.cond x1
 (fun _=>
  p.iaddr 32 v48 v50 fun x2=>
  p.load h 42 x2 fun x3=>
  p.alloc h 42 fun x4 h5 b6=>
  p.store h5 42 x4 x3 fun h7=>
  p.load h7 42 x4 fun x8=>
  p.look h7 56 v5 x8 true fun x9=>
  p.extr x9 0 fun x10=>
  p.extr x9 1 fun x11=>
  p.cond x11
  (fun _=>
  p.load h7 42 v10 fun x12=>
  p.look h7 56 v5 x12 false fun x13=>
  p.bin .add 3 false true x13 (.int .i64 1) fun x14=>
  p.mape h7 56 v5 x12 fun x15 h16=>
  p.look h16 56 v5 x12 false fun x17=>
  p.same x17 x13 (
  p.extr x15 1 fun x18=>
  p.ests h16 v5 x18 x14 fun h19=>
  p.load h19 42 x4 fun x20=>
  p.load h19 42 v10 fun x21=>
  p.bsl h19 32 1 [(0,x21)] fun x22 h23 b24=>
  p.mape h23 57 v8 x20 fun x25 h26=>
  p.extr x25 0 fun x27=>
  p.ebui h26 #[32,32] .append [x27,x22] fun x28 h29=>
  p.extr x25 1 fun x30=>
  p.ests h29 v8 x30 x28 fun h31=>
  p.bin .add 3 false true v50 (.int .i64 1) fun x32=>
  l 3 [v1,v2,v3,v4,v5,v8,v10,v40,v41,v42,v48,v49,x32] h31))
  (fun _=>
  p.bin .add 3 false true v50 (.int .i64 1) fun x33=>
  l 3 [v1,v2,v3,v4,v5,v8,v10,v40,v41,v42,v48,v49,x33] h7))
 (fun _=>
  p.bin .add 3 false true v42 (.int .i64 1) fun x34=>
  l 2 [v1,v2,v3,v4,v5,v8,v40,v41,x34] h)
theorem q_deps_Order_3 (p:Pr) (l:LL) (Q:QQ) (s:List V) (h:Hp):zeO p l Q (nth s 1) (nth s 2) (nth s 3) (nth s 4) (nth s 5) (nth s 8) (nth s 10) (nth s 40) (nth s 41) (nth s 42) (nth s 48) (nth s 49) (nth s 50) h=zV.K p EE l Q [true,true,true,true,true,true,false,true,false,false,true,true,false,false,true,true,false] (nths s 150 0) h:=by kernel_rfl
theorem zkD {Q:QQ} {v1 v2 v3 v4 v5 v8 v10 v40 v41 v42 v48 v49 v50:V} {h:Hp} (H:zeO (Pu EE) (zV.L EE Q) Q v1 v2 v3 v4 v5 v8 v10 v40 v41 v42 v48 v49 v50 h):zgU Q v1 v2 v3 v4 v5 v8 v10 v40 v41 v42 v48 v49 v50 h:=
 labR (path:=[true,true,true,true,true,true,false,true,false,false,true,true,false,false,true,true,false]) rfl rfl fun s e=>by cases e; exact cast (q_deps_Order_3 _ _ _ s h) H
noncomputable def zeQ (p:Pr) (l:LL) (Q:QQ) (v2 v3 v4 v5 v8 v15 v79 v80 v81:V) (h:Hp):Prop:=
 p.bin .lss 3 false false v81 v80 fun x1=>
 p.cond x1
 (fun _=>
  p.iaddr 32 v79 v81 fun x2=>
  p.load h 42 x2 fun x3=>
  p.alloc h 42 fun x4 h5 b6=>
  p.store h5 42 x4 x3 fun h7=>
  p.load h7 42 x4 fun x8=>
  p.look h7 56 v5 x8 false fun x9=>
  p.bin .eql 3 false true x9 (.int .i64 0) fun x10=>
  p.cond x10
  (fun _=>
  p.iface 60 v15 fun x11=>
  p.load h7 42 x4 fun x12=>
  p.iface 42 x12 fun x13=>
  p.call 28 [x11,x13] h7 fun x14 h15=>
  p.bin .add 3 false true v81 (.int .i64 1) fun x16=>
  l 4 [v2,v3,v4,v5,v8,v15,v79,v80,x16] h15)
  (fun _=>
  p.bin .add 3 false true v81 (.int .i64 1) fun x17=>
  l 4 [v2,v3,v4,v5,v8,v15,v79,v80,x17] h7))
 (fun _=>
  l 5 [v2,v3,v4,v5,v8,v15] h)
theorem q_deps_Order_4 (p:Pr) (l:LL) (Q:QQ) (s:List V) (h:Hp):zeQ p l Q (nth s 2) (nth s 3) (nth s 4) (nth s 5) (nth s 8) (nth s 15) (nth s 79) (nth s 80) (nth s 81) h=zV.K p EE l Q [true,true,true,true,true,true,true,true,false,true,false] (nths s 150 0) h:=by kernel_rfl
theorem zkz {Q:QQ} {v2 v3 v4 v5 v8 v15 v79 v80 v81:V} {h:Hp} (H:zeQ (Pu EE) (zV.L EE Q) Q v2 v3 v4 v5 v8 v15 v79 v80 v81 h):zkK Q v2 v3 v4 v5 v8 v15 v79 v80 v81 h:=
 labR (path:=[true,true,true,true,true,true,true,true,false,true,false]) rfl rfl fun s e=>by cases e; exact cast (q_deps_Order_4 _ _ _ s h) H
noncomputable def zeN (p:Pr) (l:LL) (Q:QQ) (v2 v3 v4 v5 v8 v15:V) (h:Hp):Prop:=
 p.call 29 [v15] h fun x1 h2=>
 p.bin .gtr 3 false true x1 (.int .i64 0) fun x3=>
 p.cond x3
 (fun _=>
  p.iface 60 v15 fun x4=>
  p.call 30 [x4] h2 fun x5 h6=>
  p.assert x5 42 true fun x7=>
  p.extr x7 0 fun x8=>
  p.extr x7 1 fun x9=>
  p.alloc h6 42 fun x10 h11 b12=>
  p.store h11 42 x10 x8 fun h13=>
  p.load h13 42 x10 fun x14=>
  p.bsl h13 32 1 [(0,x14)] fun x15 h16 b17=>
  p.ebui h16 #[32,32] .append [v2,x15] fun x18 h19=>
  p.load h19 42 x10 fun x20=>
  p.look h19 57 v8 x20 false fun x21=>
  p.lbui h19 #[32] .len [x21] fun x22=>
  l 6 [x18,v3,v4,v5,v8,v15,x21,x22,(.int .i64 0)] h19)
 (fun _=>
  p.lbui h2 #[32] .len [v4] fun x23=>
  l 7 [v2,v3,v5,v4,x23,(.int .i64 0)] h2)
theorem q_deps_Order_5 (p:Pr) (l:LL) (Q:QQ) (s:List V) (h:Hp):zeN p l Q (nth s 2) (nth s 3) (nth s 4) (nth s 5) (nth s 8) (nth s 15) h=zV.K p EE l Q [true,true,true,true,true,true,true,true,true,false,false] (nths s 150 0) h:=by kernel_rfl
theorem zkM {Q:QQ} {v2 v3 v4 v5 v8 v15:V} {h:Hp} (H:zeN (Pu EE) (zV.L EE Q) Q v2 v3 v4 v5 v8 v15 h):zbX Q v2 v3 v4 v5 v8 v15 h:=
 labR (path:=[true,true,true,true,true,true,true,true,true,false,false]) rfl rfl fun s e=>by cases e; exact cast (q_deps_Order_5 _ _ _ s h) H
noncomputable def ze5 (p:Pr) (l:LL) (Q:QQ) (v2 v3 v4 v5 v8 v15 v111 v112 v113:V) (h:Hp):Prop:=
 p.bin .lss 3 false false v113 v112 fun x1=>
 p.cond x1
 (fun _=>
  p.iaddr 32 v111 v113 fun x2=>
  p.load h 42 x2 fun x3=>
  p.alloc h 42 fun x4 h5 b6=>
  p.store h5 42 x4 x3 fun h7=>
  p.load h7 42 x4 fun x8=>
  p.look h7 56 v5 x8 false fun x9=>
  p.bin .sub 3 false true x9 (.int .i64 1) fun x10=>
  p.mape h7 56 v5 x8 fun x11 h12=>
  p.look h12 56 v5 x8 false fun x13=>
  p.same x13 x9 (
  p.extr x11 1 fun x14=>
  p.ests h12 v5 x14 x10 fun h15=>
  p.load h15 42 x4 fun x16=>
  p.look h15 56 v5 x16 false fun x17=>
  p.bin .eql 3 false true x17 (.int .i64 0) fun x18=>
  p.cond x18
  (fun _=>
  p.iface 60 v15 fun x19=>
  p.load h15 42 x4 fun x20=>
  p.iface 42 x20 fun x21=>
  p.call 28 [x19,x21] h15 fun x22 h23=>
  p.bin .add 3 false true v113 (.int .i64 1) fun x24=>
  l 6 [v2,v3,v4,v5,v8,v15,v111,v112,x24] h23)
  (fun _=>
  p.bin .add 3 false true v113 (.int .i64 1) fun x25=>
  l 6 [v2,v3,v4,v5,v8,v15,v111,v112,x25] h15)))
 (fun _=>
  l 5 [v2,v3,v4,v5,v8,v15] h)
theorem q_deps_Order_6 (p:Pr) (l:LL) (Q:QQ) (s:List V) (h:Hp):ze5 p l Q (nth s 2) (nth s 3) (nth s 4) (nth s 5) (nth s 8) (nth s 15) (nth s 111) (nth s 112) (nth s 113) h=zV.K p EE l Q [true,true,true,true,true,true,true,true,true,false,false,false,true,false,true,true,true,false] (nths s 150 0) h:=by kernel_rfl
theorem zkN {Q:QQ} {v2 v3 v4 v5 v8 v15 v111 v112 v113:V} {h:Hp} (H:ze5 (Pu EE) (zV.L EE Q) Q v2 v3 v4 v5 v8 v15 v111 v112 v113 h):zgT Q v2 v3 v4 v5 v8 v15 v111 v112 v113 h:=
 labR (path:=[true,true,true,true,true,true,true,true,true,false,false,false,true,false,true,true,true,false]) rfl rfl fun s e=>by cases e; exact cast (q_deps_Order_6 _ _ _ s h) H
noncomputable def zeU (p:Pr) (l:LL) (Q:QQ) (v2 v3 v5 v133 v134 v135:V) (h:Hp):Prop:=
 p.bin .lss 3 false false v135 v134 fun x1=>
 p.cond x1
 (fun _=>
  p.iaddr 32 v133 v135 fun x2=>
  p.load h 42 x2 fun x3=>
  p.alloc h 42 fun x4 h5 b6=>
  p.store h5 42 x4 x3 fun h7=>
  p.load h7 42 x4 fun x8=>
  p.look h7 56 v5 x8 false fun x9=>
  p.bin .gtr 3 false true x9 (.int .i64 0) fun x10=>
  p.cond x10
  (fun _=>
  p.load h7 42 x4 fun x11=>
  p.bsl h7 32 1 [(0,x11)] fun x12 h13 b14=>
  p.ebui h13 #[32,32] .append [v3,x12] fun x15 h16=>
  p.bin .add 3 false true v135 (.int .i64 1) fun x17=>
  l 7 [v2,x15,v5,v133,v134,x17] h16)
  (fun _=>
  p.bin .add 3 false true v135 (.int .i64 1) fun x18=>
  l 7 [v2,v3,v5,v133,v134,x18] h7))
 (fun _=>
  Q (.tup [v2,v3]) h)
theorem q_deps_Order_7 (p:Pr) (l:LL) (Q:QQ) (s:List V) (h:Hp):zeU p l Q (nth s 2) (nth s 3) (nth s 5) (nth s 133) (nth s 134) (nth s 135) h=zV.K p EE l Q [true,true,true,true,true,true,true,true,true,true,false,true,false] (nths s 150 0) h:=by kernel_rfl
theorem zkP {Q:QQ} {v2 v3 v5 v133 v134 v135:V} {h:Hp} (H:zeU (Pu EE) (zV.L EE Q) Q v2 v3 v5 v133 v134 v135 h):zg9 Q v2 v3 v5 v133 v134 v135 h:=
 labR (path:=[true,true,true,true,true,true,true,true,true,true,false,true,false]) rfl rfl fun s e=>by cases e; exact cast (q_deps_Order_7 _ _ _ s h) H
noncomputable def c_law10_Book:Code:=match Tryz.f6.body with | some c=>c | none=>.skip
noncomputable def zaZ:Fl:=⟨Tryz.f6,c_law10_Book,[([false,true,false,true,true,true],[0,1,4,5,6,7]),([false,true,false,true,false,false,true,false,false,true,false,true,true,true],[0,1,4,5,6,7,8,9]),([false,true,false,true,false,false,true,false,false,true,false,true,false,false,true,false,false,true,false,true,true,true],[0,1,4,5,6,7,8,9,10,11])]⟩
abbrev zgY (Q:QQ) (v0 v1 v4 v5 v6 v7:V) (h:Hp):Prop:=zaZ.L EE Q 1 [v0,v1,v4,v5,v6,v7] h
abbrev zeS (Q:QQ) (v0 v1 v4 v5 v6 v7 v8 v9:V) (h:Hp):Prop:=zaZ.L EE Q 2 [v0,v1,v4,v5,v6,v7,v8,v9] h
abbrev zkF (Q:QQ) (v0 v1 v4 v5 v6 v7 v8 v9 v10 v11:V) (h:Hp):Prop:=zaZ.L EE Q 3 [v0,v1,v4,v5,v6,v7,v8,v9,v10,v11] h
noncomputable def zhe (p:Pr) (l:LL) (Q:QQ) (v0 v1:V) (h:Hp):Prop:=
 p.alloc h 26 fun x1 h2 b3=>
 p.alloc h2 26 fun x4 h5 b6=>
 l 1 [v0,v1,x1,x4,(.int .i64 0),(.int .i64 0)] h5
theorem q_law10_Book_0 (p:Pr) (l:LL) (Q:QQ) (v0 v1:V) (h:Hp):zhe p l Q v0 v1 h=zaZ.K p EE l Q [] ([v0,v1]++List.replicate 83 zj) h:=by kernel_rfl
theorem a_law10_Book {Q:QQ} {v0 v1:V} {h:Hp} (H:zhe (Pu EE) (zaZ.L EE Q) Q v0 v1 h):Ans EE 6 [v0,v1] h Q:=
 ansL (F:=zaZ) (by kernel_rfl) (by kernel_rfl) (by kernel_rfl) (by kernel_rfl) (cast (q_law10_Book_0 _ _ _ v0 v1 h) H)
noncomputable def zeV (p:Pr) (l:LL) (Q:QQ) (v0 v1 v4 v5 v6 v7:V) (h:Hp):Prop:=
 p.conv h 5 3 v1 fun x1=>
 p.bin .rem 3 false true x1 (.int .i64 3) fun x2=>
 p.bin .add 3 true false (.int .i64 1) x2 fun x3=>
 p.bin .lss 3 false false v7 x3 fun x4=>
 p.cond x4
 (fun _=>
  p.bin .add 3 true false (.int .i64 65) v7 fun x5=>
  p.conv h 5 3 v1 fun x6=>
  p.bin .quo 3 false true x6 (.int .i64 64) fun x7=>
  p.bin .mul 3 false false x7 v7 fun x8=>
  p.bin .add 3 false false x5 x8 fun x9=>
  p.conv h 3 5 x9 fun x10=>
  p.bsl h 22 1 [(0,x10)] fun x11 h12 b13=>
  p.conv h12 22 9 x11 fun x14=>
  p.conv h12 5 3 v1 fun x15=>
  p.bin .quo 3 false true x15 (.int .i64 3) fun x16=>
  p.bin .rem 3 false true x16 (.int .i64 4) fun x17=>
  p.bin .add 3 true false (.int .i64 1) x17 fun x18=>
  p.build 38 [(0,x14),(1,x18)] fun x19=>
  p.alloc h12 38 fun x20 h21 b22=>
  p.store h21 38 x20 x19 fun h23=>
  l 2 [v0,v1,v4,v5,v6,v7,x20,(.int .i64 0)] h23)
 (fun _=>
  p.load h 26 v5 fun x24=>
  p.store h 26 v4 x24 fun h25=>
  p.load h25 26 v4 fun x26=>
  Q x26 h25)
theorem q_law10_Book_1 (p:Pr) (l:LL) (Q:QQ) (s:List V) (h:Hp):zeV p l Q (nth s 0) (nth s 1) (nth s 4) (nth s 5) (nth s 6) (nth s 7) h=zaZ.K p EE l Q [true,true,true,false,true,false] (nths s 85 0) h:=by kernel_rfl
theorem zku {Q:QQ} {v0 v1 v4 v5 v6 v7:V} {h:Hp} (H:zeV (Pu EE) (zaZ.L EE Q) Q v0 v1 v4 v5 v6 v7 h):zgY Q v0 v1 v4 v5 v6 v7 h:=
 labR (path:=[true,true,true,false,true,false]) rfl rfl fun s e=>by cases e; exact cast (q_law10_Book_1 _ _ _ s h) H
noncomputable def ze3 (p:Pr) (l:LL) (Q:QQ) (v0 v1 v4 v5 v6 v7 v8 v9:V) (h:Hp):Prop:=
 p.conv h 5 3 v1 fun x1=>
 p.bin .quo 3 false true x1 (.int .i64 12) fun x2=>
 p.bin .rem 3 false true x2 (.int .i64 5) fun x3=>
 p.bin .add 3 true false (.int .i64 1) x3 fun x4=>
 p.bin .lss 3 false false v9 x4 fun x5=>
 p.cond x5
 (fun _=>
  p.faddr 38 v8 1 fun x6=>
  p.load h 3 x6 fun x7=>
  p.mksl h 40 x7 x7 fun x8 h9 b10=>
  l 3 [v0,v1,v4,v5,v6,v7,v8,v9,x8,(.int .i64 0)] h9)
 (fun _=>
  p.faddr 26 v5 0 fun x11=>
  p.load h 24 x11 fun x12=>
  p.load h 38 v8 fun x13=>
  p.bsl h 24 1 [(0,x13)] fun x14 h15 b16=>
  p.ebui h15 #[24,24] .append [x12,x14] fun x17 h18=>
  p.faddr 26 v5 0 fun x19=>
  p.store h18 24 x19 x17 fun h20=>
  p.bin .add 3 false true v7 (.int .i64 1) fun x21=>
  l 1 [v0,v1,v4,v5,v6,x21] h20)
theorem q_law10_Book_2 (p:Pr) (l:LL) (Q:QQ) (s:List V) (h:Hp):ze3 p l Q (nth s 0) (nth s 1) (nth s 4) (nth s 5) (nth s 6) (nth s 7) (nth s 8) (nth s 9) h=zaZ.K p EE l Q [true,true,true,false,true,false,false,true,false,false,true,false,true,false] (nths s 85 0) h:=by kernel_rfl
theorem zks {Q:QQ} {v0 v1 v4 v5 v6 v7 v8 v9:V} {h:Hp} (H:ze3 (Pu EE) (zaZ.L EE Q) Q v0 v1 v4 v5 v6 v7 v8 v9 h):zeS Q v0 v1 v4 v5 v6 v7 v8 v9 h:=
 labR (path:=[true,true,true,false,true,false,false,true,false,false,true,false,true,false]) rfl rfl fun s e=>by cases e; exact cast (q_law10_Book_2 _ _ _ s h) H
noncomputable def ze4 (p:Pr) (l:LL) (Q:QQ) (v0 v1 v4 v5 v6 v7 v8 v9 v10 v11:V) (h:Hp):Prop:=
 p.faddr 38 v8 1 fun x1=>
 p.load h 3 x1 fun x2=>
 p.bin .lss 3 false false v11 x2 fun x3=>
 p.gval x3 true (fun k4=>
  k4 v6) fun x5=>
 p.gval x3 true (fun k6=>
  k6 v0) fun x7=>
 p.gval x3 true (fun k8=>
  p.lbui h #[22] .len [x7] fun x9=>
  k8 x9) fun x10=>
 p.gval x3 true (fun k11=>
  p.bin .lss 3 false false x5 x10 fun x12=>
  k11 x12) fun x13=>
 p.pick x3 (some x13) (some (.bool false)) fun x14=>
 p.cond x14
 (fun _=>
  p.iaddr 22 v0 v6 fun x15=>
  p.load h 5 x15 fun x16=>
  p.conv h 5 3 x16 fun x17=>
  p.call 15 [x17] h fun x18 h19=>
  p.iaddr 40 v10 v11 fun x20=>
  p.store h19 9 x20 x18 fun h21=>
  p.bin .add 3 false true v6 (.int .i64 1) fun x22=>
  p.bin .add 3 false true v11 (.int .i64 1) fun x23=>
  l 3 [v0,v1,v4,v5,x22,v7,v8,v9,v10,x23] h21)
 (fun _=>
  p.faddr 38 v8 2 fun x24=>
  p.load h 36 x24 fun x25=>
  p.bsl h 36 1 [(0,v10)] fun x26 h27 b28=>
  p.ebui h27 #[36,36] .append [x25,x26] fun x29 h30=>
  p.faddr 38 v8 2 fun x31=>
  p.store h30 36 x31 x29 fun h32=>
  p.bin .add 3 false true v9 (.int .i64 1) fun x33=>
  l 2 [v0,v1,v4,v5,v6,v7,v8,x33] h32)
theorem q_law10_Book_3 (p:Pr) (l:LL) (Q:QQ) (s:List V) (h:Hp):ze4 p l Q (nth s 0) (nth s 1) (nth s 4) (nth s 5) (nth s 6) (nth s 7) (nth s 8) (nth s 9) (nth s 10) (nth s 11) h=zaZ.K p EE l Q [true,true,true,false,true,false,false,true,false,false,true,false,true,false,false,true,false,false,true,false,true,false] (nths s 85 0) h:=by kernel_rfl
theorem zko {Q:QQ} {v0 v1 v4 v5 v6 v7 v8 v9 v10 v11:V} {h:Hp} (H:ze4 (Pu EE) (zaZ.L EE Q) Q v0 v1 v4 v5 v6 v7 v8 v9 v10 v11 h):zkF Q v0 v1 v4 v5 v6 v7 v8 v9 v10 v11 h:=
 labR (path:=[true,true,true,false,true,false,false,true,false,false,true,false,true,false,false,true,false,false,true,false,true,false]) rfl rfl fun s e=>by cases e; exact cast (q_law10_Book_3 _ _ _ s h) H
end
end Go.Proofs.YtbchdlelmkmagaaGreatDoor.VM
namespace Go.Proofs.YtbchdlelmkmagaaGreatDoor.VM
open Go
set_option linter.unusedVariables false
set_option linter.unusedSectionVars false
set_option linter.unusedSimpArgs false
set_option maxRecDepth 20000
noncomputable section
attribute [local instance] syZ
theorem w8 (n:Nat) (h:n < 256):IntKind.u8.wrap (n:Int)=(n:Int):=by
 unfold IntKind.wrap
 simp [IntKind.bits,IntKind.signed]
 omega
theorem conv8 (n:Nat) (h:n < 256) (hp:Hp) (q:V→Prop):(Pu EE).conv hp 5 3 (.int .u8 n) q↔q (.int .i64 n):=by
 obtain ⟨i,h1,h2⟩:=i_uint8
 obtain ⟨j,h3,h4⟩:=i_int
 rw [zln hp _ _ i j .i64 .u8 h1 h3 h4,w64 _ (by omega)]
theorem to8 (n:Nat) (h:n < 256) (hp:Hp) (q:V→Prop):(Pu EE).conv hp 3 5 (.int .i64 n) q↔q (.int .u8 n):=by
 obtain ⟨i,h1,h2⟩:=i_int
 obtain ⟨j,h3,h4⟩:=i_uint8
 rw [zln hp _ _ i j .u8 .i64 h1 h3 h4,w8 _ h]
theorem remN (a b:Nat) (hb:0 < b) (t:Nat) (cx cy:Bool) (q:V→Prop):(Pu EE).bin .rem t cx cy (.int .i64 a) (.int .i64 b) q↔q (.int .i64 ((a % b:Nat):Int)):=by
 rw [pu_rem _ _ _ _ _ _ (by omega)]
 have:(a:Int).tmod (b:Int)=((a % b:Nat):Int):=by rw [Int.tmod_eq_emod_of_nonneg (by omega)]; omega
 rw [this]
theorem quoN (a b:Nat) (ha:a < 1000000) (hb:0 < b) (t:Nat) (cx cy:Bool) (q:V→Prop):(Pu EE).bin .quo t cx cy (.int .i64 a) (.int .i64 b) q↔q (.int .i64 ((a / b:Nat):Int)):=by
 rw [pu_quo _ _ _ _ _ _ (by omega)]
 have:(a:Int).tdiv (b:Int)=((a / b:Nat):Int):=by rw [Int.tdiv_eq_ediv_of_nonneg (by omega)]; omega
 have h2:a / b≤a:=Nat.div_le_self _ _
 rw [this,w64 _ (by omega)]
theorem addN (a b:Nat) (h:a+b < 1000000) (t:Nat) (cx cy:Bool) (q:V→Prop):(Pu EE).bin .add t cx cy (.int .i64 a) (.int .i64 b) q↔q (.int .i64 ((a+b:Nat):Int)):=by
 rw [pu_add,show (a:Int)+(b:Int)=((a+b:Nat):Int) by omega,w64 _ (by omega)]
theorem mulN (a b:Nat) (h:a * b < 1000000) (t:Nat) (cx cy:Bool) (q:V→Prop):(Pu EE).bin .mul t cx cy (.int .i64 a) (.int .i64 b) q↔q (.int .i64 ((a * b:Nat):Int)):=by
 rw [pu_mul,show (a:Int) * (b:Int)=((a * b:Nat):Int) by rw [Int.natCast_mul],w64 _ (by omega)]
theorem memoH_tx (n:Nat) (h:Hp):∀ l:List Nat,n ∈ l→memoH (l.map txMemo) [.int .i64 (Int.ofNat n)] h=some (.str (txt n),h.app [])
 | [],hn=>by cases hn
 | m::l,hn=>by
  rw [List.map_cons,memoH]
  have e:eqS (txMemo m).al [.int .i64 (Int.ofNat n)]=decide (m=n):=by
   show (bif keq .i64 .i64 && ieq (Int.ofNat m) (Int.ofNat n) then eqS [] [] else false)=_
   rw [zet,zbc,show decide (Int.ofNat m=Int.ofNat n)=decide (m=n) from by rw [decide_eq_decide]; exact ⟨Int.ofNat.inj,fun e=>by rw [e]⟩]
   by_cases h:m=n
   ·subst h; simp [eqS]
   ·simp [h,eqS]
  rw [e]
  by_cases hmn:m=n
  ·subst hmn
   rw [decide_eq_true rfl,cond_true]
   simp [txMemo,V.ren]
  ·rw [decide_eq_false hmn,cond_false]
   refine memoH_tx n h l ?_
   rcases List.mem_cons.1 hn with e | e
   ·exact absurd e.symm hmn
   ·exact e
theorem hook_T:EE.hook 15=some (memoH txM):=by kernel_rfl
theorem text_ok {n:Nat} (hn:n < 256) (h:Hp):Ans EE 15 [.int .i64 n] h fun v h'=>v=.str (txt n)∧Ext h.n h h':=
 ⟨_,_,Cs.hook hook_T (memoH_tx n h _ (List.mem_range.2 hn)),rfl,by simp [Hp.app],fun b hb=>Hp.get_app_old _ _ hb⟩
theorem Rd.same {h h':Hp} {sz:Nat} {v:V} {len:Nat} {cs:List V} (r:Rd h sz v len cs) (e:∀ c,zI v=some c→h'.t.get c=h.t.get c):Rd h' sz v len cs:=by
 refine ⟨r.sized,r.at_.imp id ?_⟩
 rintro ⟨b,off,vs,h1,h2,h3⟩
 refine ⟨b,off,vs,?_,h2,h3⟩
 unfold zas at h1 ⊢
 rw [e b (by rcases h3 with ⟨c,rfl⟩ | ⟨lo,z,rfl⟩ <;> rfl)]
 exact h1
def ok (hot:Nat→Prop) (h:Hp) (v:V):Prop:=∀ c,zI v=some c→c < h.n∧¬ hot c
def RowC (hot:Nat→Prop) (h:Hp) (v:V) (r:List (List Nat)):Prop:=Rd h 1 v r.length (r.map V.str)∧ok hot h v
def RowsC (hot:Nat→Prop) (h:Hp) (v:V) (rs:List (List (List Nat))):Prop:=∃ vs,Rd h 1 v rs.length vs∧ok hot h v∧∀ (i:Nat) (r:List (List Nat)),rs[i]? = some r→∃ w,vs[i]? = some w∧RowC hot h w r
structure Hot (hot hot':Nat→Prop) (h h':Hp):Prop where
 n:h.n≤h'.n
 keep:∀ c,c < h.n→¬ hot c→h'.t.get c=h.t.get c
 hot:∀ c,c < h.n→hot' c→hot c
section
variable {hot hot':Nat→Prop} {h h':Hp}
theorem ok.step {v:V} (o:ok hot h v) (s:Hot hot hot' h h'):ok hot' h' v:=fun c hc=>by
 obtain ⟨h1,h2⟩:=o c hc
 have:=s.n
 exact ⟨by omega,fun h3=>h2 (s.hot c h1 h3)⟩
theorem RowC.step {v:V} {r:List (List Nat)} (a:RowC hot h v r) (s:Hot hot hot' h h'):RowC hot' h' v r:=
 ⟨a.1.same fun c hc=>s.keep c (a.2 c hc).1 (a.2 c hc).2,a.2.step s⟩
theorem RowsC.step {v:V} {rs:List (List (List Nat))} (a:RowsC hot h v rs) (s:Hot hot hot' h h'):RowsC hot' h' v rs:=by
 obtain ⟨vs,h1,h2,h3⟩:=a
 exact ⟨vs,h1.same fun c hc=>s.keep c (h2 c hc).1 (h2 c hc).2,h2.step s,fun i r hr=>by obtain ⟨w,h4,h5⟩:=h3 i r hr; exact ⟨w,h4,h5.step s⟩⟩
end
theorem zgR {t e sz:Nat} {z:List V} {ag:Bool} (ht:IsSl EE t e) (he:El EE e sz z ag) (b off len cap i:Nat) (hi:i < len) (k:IntKind) (q:V→Prop):(Pu EE).iaddr t (.sl b off len cap) (.int k i) q↔q (.ptr b (off+i * sz)):=by
 obtain ⟨ti,h1,h2⟩:=ht
 obtain ⟨⟨j,h3,h4,h5,h6,h7⟩,h8⟩:=he
 subst h4
 show (∃ u,zbi EE t (.sl b off len cap) (.int k i)=some u∧q u)↔_
 have hbl:Nat.blt i len=true:=by rw [Nat.blt_eq]; exact hi
 simp only [zbi,zbV,h1,Option.bind_some,h2,h3,hbl,cond_true,zT]
theorem rep_one (n:Nat) (z:V):rep n [z]=List.replicate n z:=by
 induction n with
 | zero=>rfl
 | succ n ih=>rw [List.replicate_succ,← ih]; rfl
theorem pu_mkslX {t e:Nat} {z:V} (ht:IsSl EE t e) (he:El EE e 1 [z] false) {n:Nat} (hn:n≤16) {h:Hp} {q:V→Hp→Blk→Prop} (hq:∀ h1 b,New h h1 b (.cells (List.replicate n z) e false)→q (.sl b 0 n n) h1 (.cells (List.replicate n z) e false)):(Pu EE).mksl h t (.int .i64 n) (.int .i64 n) q:=by
 obtain ⟨ti,h1,h2⟩:=ht
 obtain ⟨⟨j,h3,h4,h5,h6,h7⟩,h8⟩:=he
 have hr:=rep_one n z
 have hb:(Nat.ble n n && Nat.ble (j.bytes * n) 1048576 && Nat.ble n 1048576 && Nat.beq [z].length j.size)=true:=by
  have:j.bytes * n≤65536 * 16:=Nat.mul_le_mul h6 hn
  rw [h4]
  simp only [Bool.and_eq_true,Nat.ble_eq,List.length_cons,List.length_nil,Nat.beq_eq]
  exact ⟨⟨⟨Nat.le_refl _,by omega⟩,by omega⟩,trivial⟩
 refine ⟨(.sl n n,.cells (List.replicate n z) e false),?_,hq _ _ (New.mk' _ _)⟩
 simp only [h1,Option.bind_some,makeV,h2,zbV,h3,h5,hb,cond_true,hr]
end
end Go.Proofs.YtbchdlelmkmagaaGreatDoor.VM
namespace Go.Proofs.YtbchdlelmkmagaaGreatDoor.VM
open Go
set_option linter.unusedVariables false
set_option linter.unusedSectionVars false
set_option linter.unusedSimpArgs false
set_option maxRecDepth 20000
noncomputable section
attribute [local instance] syZ
theorem append_el {N:Nat} {h:Hp} {v:V} {e sz len:Nat} {cs:List V} (o:Own N h v e sz len cs) {t:Nat} (ht:IsSl EE t e) {z:List V} {ag:Bool} (he:El EE e sz z ag) (x:V) (hx:x.cells.length=sz) (hc:zh x.cells=true) (hs:sz≤65536) (hlen:len+1≤1048576) (hN:N≤h.n) (q:V→Hp→Prop)
  (hq:∀ v' h',Own N h' v' e sz (len+1) (cs++x.cells)→Ext N h h'→(∀ c,c < h.n→zI v ≠ some c→h'.t.get c=h.t.get c)→(∀ c,zI v'=some c→zI v=some c∨h.n≤c)→q v' h'):
  (Pu EE).bsl h t 1 [(0,x)] fun y h1 _=>(Pu EE).ebui h1 #[t,t] .append [v,y] q:=by
 rw [zcL ht he _ hx hs]
 have o1:Own N (h.new (.cells x.cells e false)) v e sz len cs:=o.keep (Nat.le_succ _) (fun c hc=>by rw [Hp.get_new,if_neg (Nat.ne_of_lt (o.in_ c hc))])
 refine app_all o1 ht he (zfu (h:=h) (e:=e) (ws:=x.cells) hx).rd hc hlen (Nat.le_succ_of_le hN) fun v' h' o2 x2 f2 b2=>hq v' h' o2 ((Ext.new hN _).trans x2) (fun c hc hne=>?_) (fun c hc=>?_)
 ·rw [f2 c (Nat.lt_succ_of_lt hc) hne,Hp.get_new,if_neg (Nat.ne_of_lt hc)]
 ·rcases b2 c hc with h6 | h6
  ·exact .inl h6
  ·exact .inr (Nat.le_of_succ_le h6)
structure BB (N:Nat) (h0 h:Hp) (hot:Nat→Prop) (b4 b5:Nat) (vS:V) (cs:List V) (shs:List Sht):Prop where
 a4:h.t.get b4=some (.cells [.nils] 26 false)
 a5:h.t.get b5=some (.cells [vS] 26 false)
 oS:Own N h vS 38 3 shs.length cs
 cS:zh cs=true
 el:∀ (j:Nat) (s:Sht),shs[j]? = some s→∃ rv,(cs.drop (j * 3)).take 3=shtC s rv∧RowsC hot h rv s.rows
 h4:hot b4
 h5:hot b5
 hS:∀ c,zI vS=some c→hot c
 hN:∀ c,hot c→N≤c
 sS:∀ c,zI vS=some c→c ≠ b4∧c ≠ b5
 ne:b4 ≠ b5
 l4:b4 < h.n
 l5:b5 < h.n
 ext:Ext N h0 h
 nn:N≤h.n
structure BR (N:Nat) (h:Hp) (hot:Nat→Prop) (b4 b5 bS:Nat) (vS:V) (nm:List Nat) (C:Nat) (vR:V) (ws:List V) (rows:List (List (List Nat))):Prop where
 aS:h.t.get bS=some (.cells [.str nm,.int .i64 C,vR] 38 false)
 oR:Own N h vR 40 1 rows.length ws
 cR:zh ws=true
 el:∀ (j:Nat) (r:List (List Nat)),rows[j]? = some r→∃ w,ws[j]? = some w∧RowC hot h w r
 hS:hot bS
 hR:∀ c,zI vR=some c→hot c
 sR:∀ c,zI vR=some c→c ≠ b4∧c ≠ b5∧c ≠ bS∧zI vS ≠ some c
 s4:bS ≠ b4
 s5:bS ≠ b5
 sS:zI vS ≠ some bS
 lS:bS < h.n
section
variable {N:Nat} {h0 h h':Hp} {hot hot':Nat→Prop} {b4 b5 bS:Nat} {vS:V} {cs:List V} {shs:List Sht} {nm:List Nat} {C:Nat} {vR:V} {ws:List V} {rows:List (List (List Nat))}
theorem BB.step (B:BB N h0 h hot b4 b5 vS cs shs) (s:Hot hot hot' h h') (e4:h'.t.get b4=h.t.get b4) (e5:h'.t.get b5=h.t.get b5) (eS:∀ c,zI vS=some c→h'.t.get c=h.t.get c) (k4:hot' b4) (k5:hot' b5) (kS:∀ c,zI vS=some c→hot' c) (kN:∀ c,hot' c→N≤c):BB N h0 h' hot' b4 b5 vS cs shs:=by
 have hn:=s.n
 have:=B.l4
 have:=B.l5
 have:=B.nn
 refine ⟨by rw [e4]; exact B.a4,by rw [e5]; exact B.a5,B.oS.keep hn eS,B.cS,fun j t ht=>?_,k4,k5,kS,kN,B.sS,B.ne,by omega,by omega,B.ext.trans ⟨hn,fun c hc=>s.keep c (by omega) fun k=>by have:=B.hN c k; omega⟩,by omega⟩
 obtain ⟨rv,h1,h2⟩:=B.el j t ht
 exact ⟨rv,h1,h2.step s⟩
theorem BR.step (R:BR N h hot b4 b5 bS vS nm C vR ws rows) (s:Hot hot hot' h h') (eS:h'.t.get bS=h.t.get bS) (eR:∀ c,zI vR=some c→h'.t.get c=h.t.get c) (kS:hot' bS) (kR:∀ c,zI vR=some c→hot' c):BR N h' hot' b4 b5 bS vS nm C vR ws rows:=by
 have hn:=s.n
 have:=R.lS
 refine ⟨by rw [eS]; exact R.aS,R.oR.keep hn eR,R.cR,fun j r hr=>?_,kS,kR,R.sR,R.s4,R.s5,R.sS,by omega⟩
 obtain ⟨w,h1,h2⟩:=R.el j r hr
 exact ⟨w,h1,h2.step s⟩
end
def hot1 (b4 b5:Nat) (vS:V):Nat→Prop:=fun c=>c=b4∨c=b5∨zI vS=some c
def hot2 (b4 b5 bS:Nat) (vS vR:V):Nat→Prop:=fun c=>c=b4∨c=b5∨c=bS∨zI vS=some c∨zI vR=some c
def hot3 (b4 b5 bS bR:Nat) (vS vR:V):Nat→Prop:=fun c=>hot2 b4 b5 bS vS vR c∨c=bR
def prow (ns:List Nat) (C p c:Nat):List V:=(List.range C).map fun x=>V.str (if x < c then cellT ns (p+x) else [])
theorem prow_len (ns:List Nat) (C p c:Nat):(prow ns C p c).length=C:=by unfold prow; simp
theorem prow_0 (ns:List Nat) (C p:Nat):prow ns C p 0=List.replicate C (.str []):=by
 unfold prow
 apply List.ext_getElem
 ·simp
 ·intro i h1 h2; simp
theorem prow_set (ns:List Nat) (C p c:Nat):(prow ns C p c).set c (.str (cellT ns (p+c)))=prow ns C p (c+1):=by
 unfold prow
 apply List.ext_getElem
 ·simp
 ·intro i h1 h2
  rw [List.getElem_set]
  simp only [List.getElem_map,List.getElem_range]
  by_cases e:c=i
  ·subst e; simp
  ·rw [if_neg e]
   have:(i < c+1)=(i < c):=by rw [eq_iff_iff]; omega
   simp only [this]
theorem prow_end {ns:List Nat} {C p c:Nat} (h:C≤c∨ns.length≤p+c):prow ns C p c=(rowT ns C p).map V.str:=by
 unfold prow rowT
 rw [List.map_map]
 apply List.map_congr_left
 intro x hx
 have hx:=List.mem_range.1 hx
 simp only [Function.comp]
 by_cases e:x < c
 ·rw [if_pos e]
 ·rw [if_neg e]
  unfold cellT
  rw [List.getElem?_eq_none (by omega)]
structure BArgs (N:Nat) (h0:Hp) (v0:V) (ns:List Nat):Prop where
 hN:h0.n=N
 rd:Rd h0 1 v0 ns.length (ns.map fun (n:Nat)=>V.int .u8 (n:Int))
 in_:In N v0
 lt:∀ n ∈ ns,n < 256
 len:ns.length≤100
theorem row_loop3 (Q:V→Hp→Prop) {N:Nat} {h0:Hp} {v0:V} {ns:List Nat} (A:BArgs N h0 v0 ns) {v1 v7:V} {b4 b5 bS bR:Nat} {vS:V} {cs:List V} {shs:List Sht} {nm:List Nat} {C:Nat} (hC:C≤16) {vR:V} {ws:List V} {rows:List (List (List Nat))} {p r:Nat} (hp:p≤1000) (hr:r≤100) (hrl:rows.length≤1000)
  (hbR:¬ hot2 b4 b5 bS vS vR bR) (hbN:N≤bR)
  (hq:∀ h vR' ws',BB N h0 h (hot2 b4 b5 bS vS vR') b4 b5 vS cs shs→BR N h (hot2 b4 b5 bS vS vR') b4 b5 bS vS nm C vR' ws' (rows++[rowT ns C p])→zeS Q v0 v1 (.ptr b4 0) (.ptr b5 0) (.int .i64 (min (p+C) ns.length:Nat)) v7 (.ptr bS 0) (.int .i64 (r+1:Nat)) h):
  ∀ (k c:Nat),C - c=k→c≤C→∀ (h:Hp),BB N h0 h (hot3 b4 b5 bS bR vS vR) b4 b5 vS cs shs→BR N h (hot3 b4 b5 bS bR vS vR) b4 b5 bS vS nm C vR ws rows→h.t.get bR=some (.cells (prow ns C p c) 9 false)→bR < h.n →
   zkF Q v0 v1 (.ptr b4 0) (.ptr b5 0) (.int .i64 (min (p+c) ns.length:Nat)) v7 (.ptr bS 0) (.int .i64 r) (.sl bR 0 C C) (.int .i64 c) h:=by
 have hAl:=A.len
 have fin:∀ (c:Nat) (h:Hp),c≤C→(C≤c∨ns.length≤p+c)→BB N h0 h (hot3 b4 b5 bS bR vS vR) b4 b5 vS cs shs→BR N h (hot3 b4 b5 bS bR vS vR) b4 b5 bS vS nm C vR ws rows→h.t.get bR=some (.cells (prow ns C p c) 9 false)→bR < h.n →
   (Pu EE).faddr 38 (.ptr bS 0) 2 fun x24=>(Pu EE).load h 36 x24 fun x25=>(Pu EE).bsl h 36 1 [(0,.sl bR 0 C C)] fun x26 h27 b28=>(Pu EE).ebui h27 #[36,36] .append [x25,x26] fun x29 h30=>
    (Pu EE).faddr 38 (.ptr bS 0) 2 fun x31=>(Pu EE).store h30 36 x31 x29 fun h32=>(Pu EE).bin .add 3 false true (.int .i64 r) (.int .i64 1) fun x33=>zeS Q v0 v1 (.ptr b4 0) (.ptr b5 0) (.int .i64 (min (p+c) ns.length:Nat)) v7 (.ptr bS 0) x33 h32:=by
  intro c h hc he B R hrow hbn
  have nn:=B.nn
  have h4N:=B.hN b4 B.h4
  have h5N:=B.hN b5 B.h5
  have hSN:=B.hN bS R.hS
  have l4:=B.l4
  have l5:=B.l5
  have lS:=R.lS
  rw [zG,za zD R.aS rfl]
  refine append_el R.oR zn zaz (.sl bR 0 C C) rfl rfl (by omega) (by omega) nn _ fun v' h1 o1 x1 k1 m1=>?_
  have n1:=x1.n
  rw [zG]
  have hsr:=R.sR
  have eS1:h1.t.get bS=h.t.get bS:=k1 bS lS fun e=>(hsr bS e).2.2.1 rfl
  have cv:v'.cells=[v']∧v'.isCell=true:=o1.rd.c1
  refine zC zD (eS1.trans R.aS) (x:=v') (by rw [cv.1]; rfl) (by rw [cv.1]; simp [zh,cv.2]) (r:=[.str nm,.int .i64 C,v']) (by rw [cv.1]; rfl) fun h2 w2=>?_
  have n2:=w2.n
  rw [zK _ _ _ _ (by omega)]
  have hs':∀ x,zI v'=some x→zI vR=some x∨h.n≤x:=m1
  have hmin:min (p+c) ns.length=min (p+C) ns.length:=by omega
  rw [hmin]
  have ch:∀ x,x < h.n→x ≠ bS→zI vR ≠ some x→h2.t.get x=h.t.get x:=fun x h1 h2 h3=>by rw [w2.other x h2,k1 x h1 h3]
  have hv1:∀ x,zI v'=some x→x ≠ b4∧x ≠ b5∧x ≠ bS∧zI vS ≠ some x∧x ≠ bR:=fun x hx=>by
   rcases hs' x hx with e | e
   ·obtain ⟨a1,a2,a3,a4⟩:=hsr x e
    exact ⟨a1,a2,a3,a4,fun q=>hbR (by rw [← q]; exact .inr (.inr (.inr (.inr e))))⟩
   ·exact ⟨by omega,by omega,by omega,fun q=>by have:=B.oS.in_ x q; omega,by omega⟩
  have hh:Hot (hot3 b4 b5 bS bR vS vR) (hot2 b4 b5 bS vS v') h h2:=by
   refine ⟨by omega,fun x hx hn=>ch x hx (fun e=>hn (.inl (by rw [e]; exact .inr (.inr (.inl rfl))))) fun e=>hn (.inl (.inr (.inr (.inr (.inr e))))),fun x hx hh=>?_⟩
   rcases hh with e | e | e | e | e
   ·exact .inl (.inl e)
   ·exact .inl (.inr (.inl e))
   ·exact .inl (.inr (.inr (.inl e)))
   ·exact .inl (.inr (.inr (.inr (.inl e))))
   ·rcases hs' x e with q | q
    ·exact .inl (.inr (.inr (.inr (.inr q))))
    ·omega
  refine hq h2 v' (ws++[.sl bR 0 C C]) (B.step hh (ch b4 l4 (fun e=>R.s4 e.symm) fun e=>(hsr b4 e).1 rfl) (ch b5 l5 (fun e=>R.s5 e.symm) fun e=>(hsr b5 e).2.1 rfl) (fun x hx=>ch x (B.oS.in_ x hx) (fun e=>R.sS (by rw [← e]; exact hx)) fun e=>(hsr x e).2.2.2 hx) (.inl rfl) (.inr (.inl rfl)) (fun x hx=>.inr (.inr (.inr (.inl hx)))) fun x hx=>?_) ⟨?_,?_,?_,fun j rr hj=>?_,.inr (.inr (.inl rfl)),fun x hx=>.inr (.inr (.inr (.inr hx))),fun x hx=>?_,R.s4,R.s5,R.sS,by omega⟩
  ·rcases hx with e | e | e | e | e
   ·omega
   ·omega
   ·omega
   ·exact B.hN x (.inl (.inr (.inr (.inr (.inl e)))))
   ·rcases hs' x e with q | q
    ·exact B.hN x (.inl (.inr (.inr (.inr (.inr q)))))
    ·omega
  ·exact w2.at_
  ·rw [List.length_append,List.length_singleton]
   exact o1.keep (by omega) fun x hx=>w2.other x (hv1 x hx).2.2.1
  ·refine zU.2 fun u hu=>?_
   rcases List.mem_append.1 hu with hu | hu
   ·exact zU.1 R.cR u hu
   ·rw [List.mem_singleton.1 hu]; rfl
  ·by_cases hj2:j < rows.length
   ·rw [List.getElem?_append_left hj2] at hj
    obtain ⟨w,g1,g2⟩:=R.el j rr hj
    have hwl:j < ws.length:=by have:=R.oR.sized; omega
    exact ⟨w,by rw [List.getElem?_append_left hwl]; exact g1,g2.step hh⟩
   ·have hjl:j < (rows++[rowT ns C p]).length:=(List.getElem?_eq_some_iff.1 hj).1
    rw [List.length_append,List.length_singleton] at hjl
    have hje:j=rows.length:=by omega
    have hwl:ws.length=rows.length:=by have:=R.oR.sized; omega
    rw [hje,List.getElem?_append_right (Nat.le_refl _),Nat.sub_self] at hj
    simp only [List.getElem?_cons_zero,Option.some.injEq] at hj
    subst hj
    refine ⟨.sl bR 0 C C,by rw [hje,← hwl,List.getElem?_append_right (Nat.le_refl _),Nat.sub_self]; rfl,?_,?_⟩
    ·have hl:(rowT ns C p).length=C:=by unfold rowT; simp
     have hg:h2.t.get bR=some (.cells ((rowT ns C p).map V.str) 9 false):=by
      rw [ch bR hbn (fun e=>hbR (by rw [e]; exact .inr (.inr (.inl rfl)))) fun e=>hbR (.inr (.inr (.inr (.inr e)))),hrow,prow_end he]
     rw [hl]
     refine ⟨by rw [List.length_map,hl,Nat.mul_one],.inr ⟨bR,0,_,by unfold zas; rw [hg],sub_all (by rw [List.length_map,hl,Nat.mul_one]),.inl ⟨C,rfl⟩⟩⟩
    ·intro x hx
     cases hx
     refine ⟨by omega,fun hh=>?_⟩
     rcases hh with e | e | e | e | e
     ·exact hbR (.inl e)
     ·exact hbR (.inr (.inl e))
     ·exact hbR (.inr (.inr (.inl e)))
     ·exact hbR (.inr (.inr (.inr (.inl e))))
     ·exact (hv1 bR e).2.2.2.2 rfl
  ·obtain ⟨a1,a2,a3,a4,_⟩:=hv1 x hx
   exact ⟨a1,a2,a3,a4⟩
 intro k
 induction k with
 | zero=>
  intro c hk hc h B R hrow hbn
  apply zko
  unfold ze4
  rw [zaI,za zm R.aS rfl,zr,decide_eq_false (by omega:¬ c < C)]
  simp only [zS]
  rw [zo,zb]
  exact fin c h hc (.inl (by omega)) B R hrow hbn
 | succ k ih=>
  intro c hk hc h B R hrow hbn
  have nn:=B.nn
  have en:=B.ext.n
  apply zko
  unfold ze4
  rw [zaI,za zm R.aS rfl,zr,decide_eq_true (by omega:c < C)]
  simp only [zu]
  have hv0:=A.rd.ext B.ext A.in_
  rw [zp hv0 zhp,zr,zB]
  by_cases ha:min (p+c) ns.length < ns.length
  ·rw [decide_eq_true ha,zc]
   have hpc:min (p+c) ns.length=p+c:=by omega
   rw [hpc] at ha ⊢
   obtain ⟨n,hn⟩:∃ n,ns[p+c]? = some n:=⟨_,List.getElem?_eq_getElem ha⟩
   have hn256:=A.lt n (List.mem_of_getElem? hn)
   obtain ⟨b,o,g1,g2,_⟩:=zde hv0 zhp l_uint8 (i:=p+c) (x:=.int .u8 n) (by rw [List.getElem?_map,hn]; rfl)
   rw [g1,g2,conv8 n hn256]
   refine (text_ok hn256 h).mono ?_
   rintro x h1 ⟨rfl,x1⟩
   have n1:=x1.n
   rw [zgR z7 zL _ _ _ _ _ (by omega)]
   have hrow1:h1.t.get bR=some (.cells (prow ns C p c) 9 false):=by rw [x1.old bR hbn]; exact hrow
   refine zC zL hrow1 (x:=.str (txt n)) rfl rfl (r:=prow ns C p (c+1)) ?_ fun h2 w2=>?_
   ·have e:0+c * 1=c:=by omega
    rw [e,← prow_set]
    have:cellT ns (p+c)=txt n:=by unfold cellT; rw [hn]
    rw [this]
    exact spl_one _ _ _ (by rw [prow_len]; omega)
   ·have n2:=w2.n
    have ch:∀ x,x < h.n→x ≠ bR→h2.t.get x=h.t.get x:=fun x hx he=>by rw [w2.other x he,x1.old x hx]
    have hh:Hot (hot3 b4 b5 bS bR vS vR) (hot3 b4 b5 bS bR vS vR) h h2:=⟨by omega,fun x hx hn=>ch x hx fun e=>hn (.inr e),fun x _ hx=>hx⟩
    have e4:b4 ≠ bR:=fun e=>hbR (.inl e.symm)
    have e5:b5 ≠ bR:=fun e=>hbR (.inr (.inl e.symm))
    have eS:bS ≠ bR:=fun e=>hbR (.inr (.inr (.inl e.symm)))
    have evS:∀ x,zI vS=some x→x ≠ bR:=fun x hx e=>hbR (by rw [← e]; exact .inr (.inr (.inr (.inl hx))))
    have evR:∀ x,zI vR=some x→x ≠ bR:=fun x hx e=>hbR (by rw [← e]; exact .inr (.inr (.inr (.inr hx))))
    have l4:=B.l4
    have l5:=B.l5
    have lS:=R.lS
    rw [zK _ _ _ _ (by omega),zK _ _ _ _ (by omega)]
    have hm:((p+c+1:Nat):Int)=((min (p+(c+1)) ns.length:Nat):Int):=by omega
    rw [hm]
    exact ih (c+1) (by omega) (by omega) h2 (B.step hh (ch b4 l4 e4) (ch b5 l5 e5) (fun x hx=>ch x (B.oS.in_ x hx) (evS x hx)) B.h4 B.h5 B.hS B.hN) (R.step hh (ch bS lS eS) (fun x hx=>ch x (R.oR.in_ x hx) (evR x hx)) R.hS R.hR) w2.at_ (by omega)
  ·rw [decide_eq_false ha,zb]
   exact fin c h hc (.inr (by omega)) B R hrow hbn
end
end Go.Proofs.YtbchdlelmkmagaaGreatDoor.VM
namespace Go.Proofs.YtbchdlelmkmagaaGreatDoor.VM
open Go
set_option linter.unusedVariables false
set_option linter.unusedSectionVars false
set_option linter.unusedSimpArgs false
set_option maxRecDepth 20000
noncomputable section
attribute [local instance] syZ
theorem cells3 (a:List Nat) (k:IntKind) (b:Int) {v:V} (h:v.isCell=true):zh (V.agg [.str a,.int k b,v]).cells=true:=by
 show zh [.str a,.int k b,v]=true
 refine zU.2 fun u hu=>?_
 simp only [List.mem_cons,List.not_mem_nil,or_false] at hu
 rcases hu with rfl | rfl | rfl
 ·rfl
 ·rfl
 ·exact h
theorem cells1 {v:V} (h:v.isCell=true):zh (V.agg [v]).cells=true:=by
 show zh [v]=true
 refine zU.2 fun u hu=>?_
 rw [List.mem_singleton.1 hu]
 exact h
theorem rows_loop2 (Q:V→Hp→Prop) {N:Nat} {h0:Hp} {v0:V} {ns:List Nat} (A:BArgs N h0 v0 ns) {sh i:Nat} (hsh:sh < 256) (hi:i < 3) {b4 b5 bS:Nat} {vS:V} {cs:List V} {shs:List Sht} (hsl:shs.length≤10)
  (hq:∀ h vS' cs',BB N h0 h (hot1 b4 b5 vS') b4 b5 vS' cs' (shs++[shtT ns sh i])→zgY Q v0 (.int .u8 sh) (.ptr b4 0) (.ptr b5 0) (.int .i64 (min ((i+1) * (nR sh * nC sh)) ns.length:Nat)) (.int .i64 (i+1:Nat)) h):
  ∀ (k r:Nat),nR sh - r=k→r≤nR sh→∀ (h:Hp) (vR:V) (ws:List V),BB N h0 h (hot2 b4 b5 bS vS vR) b4 b5 vS cs shs→BR N h (hot2 b4 b5 bS vS vR) b4 b5 bS vS (nameT sh i) (nC sh) vR ws (rowsT ns (nC sh) r (i * (nR sh * nC sh))) →
   zeS Q v0 (.int .u8 sh) (.ptr b4 0) (.ptr b5 0) (.int .i64 (min (i * (nR sh * nC sh)+r * nC sh) ns.length:Nat)) (.int .i64 i) (.ptr bS 0) (.int .i64 r) h:=by
 have hAl:=A.len
 have hC:=@nC_le sh
 have hR:=@nR_le sh
 have hRC:nR sh * nC sh≤5 * 4:=Nat.mul_le_mul hR hC
 have hiRC:i * (nR sh * nC sh)≤3 * 20:=Nat.mul_le_mul (by omega) hRC
 have hrl:∀ r,(rowsT ns (nC sh) r (i * (nR sh * nC sh))).length=r:=fun r=>by unfold rowsT; simp
 intro k
 induction k with
 | zero=>
  intro r hk hr h vR ws B R
  have hre:r=nR sh:=by omega
  subst hre
  apply zks
  unfold ze3
  rw [conv8 sh hsh,show (12:Int)=((12:Nat):Int) from rfl,quoN _ _ (by omega) (by omega),show (5:Int)=((5:Nat):Int) from rfl,remN _ _ (by omega),show (1:Int)=((1:Nat):Int) from rfl,addN _ _ (by omega),zr,decide_eq_false (by unfold nR; omega:¬ nR sh < 1+sh / 12 % 5),zb]
  rw [zw,za zk B.a5 rfl,zd zH R.aS (l:=[.str (nameT sh i),.int .i64 (nC sh),vR]) rfl]
  have cR:vR.cells=[vR]∧vR.isCell=true:=R.oR.rd.c1
  refine append_el B.oS zl zH (.agg [.str (nameT sh i),.int .i64 (nC sh),vR]) rfl (cells3 _ _ _ cR.2) (by omega) (by omega) B.nn _ fun v' h1 o1 x1 k1 m1=>?_
  have n1:=x1.n
  have l4:=B.l4
  have l5:=B.l5
  have lS:=R.lS
  have nn:=B.nn
  have h4N:=B.hN b4 B.h4
  have h5N:=B.hN b5 B.h5
  have sS:=B.sS
  have cv:v'.cells=[v']∧v'.isCell=true:=o1.rd.c1
  rw [zw]
  have e51:h1.t.get b5=h.t.get b5:=k1 b5 l5 fun e=>(sS b5 e).2 rfl
  refine zC zk (e51.trans B.a5) (x:=v') (by rw [cv.1]; rfl) (by rw [cv.1]; simp [zh,cv.2]) (r:=[v']) (by rw [cv.1]; rfl) fun h2 w2=>?_
  have n2:=w2.n
  have e1:((i:Nat):Int)=((i:Nat):Int):=rfl
  rw [show ((1:Nat):Int)=1 from rfl,zK _ _ _ _ (by omega)]
  have hm:min (i * (nR sh * nC sh)+nR sh * nC sh) ns.length=min ((i+1) * (nR sh * nC sh)) ns.length:=by rw [Nat.succ_mul]
  rw [hm]
  have ch:∀ x,x < h.n→x ≠ b5→zI vS ≠ some x→h2.t.get x=h.t.get x:=fun x h1 h2 h3=>by rw [w2.other x h2,k1 x h1 h3]
  have hv1:∀ x,zI v'=some x→x ≠ b4∧x ≠ b5∧x ≠ bS∧zI vR ≠ some x:=fun x hx=>by
   rcases m1 x hx with e | e
   ·exact ⟨(sS x e).1,(sS x e).2,fun q=>R.sS (by rw [← q]; exact e),fun q=>(R.sR x q).2.2.2 e⟩
   ·exact ⟨by omega,by omega,by omega,fun q=>by have:=R.oR.in_ x q; omega⟩
  have hh:Hot (hot2 b4 b5 bS vS vR) (hot1 b4 b5 v') h h2:=by
   refine ⟨by omega,fun x hx hn=>ch x hx (fun e=>hn (.inr (.inl e))) fun e=>hn (.inr (.inr (.inr (.inl e)))),fun x hx hh=>?_⟩
   rcases hh with e | e | e
   ·exact .inl e
   ·exact .inr (.inl e)
   ·rcases m1 x e with q | q
    ·exact .inr (.inr (.inr (.inl q)))
    ·omega
  have hcl:cs.length=shs.length * 3:=B.oS.sized
  refine hq h2 v' (cs++[.str (nameT sh i),.int .i64 (nC sh),vR]) ⟨?_,w2.at_,?_,?_,fun j s hj=>?_,.inl rfl,.inr (.inl rfl),fun x hx=>.inr (.inr hx),fun x hx=>?_,fun x hx=>⟨(hv1 x hx).1,(hv1 x hx).2.1⟩,B.ne,by omega,by omega,?_,by omega⟩
  ·rw [ch b4 l4 B.ne fun e=>(sS b4 e).1 rfl]; exact B.a4
  ·rw [List.length_append,List.length_singleton]
   exact o1.keep (by omega) fun x hx=>w2.other x (hv1 x hx).2.1
  ·refine zU.2 fun u hu=>?_
   rcases List.mem_append.1 hu with hu | hu
   ·exact zU.1 B.cS u hu
   ·simp only [List.mem_cons,List.not_mem_nil,or_false] at hu
    rcases hu with rfl | rfl | rfl
    ·rfl
    ·rfl
    ·exact cR.2
  ·by_cases hj2:j < shs.length
   ·rw [List.getElem?_append_left hj2] at hj
    obtain ⟨rv,g1,g2⟩:=B.el j s hj
    refine ⟨rv,?_,g2.step hh⟩
    rw [← g1,List.drop_append_of_le_length (by omega),List.take_append_of_le_length (by rw [List.length_drop]; omega)]
   ·have hjl:j < (shs++[shtT ns sh i]).length:=(List.getElem?_eq_some_iff.1 hj).1
    rw [List.length_append,List.length_singleton] at hjl
    have hje:j=shs.length:=by omega
    rw [hje,List.getElem?_append_right (Nat.le_refl _),Nat.sub_self] at hj
    simp only [List.getElem?_cons_zero,Option.some.injEq] at hj
    subst hj
    refine ⟨vR,?_,ws,?_,fun x hx=>?_,fun i' r' hr'=>?_⟩
    ·rw [hje,← hcl,List.drop_left]
     rfl
    ·have o2:Own N h2 vR 40 1 _ ws:=R.oR.keep (by omega) fun x hx=>ch x (R.oR.in_ x hx) (R.sR x hx).2.1 (R.sR x hx).2.2.2
     exact o2.rd
    ·refine ⟨by have:=R.oR.in_ x hx; omega,fun hh=>?_⟩
     rcases hh with e | e | e
     ·exact (R.sR x hx).1 e
     ·exact (R.sR x hx).2.1 e
     ·exact (hv1 x e).2.2.2 hx
    ·obtain ⟨w,g1,g2⟩:=R.el i' r' hr'
     exact ⟨w,g1,g2.step hh⟩
  ·rcases hx with e | e | e
   ·omega
   ·omega
   ·rcases m1 x e with q | q
    ·exact B.hN x (.inr (.inr (.inr (.inl q))))
    ·omega
  ·refine B.ext.trans ⟨by omega,fun x hx=>ch x (by omega) (by omega) fun e=>?_⟩
   have:=B.oS.ge x e; omega
 | succ k ih=>
  intro r hk hr h vR ws B R
  have nn:=B.nn
  apply zks
  unfold ze3
  rw [conv8 sh hsh,show (12:Int)=((12:Nat):Int) from rfl,quoN _ _ (by omega) (by omega),show (5:Int)=((5:Nat):Int) from rfl,remN _ _ (by omega),show (1:Int)=((1:Nat):Int) from rfl,addN _ _ (by omega),zr,decide_eq_true (by unfold nR at hk; omega:r < 1+sh / 12 % 5),zc]
  rw [zaI,za zm R.aS rfl]
  refine pu_mkslX z7 zL (by omega) fun h1 bR w1=>?_
  have n1:=w1.n
  have eb:=w1.b
  have hp:r * nC sh≤5 * 4:=Nat.mul_le_mul (by omega) hC
  have hnot:¬ hot2 b4 b5 bS vS vR bR:=by
   intro hh
   have l4:=B.l4
   have l5:=B.l5
   have lS:=R.lS
   rcases hh with e | e | e | e | e
   ·omega
   ·omega
   ·omega
   ·have:=B.oS.in_ _ e; omega
   ·have:=R.oR.in_ _ e; omega
  have hh:Hot (hot2 b4 b5 bS vS vR) (hot3 b4 b5 bS bR vS vR) h h1:=⟨by omega,fun x hx _=>w1.old x hx,fun x hx hh=>by
   rcases hh with e | e
   ·exact e
   ·omega⟩
  have hrow:h1.t.get bR=some (.cells (prow ns (nC sh) (i * (nR sh * nC sh)+r * nC sh) 0) 9 false):=by rw [prow_0]; exact w1.at_
  have B1:=B.step hh (w1.old b4 B.l4) (w1.old b5 B.l5) (fun x hx=>w1.old x (B.oS.in_ x hx)) (.inl B.h4) (.inl B.h5) (fun x hx=>.inl (B.hS x hx)) (fun x hx=>by
   rcases hx with e | e
   ·exact B.hN x e
   ·omega)
  have R1:=R.step hh (w1.old bS R.lS) (fun x hx=>w1.old x (R.oR.in_ x hx)) (.inl R.hS) (fun x hx=>.inl (R.hR x hx))
  refine row_loop3 Q A (by omega) (p:=i * (nR sh * nC sh)+r * nC sh) (r:=r) (by omega) (by omega) (by rw [hrl]; omega) hnot (by omega) (fun h2 vR' ws' B2 R2=>?_) (nC sh) 0 (by omega) (by omega) h1 B1 R1 hrow (by omega)
  have e1:i * (nR sh * nC sh)+r * nC sh+nC sh=i * (nR sh * nC sh)+(r+1) * nC sh:=by rw [Nat.succ_mul]; omega
  rw [e1]
  refine ih (r+1) (by omega) (by omega) h2 vR' ws' B2 ?_
  have e2:rowsT ns (nC sh) (r+1) (i * (nR sh * nC sh))=rowsT ns (nC sh) r (i * (nR sh * nC sh))++[rowT ns (nC sh) (i * (nR sh * nC sh)+r * nC sh)]:=by
   unfold rowsT
   rw [List.range_succ,List.map_append]
   rfl
  rw [e2]
  exact R2
theorem sheets_loop1 (Q:V→Hp→Prop) {N:Nat} {h0:Hp} {v0:V} {ns:List Nat} (A:BArgs N h0 v0 ns) {sh:Nat} (hsh:sh < 256) {b4 b5:Nat}
  (hq:∀ h vS,zir h.n h (.agg [vS]) (zfA ns sh)→Ext N h0 h→Q (.agg [vS]) h):
  ∀ (k i:Nat),nS sh - i=k→i≤nS sh→∀ (h:Hp) (vS:V) (cs:List V),BB N h0 h (hot1 b4 b5 vS) b4 b5 vS cs ((List.range i).map (shtT ns sh)) →
   zgY Q v0 (.int .u8 sh) (.ptr b4 0) (.ptr b5 0) (.int .i64 (min (i * (nR sh * nC sh)) ns.length:Nat)) (.int .i64 i) h:=by
 have hAl:=A.len
 have hC:=@nC_le sh
 have hR:=@nR_le sh
 have hS:=@nS_le sh
 intro k
 induction k with
 | zero=>
  intro i hk hi h vS cs B
  have hie:i=nS sh:=by omega
  subst hie
  apply zku
  unfold zeV
  rw [conv8 sh hsh,show (3:Int)=((3:Nat):Int) from rfl,remN _ _ (by omega),show (1:Int)=((1:Nat):Int) from rfl,addN _ _ (by omega),zr,decide_eq_false (by unfold nS; omega:¬ nS sh < 1+sh % 3),zb]
  rw [zd zy B.a5 (l:=[vS]) rfl]
  have cS:vS.cells=[vS]∧vS.isCell=true:=B.oS.rd.c1
  refine zC zy B.a4 (x:=.agg [vS]) rfl (cells1 cS.2) (r:=[vS]) rfl fun h1 w1=>?_
  have n1:=w1.n
  rw [zd zy w1.at_ (l:=[vS]) rfl]
  have h4N:=B.hN b4 B.h4
  have hh:Hot (hot1 b4 b5 vS) (fun _=>False) h h1:=⟨by omega,fun x _ hn=>w1.other x fun e=>hn (.inl e),fun x _ hx=>hx.elim⟩
  refine hq h1 vS ⟨vS,rfl,cs,?_,?_,fun j s hj=>?_⟩ (B.ext.trans ⟨by omega,fun x hx=>w1.other x (by omega)⟩)
  ·have:=(B.oS.keep (by omega:h.n≤h1.n) fun x hx=>w1.other x (B.sS x hx).1).rd
   exact this
  ·exact fun x hx=>by have:=B.oS.in_ x hx; omega
  ·obtain ⟨rv,g1,g2⟩:=B.el j s hj
   obtain ⟨vs,r1,r2,r3⟩:=g2.step hh
   exact ⟨rv,g1,vs,r1,fun x hx=>(r2 x hx).1,fun i' r' hr'=>by
    obtain ⟨w,q1,q2⟩:=r3 i' r' hr'
    exact ⟨w,q1,q2.1,fun x hx=>(q2.2 x hx).1⟩⟩
 | succ k ih=>
  intro i hk hi h vS cs B
  have nn:=B.nn
  have l4:=B.l4
  have l5:=B.l5
  have hi3:i < 3:=by omega
  have h64:sh / 64≤3:=by omega
  have hm6:sh / 64 * i≤3 * 2:=Nat.mul_le_mul h64 (by omega)
  apply zku
  unfold zeV
  rw [conv8 sh hsh,show (3:Int)=((3:Nat):Int) from rfl,remN _ _ (by omega),show (1:Int)=((1:Nat):Int) from rfl,addN _ _ (by omega),zr,decide_eq_true (by unfold nS at hk; omega:i < 1+sh % 3),zc]
  rw [show (65:Int)=((65:Nat):Int) from rfl,addN _ _ (by omega),conv8 sh hsh,show (64:Int)=((64:Nat):Int) from rfl,quoN _ _ (by omega) (by omega),mulN _ _ (by omega),addN _ _ (by omega),to8 _ (by omega)]
  rw [zcL zhp l_uint8 _ rfl (by omega)]
  obtain ⟨h1,hh1⟩:∃ h1,h1=h.new (.cells [.int .u8 ((65+i+sh / 64 * i:Nat):Int)] 5 false):=⟨_,rfl⟩
  have w1:New h h1 h.n (.cells [.int .u8 ((65+i+sh / 64 * i:Nat):Int)] 5 false):=by rw [hh1]; exact New.mk' _ _
  have o1:Own h.n h1 (.sl h.n 0 1 1) 5 1 1 [.int .u8 ((65+i+sh / 64 * i:Nat):Int)]:=by rw [hh1]; exact zfu rfl
  have e1:h.new (.cells (V.int .u8 ((65+i+sh / 64 * i:Nat):Int)).cells 5 false)=h1:=hh1.symm
  rw [e1]
  have n1:=w1.n
  have hr1:Rd h1 1 (.sl h.n 0 1 1) (nameT sh i).length ((nameT sh i).map fun (b:Nat)=>V.int .u8 (b:Int)):=o1.rd
  rw [pu_conv_bs hr1 (fun x hx=>by unfold nameT at hx; rw [List.mem_singleton] at hx; omega) zhp i_uint8 zhD]
  rw [conv8 sh hsh,quoN _ _ (by omega) (by omega),show (4:Int)=((4:Nat):Int) from rfl,remN _ _ (by omega),addN _ _ (by omega)]
  rw [zaD so_api_Sheet _ (fun p hp=>by
   simp only [List.mem_cons,List.not_mem_nil,or_false] at hp
   rcases hp with rfl | rfl
   ·exact c1_str _
   ·exact zcU _ _) rfl]
  have hset:zkJ [(0,1),(1,1),(2,1)] [V.str [],V.int .i64 0,V.nils] [(0,V.str (nameT sh i)),(1,V.int .i64 ((1+sh / 3 % 4:Nat):Int))]=[.str (nameT sh i),.int .i64 (nC sh),.nils]:=rfl
  rw [hset]
  refine zq zH fun h2 bS w2=>?_
  have n2:=w2.n
  have e2:=w2.b
  refine zC zH w2.at_ (x:=.agg [.str (nameT sh i),.int .i64 (nC sh),.nils]) rfl rfl (r:=[.str (nameT sh i),.int .i64 (nC sh),.nils]) rfl fun h3 w3=>?_
  have n3:=w3.n
  have ch:∀ x,x < h.n→h3.t.get x=h.t.get x:=fun x hx=>by rw [w3.other x (by omega),w2.old x (by omega),w1.old x hx]
  have hh:Hot (hot1 b4 b5 vS) (hot2 b4 b5 bS vS .nils) h h3:=⟨by omega,fun x hx _=>ch x hx,fun x hx hh=>by
   rcases hh with e | e | e | e | e
   ·exact .inl e
   ·exact .inr (.inl e)
   ·omega
   ·exact .inr (.inr e)
   ·cases e⟩
  have B3:=B.step hh (ch b4 l4) (ch b5 l5) (fun x hx=>ch x (B.oS.in_ x hx)) (.inl rfl) (.inr (.inl rfl)) (fun x hx=>.inr (.inr (.inr (.inl hx)))) (fun x hx=>by
   rcases hx with e | e | e | e | e
   ·have:=B.hN b4 B.h4; omega
   ·have:=B.hN b5 B.h5; omega
   ·omega
   ·exact B.hN x (.inr (.inr e))
   ·cases e)
  have R3:BR N h3 (hot2 b4 b5 bS vS .nils) b4 b5 bS vS (nameT sh i) (nC sh) .nils [] (rowsT ns (nC sh) 0 (i * (nR sh * nC sh))):=
   ⟨w3.at_,Own.nil _ _ _ _,rfl,fun j r hr=>(by simp [rowsT] at hr),.inr (.inr (.inl rfl)),fun x hx=>(by cases hx),fun x hx=>(by cases hx),by omega,by omega,fun e=>by have:=B.oS.in_ bS e; omega,by omega⟩
  have hz:i * (nR sh * nC sh)=i * (nR sh * nC sh)+0 * nC sh:=by omega
  rw [hz]
  refine rows_loop2 Q A hsh hi3 (by simp; omega) (fun h4 vS' cs' B4=>?_) (nR sh) 0 (by omega) (by omega) h3 .nils [] B3 R3
  refine ih (i+1) (by omega) (by omega) h4 vS' cs' ?_
  rw [List.range_succ,List.map_append]
  exact B4
theorem book_ok {h:Hp} {v0:V} {ns:List Nat} {sh:Nat} (hsh:sh < 256) (A:BArgs h.n h v0 ns):Ans EE 6 [v0,.int .u8 sh] h fun x h'=>zir h'.n h' x (zfA ns sh)∧Ext h.n h h':=by
 apply a_law10_Book
 unfold zhe
 refine zq zy fun h1 b4 w1=>?_
 refine zq zy fun h2 b5 w2=>?_
 have n1:=w1.n
 have n2:=w2.n
 have e1:=w1.b
 have e2:=w2.b
 have B:BB h.n h h2 (hot1 b4 b5 .nils) b4 b5 .nils [] ((List.range 0).map (shtT ns sh)):=
  ⟨by rw [w2.old b4 (by omega)]; exact w1.at_,w2.at_,Own.nil _ _ _ _,rfl,fun j s hj=>(by simp at hj),.inl rfl,.inr (.inl rfl),fun x hx=>(by cases hx),fun x hx=>(by rcases hx with e | e | e; omega; omega; cases e),fun x hx=>(by cases hx),by omega,by omega,by omega,(w1.ext (Nat.le_refl _)).trans (w2.ext (by omega)),by omega⟩
 have:=sheets_loop1 (fun x h'=>zir h'.n h' x (zfA ns sh)∧Ext h.n h h') A hsh (b4:=b4) (b5:=b5) (fun h3 vS k e=>⟨k,e⟩) (nS sh) 0 (by omega) (by omega) h2 .nils [] B
 simpa using this
end
end Go.Proofs.YtbchdlelmkmagaaGreatDoor.VM
namespace Go.Proofs.YtbchdlelmkmagaaGreatDoor.VM
open Go
set_option linter.unusedVariables false
set_option linter.unusedSectionVars false
set_option linter.unusedSimpArgs false
set_option maxRecDepth 20000
noncomputable section
attribute [local instance] syZ
def vlCs (l:List Vl):List V:=l.flatMap vlC
theorem vlCs_len (l:List Vl):(vlCs l).length=l.length * 3:=by
 unfold vlCs
 induction l with
 | nil=>rfl
 | cons a l ih=>rw [List.flatMap_cons,List.length_append,ih]; simp [vlC]; omega
theorem vlCs_app (l m:List Vl):vlCs (l++m)=vlCs l++vlCs m:=by simp [vlCs]
theorem vlCs_at:∀ (l:List Vl) (i:Nat) (s:Vl),l[i]? = some s→((vlCs l).drop (i * 3)).take 3=vlC s
 | [],i,s,h=>by simp at h
 | a::l,0,s,h=>by
  simp only [List.getElem?_cons_zero,Option.some.injEq] at h
  subst h
  simp [vlCs,vlC]
 | a::l,i+1,s,h=>by
  simp only [List.getElem?_cons_succ] at h
  have:=vlCs_at l i s h
  have e:(vlCs (a::l)).drop ((i+1) * 3)=(vlCs l).drop (i * 3):=by
   have:(i+1) * 3=3+i * 3:=by omega
   rw [this]
   unfold vlCs
   rw [List.flatMap_cons,← List.drop_drop]
   congr 1
  rw [e,this]
theorem spl_val:∀ (l:List Vl) (i:Nat) (x:Vl),i < l.length→spl (vlCs l) (i * 3) (vlC x)=some (vlCs (l.set i x))
 | [],_,_,h=>by simp at h
 | a::l,0,x,_=>by
  unfold vlCs
  rw [List.flatMap_cons,List.set_cons_zero,List.flatMap_cons]
  simp [vlC,spl,spl_nil]
 | a::l,i+1,x,h=>by
  have ih:=spl_val l i x (by simpa using h)
  unfold vlCs at ih ⊢
  rw [List.flatMap_cons,List.set_cons_succ,List.flatMap_cons,show (i+1) * 3=i * 3+1+1+1 by omega]
  simp [vlC,spl,vlC] at ih ⊢
  rw [ih]
  rfl
def LeafV (b n:Nat) (u:V):Prop:=u=.sl b 0 n n∨u=.slo b 0 n n 3
def RowsK (h:Hp) (us:List V) (rows:List (List Vl)) (B:Nat→Nat):Prop:=∀ (r:Nat) (row:List Vl),rows[r]? = some row→∃ u,us[r]? = some u∧LeafV (B r) row.length u∧h.t.get (B r)=some (.cells (vlCs row) 48 false)
def GridK (h:Hp) (ws:List V) (g:Grd) (B:Nat→Nat→Nat) (sp:Nat→Prop):Prop:=∀ (i:Nat) (rows:List (List Vl)),g[i]? = some rows→∃ w us,ws[i]? = some w∧Rd h 1 w rows.length us∧(∀ b,zI w=some b→sp b)∧RowsK h us rows (B i)
def At2 (g:Grd) (i r:Nat) (row:List Vl):Prop:=∃ rows,g[i]? = some rows∧rows[r]? = some row
structure GridG (N:Nat) (h:Hp) (v:V) (g:Grd) (B:Nat→Nat→Nat) (sp:Nat→Prop):Prop where
 out:∃ ws,Rd h 1 v g.length ws∧GridK h ws g B sp
 top:∀ b,zI v=some b→sp b
 inj:∀ i r j s row row',At2 g i r row→At2 g j s row'→B i r=B j s→i=j∧r=s
 sep:∀ i r row,At2 g i r row→¬ sp (B i r)
 lt:∀ i r row,At2 g i r row→N≤B i r∧B i r < h.n
 sl:∀ b,sp b→b < h.n
theorem GridG.c1 {N:Nat} {h:Hp} {v:V} {g:Grd} {B:Nat→Nat→Nat} {sp:Nat→Prop} (G:GridG N h v g B sp):C1 v:=by
 obtain ⟨ws,h1,_⟩:=G.out
 exact h1.c1
theorem GridG.keep {N:Nat} {h h':Hp} {v:V} {g:Grd} {B:Nat→Nat→Nat} {sp:Nat→Prop} (G:GridG N h v g B sp) (x:Ext h.n h h'):GridG N h' v g B sp:=by
 obtain ⟨⟨ws,h1,h2⟩,h3,h4,h5,h6,h7⟩:=G
 have xn:=x.n
 refine ⟨⟨ws,h1.same fun c hc=>x.old c (h7 c (h3 c hc)),fun i rows hi=>?_⟩,h3,h4,h5,fun i r row a=>⟨(h6 i r row a).1,by have:=(h6 i r row a).2; omega⟩,fun b hb=>by have:=h7 b hb; omega⟩
 obtain ⟨w,us,k1,k2,k3,k4⟩:=h2 i rows hi
 refine ⟨w,us,k1,k2.same fun c hc=>x.old c (h7 c (k3 c hc)),k3,fun r row hr=>?_⟩
 obtain ⟨u,q1,q2,q3⟩:=k4 r row hr
 exact ⟨u,q1,q2,by rw [x.old _ (h6 i r row ⟨rows,hi,hr⟩).2]; exact q3⟩
theorem leaf_rd {h:Hp} {b:Nat} {row:List Vl} {u:V} (hu:LeafV b row.length u) (hg:h.t.get b=some (.cells (vlCs row) 48 false)):Rd h 3 u row.length (vlCs row):=by
 refine ⟨vlCs_len row,.inr ⟨b,0,_,zcH hg,sub_all (vlCs_len row),?_⟩⟩
 rcases hu with rfl | rfl
 ·exact .inl ⟨_,rfl⟩
 ·exact .inr ⟨_,_,rfl⟩
theorem iaddr_slo {t e sz:Nat} {z:List V} {ag:Bool} (ht:IsSl EE t e) (he:El EE e sz z ag) (b off len lo i:Nat) (hi:i < len) (k:IntKind) (q:V→Prop):(Pu EE).iaddr t (.slo b off len lo sz) (.int k i) q↔q (.ptr b (off+i * sz)):=by
 obtain ⟨ti,h1,h2⟩:=ht
 obtain ⟨⟨j,h3,h4,h5,h6,h7⟩,h8⟩:=he
 subst h4
 show (∃ u,zbi EE t (.slo b off len lo j.size) (.int k i)=some u∧q u)↔_
 have hbl:Nat.blt i len=true:=by rw [Nat.blt_eq]; exact hi
 simp only [zbi,zbV,h1,Option.bind_some,h2,h3,hbl,cond_true,zT]
theorem zcT {b n:Nat} {u:V} (hu:LeafV b n u) {i:Nat} (hi:i < n) (k:IntKind) (q:V→Prop):(Pu EE).iaddr 39 u (.int k i) q↔q (.ptr b (i * 3)):=by
 rcases hu with rfl | rfl
 ·rw [zgR zM ze _ _ _ _ _ hi,Nat.zero_add]
 ·rw [iaddr_slo zM ze _ _ _ _ _ hi,Nat.zero_add]
section
variable {N:Nat} {h:Hp} {v:V} {g:Grd} {B:Nat→Nat→Nat} {sp:Nat→Prop}
theorem GridG.row (G:GridG N h v g B sp) {i r:Nat} {row:List Vl} (a:At2 g i r row):∃ b o w b2 o2 u,(∀ (k:IntKind) (q:V→Prop),(Pu EE).iaddr 29 v (.int k i) q↔q (.ptr b o))∧(∀ q:V→Prop,(Pu EE).load h 35 (.ptr b o) q↔q w) ∧
  (∀ (k:IntKind) (q:V→Prop),(Pu EE).iaddr 35 w (.int k r) q↔q (.ptr b2 o2))∧(∀ q:V→Prop,(Pu EE).load h 39 (.ptr b2 o2) q↔q u)∧LeafV (B i r) row.length u∧h.t.get (B i r)=some (.cells (vlCs row) 48 false):=by
 obtain ⟨ws,h1,h2⟩:=G.out
 obtain ⟨rows,hi,hr⟩:=a
 obtain ⟨w,us,k1,k2,k3,k4⟩:=h2 i rows hi
 obtain ⟨u,q1,q2,q3⟩:=k4 r row hr
 obtain ⟨b,o,g1,g2,_⟩:=zde h1 zaa zap k1
 obtain ⟨b2,o2,g3,g4,_⟩:=zde k2 zaC zN q1
 exact ⟨b,o,w,b2,o2,u,g1,g2,g3,g4,q2,q3⟩
theorem getG_at {i r c:Nat} {row:List Vl} (a:At2 g i r row) {x:Vl} (hx:row[c]? = some x):getG g i r c=x:=by
 obtain ⟨rows,hi,hr⟩:=a
 unfold getG
 rw [hi,Option.getD_some,hr,Option.getD_some,hx,Option.getD_some]
theorem zfc {b:Nat} {row:List Vl} (hg:h.t.get b=some (.cells (vlCs row) 48 false)) {c:Nat} {x:Vl} (hx:row[c]? = some x) (q:V→Prop):(Pu EE).load h 48 (.ptr b (c * 3)) q↔q (valV x):=by
 have hc:=(List.getElem?_eq_some_iff.1 hx).1
 refine zd ze hg (l:=vlC x) ?_ q
 have e:=vlCs_at row c x hx
 have hl:=vlCs_len row
 unfold sub
 rw [e]
 rfl
end
theorem setG_len (g:Grd) (i r c:Nat) (x:Vl):(setG g i r c x).length=g.length:=by unfold setG; rw [List.length_modify]
theorem setG_at (g:Grd) (i r c:Nat) (x:Vl) {j:Nat} {rows':List (List Vl)} (h:(setG g i r c x)[j]? = some rows'):∃ rows,g[j]? = some rows∧rows'.length=rows.length∧∀ (s:Nat) (row':List Vl),rows'[s]? = some row'→∃ row,rows[s]? = some row∧((j=i∧s=r∧row'=row.set c x)∨(¬ (j=i∧s=r)∧row'=row)):=by
 unfold setG at h
 rw [List.getElem?_modify] at h
 cases hj:g[j]? with
 | none=>rw [hj] at h; simp at h
 | some rows=>
  rw [hj] at h
  simp only [Option.map_eq_map,Option.map_some,Option.some.injEq] at h
  by_cases e:i=j
  ·rw [if_pos e] at h
   subst h
   refine ⟨rows,rfl,List.length_modify _ _ _,fun s row' hs=>?_⟩
   rw [List.getElem?_modify] at hs
   cases hr:rows[s]? with
   | none=>rw [hr] at hs; simp at hs
   | some row=>
    rw [hr] at hs
    simp only [Option.map_eq_map,Option.map_some,Option.some.injEq] at hs
    by_cases e2:r=s
    ·rw [if_pos e2] at hs
     exact ⟨row,rfl,.inl ⟨e.symm,e2.symm,hs.symm⟩⟩
    ·rw [if_neg e2] at hs
     exact ⟨row,rfl,.inr ⟨fun q=>e2 q.2.symm,hs.symm⟩⟩
  ·rw [if_neg e] at h
   subst h
   exact ⟨rows,rfl,rfl,fun s row' hs=>⟨row',hs,.inr ⟨fun q=>e q.1.symm,rfl⟩⟩⟩
section
variable {N:Nat} {h:Hp} {v:V} {g:Grd} {B:Nat→Nat→Nat} {sp:Nat→Prop}
theorem GridG.set (G:GridG N h v g B sp) {i r:Nat} {row:List Vl} (a:At2 g i r row) {c:Nat} (hc:c < row.length) (x:Vl) {q:Hp→Prop} (hq:∀ h',GridG N h' v (setG g i r c x) B sp→h'.n=h.n→(∀ b,b ≠ B i r→h'.t.get b=h.t.get b)→q h'):
  (Pu EE).store h 48 (.ptr (B i r) (c * 3)) (valV x) q:=by
 obtain ⟨_,_,_,_,_,_,_,_,_,_,_,hg⟩:=G.row a
 refine zC ze hg (x:=valV x) rfl rfl (spl_val row c x hc) fun h' w=>hq h' ?_ w.n w.other
 have back:∀ {j s:Nat} {row':List Vl},At2 (setG g i r c x) j s row'→∃ row0,At2 g j s row0∧row'.length=row0.length:=by
  rintro j s row' ⟨rows',hj,hs⟩
  obtain ⟨rows,h1,_,h2⟩:=setG_at g i r c x hj
  obtain ⟨row0,h3,h4⟩:=h2 s row' hs
  refine ⟨row0,⟨rows,h1,h3⟩,?_⟩
  rcases h4 with ⟨_,_,rfl⟩ | ⟨_,rfl⟩
  ·rw [List.length_set]
  ·rfl
 obtain ⟨⟨ws,h1,h2⟩,h3,h4,h5,h6,h7⟩:=G
 have hns:∀ b,sp b→b ≠ B i r:=fun b hb e=>h5 i r row a (e ▸ hb)
 refine ⟨⟨ws,?_,fun j rows' hj=>?_⟩,h3,fun j s k t r1 r2 a1 a2 e=>?_,fun j s r1 a1=>?_,fun j s r1 a1=>?_,fun b hb=>by rw [w.n]; exact h7 b hb⟩
 ·rw [setG_len]
  exact h1.same fun b hb=>w.other b (hns b (h3 b hb))
 ·obtain ⟨rows,k1,k2,k3⟩:=setG_at g i r c x hj
  obtain ⟨w0,us,q1,q2,q3,q4⟩:=h2 j rows k1
  refine ⟨w0,us,q1,by rw [k2]; exact q2.same fun b hb=>w.other b (hns b (q3 b hb)),q3,fun s row' hs=>?_⟩
  obtain ⟨row0,k4,k5⟩:=k3 s row' hs
  obtain ⟨u,p1,p2,p3⟩:=q4 s row0 k4
  rcases k5 with ⟨rfl,rfl,rfl⟩ | ⟨hne,rfl⟩
  ·have er:row0=row:=by
    obtain ⟨rows2,r1,r2⟩:=a
    rw [k1] at r1; cases r1
    rw [k4] at r2; cases r2; rfl
   subst er
   exact ⟨u,p1,by rw [List.length_set]; exact p2,w.at_⟩
  ·refine ⟨u,p1,p2,?_⟩
   rw [w.other _ fun e=>hne ?_]
   ·exact p3
   ·exact h4 j s i r _ _ ⟨rows,k1,k4⟩ a e
 ·obtain ⟨x1,y1,_⟩:=back a1
  obtain ⟨x2,y2,_⟩:=back a2
  exact h4 j s k t _ _ y1 y2 e
 ·obtain ⟨x1,y1,_⟩:=back a1
  exact h5 j s _ y1
 ·obtain ⟨x1,y1,_⟩:=back a1
  rw [w.n]
  exact h6 j s _ y1
end
end
end Go.Proofs.YtbchdlelmkmagaaGreatDoor.VM
namespace Go.Proofs.YtbchdlelmkmagaaGreatDoor.VM
open Go
noncomputable section
theorem zbe (b o:Nat) (q:V→Prop):(Pu EE).faddr 235 (.ptr b o) 0 q↔q (.ptr b (o+0)):=zcK (by kernel_rfl) q
theorem zaX (b o:Nat) (q:V→Prop):(Pu EE).faddr 235 (.ptr b o) 1 q↔q (.ptr b (o+1)):=zcK (by kernel_rfl) q
theorem so_val_number:ze2 EE 235 [(0,1),(1,1)] [.int .i64 0,.int .i64 0]:=zgG (by kernel_rfl)
end
end Go.Proofs.YtbchdlelmkmagaaGreatDoor.VM
namespace Go.Proofs.YtbchdlelmkmagaaGreatDoor.VM
open Go
set_option linter.unusedVariables false
set_option maxRecDepth 100000
noncomputable section
noncomputable def c_val_Num:Code:=match Tryz.f44.body with | some c=>c | none=>.skip
noncomputable def F_val_Num:Fl:=⟨Tryz.f44,c_val_Num,[]⟩
noncomputable def zk2 (p:Pr) (l:LL) (Q:QQ) (v0:V) (h:Hp):Prop:=
 p.alloc h 48 fun x1 h2 b3=>
 p.build 48 [(0,(.int .i64 1)),(1,v0)] fun x4=>
 p.store h2 48 x1 x4 fun h5=>
 p.load h5 48 x1 fun x6=>
 Q x6 h5
theorem q_val_Num_0 (p:Pr) (l:LL) (Q:QQ) (v0:V) (h:Hp):zk2 p l Q v0 h=F_val_Num.K p EE l Q [] ([v0]++List.replicate 4 zj) h:=by kernel_rfl
theorem a_val_Num {Q:QQ} {v0:V} {h:Hp} (H:zk2 (Pu EE) (F_val_Num.L EE Q) Q v0 h):Ans EE 44 [v0] h Q:=
 ansL (F:=F_val_Num) (by kernel_rfl) (by kernel_rfl) (by kernel_rfl) (by kernel_rfl) (cast (q_val_Num_0 _ _ _ v0 h) H)
noncomputable def c_val_Bool:Code:=match Tryz.f104.body with | some c=>c | none=>.skip
noncomputable def F_val_Bool:Fl:=⟨Tryz.f104,c_val_Bool,[]⟩
noncomputable def zjM (p:Pr) (l:LL) (Q:QQ) (v0:V) (h:Hp):Prop:=
 p.alloc h 48 fun x1 h2 b3=>
 p.cond v0
 (fun _=>
  p.build 48 [(0,(.int .i64 3)),(1,(.int .i64 1))] fun x4=>
  p.store h2 48 x1 x4 fun h5=>
  p.load h5 48 x1 fun x6=>
  Q x6 h5)
 (fun _=>
  p.build 48 [(0,(.int .i64 3))] fun x7=>
  p.store h2 48 x1 x7 fun h8=>
  p.load h8 48 x1 fun x9=>
  Q x9 h8)
theorem q_val_Bool_0 (p:Pr) (l:LL) (Q:QQ) (v0:V) (h:Hp):zjM p l Q v0 h=F_val_Bool.K p EE l Q [] ([v0]++List.replicate 5 zj) h:=by kernel_rfl
theorem a_val_Bool {Q:QQ} {v0:V} {h:Hp} (H:zjM (Pu EE) (F_val_Bool.L EE Q) Q v0 h):Ans EE 104 [v0] h Q:=
 ansL (F:=F_val_Bool) (by kernel_rfl) (by kernel_rfl) (by kernel_rfl) (by kernel_rfl) (cast (q_val_Bool_0 _ _ _ v0 h) H)
noncomputable def c_val_Str:Code:=match Tryz.f41.body with | some c=>c | none=>.skip
noncomputable def F_val_Str:Fl:=⟨Tryz.f41,c_val_Str,[]⟩
noncomputable def zk1 (p:Pr) (l:LL) (Q:QQ) (v0:V) (h:Hp):Prop:=
 p.alloc h 48 fun x1 h2 b3=>
 p.lbui h2 #[9] .len [v0] fun x4=>
 p.bin .gtr 3 false true x4 (.int .i64 200) fun x5=>
 p.cond x5
 (fun _=>
  p.call 18 [(.int .i64 1)] h2 fun x6 h7=>
  p.store h7 48 x1 x6 fun h8=>
  p.load h8 48 x1 fun x9=>
  Q x9 h8)
 (fun _=>
  p.build 48 [(0,(.int .i64 2)),(2,v0)] fun x10=>
  p.store h2 48 x1 x10 fun h11=>
  p.load h11 48 x1 fun x12=>
  Q x12 h11)
theorem q_val_Str_0 (p:Pr) (l:LL) (Q:QQ) (v0:V) (h:Hp):zk1 p l Q v0 h=F_val_Str.K p EE l Q [] ([v0]++List.replicate 8 zj) h:=by kernel_rfl
theorem a_val_Str {Q:QQ} {v0:V} {h:Hp} (H:zk1 (Pu EE) (F_val_Str.L EE Q) Q v0 h):Ans EE 41 [v0] h Q:=
 ansL (F:=F_val_Str) (by kernel_rfl) (by kernel_rfl) (by kernel_rfl) (by kernel_rfl) (cast (q_val_Str_0 _ _ _ v0 h) H)
noncomputable def c_val_Err:Code:=match Tryz.f18.body with | some c=>c | none=>.skip
noncomputable def F_val_Err:Fl:=⟨Tryz.f18,c_val_Err,[]⟩
noncomputable def zlb (p:Pr) (l:LL) (Q:QQ) (v0:V) (h:Hp):Prop:=
 p.alloc h 48 fun x1 h2 b3=>
 p.build 48 [(0,(.int .i64 4)),(1,v0)] fun x4=>
 p.store h2 48 x1 x4 fun h5=>
 p.load h5 48 x1 fun x6=>
 Q x6 h5
theorem q_val_Err_0 (p:Pr) (l:LL) (Q:QQ) (v0:V) (h:Hp):zlb p l Q v0 h=F_val_Err.K p EE l Q [] ([v0]++List.replicate 4 zj) h:=by kernel_rfl
theorem a_val_Err {Q:QQ} {v0:V} {h:Hp} (H:zlb (Pu EE) (F_val_Err.L EE Q) Q v0 h):Ans EE 18 [v0] h Q:=
 ansL (F:=F_val_Err) (by kernel_rfl) (by kernel_rfl) (by kernel_rfl) (by kernel_rfl) (cast (q_val_Err_0 _ _ _ v0 h) H)
noncomputable def c_val_Text:Code:=match Tryz.f164.body with | some c=>c | none=>.skip
noncomputable def F_val_Text:Fl:=⟨Tryz.f164,c_val_Text,[]⟩
noncomputable def zjX (p:Pr) (l:LL) (Q:QQ) (v0:V) (h:Hp):Prop:=
 p.box h 48 v0 fun x1 h2 b3=>
 p.faddr 48 x1 0 fun x4=>
 p.load h2 3 x4 fun x5=>
 p.bin .eql 3 false true x5 (.int .i64 1) fun x6=>
 p.cond x6
 (fun _=>
  p.faddr 48 x1 1 fun x7=>
  p.load h2 3 x7 fun x8=>
  p.call 43 [x8] h2 fun x9 h10=>
  Q x9 h10)
 (fun _=>
  p.bin .eql 3 false true x5 (.int .i64 2) fun x11=>
  p.cond x11
  (fun _=>
  p.faddr 48 x1 2 fun x12=>
  p.load h2 9 x12 fun x13=>
  Q x13 h2)
  (fun _=>
  p.bin .eql 3 false true x5 (.int .i64 3) fun x14=>
  p.cond x14
  (fun _=>
   p.faddr 48 x1 1 fun x15=>
   p.load h2 3 x15 fun x16=>
   p.bin .eql 3 false true x16 (.int .i64 1) fun x17=>
   p.cond x17
   (fun _=>
   Q (.str [84,82,85,69]) h2)
   (fun _=>
   Q (.str [70,65,76,83,69]) h2))
  (fun _=>
   p.bin .eql 3 false true x5 (.int .i64 4) fun x18=>
   p.cond x18
   (fun _=>
   p.faddr 48 x1 1 fun x19=>
   p.load h2 3 x19 fun x20=>
   p.bin .eql 3 false true x20 (.int .i64 1) fun x21=>
   p.cond x21
   (fun _=>
    Q (.str [35,86,65,76,85,69,33]) h2)
   (fun _=>
    p.bin .eql 3 false true x20 (.int .i64 2) fun x22=>
    p.cond x22
    (fun _=>
    Q (.str [35,78,85,77,33]) h2)
    (fun _=>
    p.bin .eql 3 false true x20 (.int .i64 3) fun x23=>
    p.cond x23
    (fun _=>
     Q (.str [35,68,73,86,48,33]) h2)
    (fun _=>
     p.bin .eql 3 false true x20 (.int .i64 4) fun x24=>
     p.cond x24
     (fun _=>
     Q (.str [35,82,69,70,33]) h2)
     (fun _=>
     p.bin .eql 3 false true x20 (.int .i64 5) fun x25=>
     p.cond x25
     (fun _=>
      Q (.str [35,78,65,77,69,33]) h2)
     (fun _=>
      p.bin .eql 3 false true x20 (.int .i64 6) fun x26=>
      p.cond x26
      (fun _=>
      Q (.str [35,67,89,67,76,69,33]) h2)
      (fun _=>
      Q (.str []) h2)))))))
   (fun _=>
   Q (.str []) h2))))
theorem q_val_Text_0 (p:Pr) (l:LL) (Q:QQ) (v0:V) (h:Hp):zjX p l Q v0 h=F_val_Text.K p EE l Q [] ([v0]++List.replicate 34 zj) h:=by kernel_rfl
theorem a_val_Text {Q:QQ} {v0:V} {h:Hp} (H:zjX (Pu EE) (F_val_Text.L EE Q) Q v0 h):Ans EE 164 [v0] h Q:=
 ansL (F:=F_val_Text) (by kernel_rfl) (by kernel_rfl) (by kernel_rfl) (by kernel_rfl) (cast (q_val_Text_0 _ _ _ v0 h) H)
noncomputable def c_val_Int:Code:=match Tryz.f162.body with | some c=>c | none=>.skip
noncomputable def F_val_Int:Fl:=⟨Tryz.f162,c_val_Int,[]⟩
noncomputable def zlx (p:Pr) (l:LL) (Q:QQ) (v0:V) (h:Hp):Prop:=
 p.box h 48 v0 fun x1 h2 b3=>
 p.faddr 48 x1 0 fun x4=>
 p.load h2 3 x4 fun x5=>
 p.bin .eql 3 false true x5 (.int .i64 0) fun x6=>
 p.cond x6
 (fun _=>
  Q (.tup [(.int .i64 0),(.bool true)]) h2)
 (fun _=>
  p.bin .eql 3 false true x5 (.int .i64 1) fun x7=>
  p.cond x7
  (fun _=>
  p.faddr 48 x1 1 fun x8=>
  p.load h2 3 x8 fun x9=>
  Q (.tup [x9,(.bool true)]) h2)
  (fun _=>
  Q (.tup [(.int .i64 0),(.bool false)]) h2))
theorem q_val_Int_0 (p:Pr) (l:LL) (Q:QQ) (v0:V) (h:Hp):zlx p l Q v0 h=F_val_Int.K p EE l Q [] ([v0]++List.replicate 11 zj) h:=by kernel_rfl
theorem a_val_Int {Q:QQ} {v0:V} {h:Hp} (H:zlx (Pu EE) (F_val_Int.L EE Q) Q v0 h):Ans EE 162 [v0] h Q:=
 ansL (F:=F_val_Int) (by kernel_rfl) (by kernel_rfl) (by kernel_rfl) (by kernel_rfl) (cast (q_val_Int_0 _ _ _ v0 h) H)
noncomputable def c_val_Truth:Code:=match Tryz.f268.body with | some c=>c | none=>.skip
noncomputable def zkZ:Fl:=⟨Tryz.f268,c_val_Truth,[]⟩
noncomputable def ziv (p:Pr) (l:LL) (Q:QQ) (v0:V) (h:Hp):Prop:=
 p.box h 48 v0 fun x1 h2 b3=>
 p.faddr 48 x1 0 fun x4=>
 p.load h2 3 x4 fun x5=>
 p.bin .eql 3 false true x5 (.int .i64 0) fun x6=>
 p.cond x6
 (fun _=>
  Q (.tup [(.bool false),(.bool true)]) h2)
 (fun _=>
  p.bin .eql 3 false true x5 (.int .i64 3) fun x7=>
  p.cond x7
  (fun _=>
  p.faddr 48 x1 1 fun x8=>
  p.load h2 3 x8 fun x9=>
  p.bin .eql 3 false true x9 (.int .i64 1) fun x10=>
  Q (.tup [x10,(.bool true)]) h2)
  (fun _=>
  p.bin .eql 3 false true x5 (.int .i64 1) fun x11=>
  p.cond x11
  (fun _=>
   p.faddr 48 x1 1 fun x12=>
   p.load h2 3 x12 fun x13=>
   p.bin .neq 3 false true x13 (.int .i64 0) fun x14=>
   Q (.tup [x14,(.bool true)]) h2)
  (fun _=>
   Q (.tup [(.bool false),(.bool false)]) h2)))
theorem q_val_Truth_0 (p:Pr) (l:LL) (Q:QQ) (v0:V) (h:Hp):ziv p l Q v0 h=zkZ.K p EE l Q [] ([v0]++List.replicate 17 zj) h:=by kernel_rfl
theorem a_val_Truth {Q:QQ} {v0:V} {h:Hp} (H:ziv (Pu EE) (zkZ.L EE Q) Q v0 h):Ans EE 268 [v0] h Q:=
 ansL (F:=zkZ) (by kernel_rfl) (by kernel_rfl) (by kernel_rfl) (by kernel_rfl) (cast (q_val_Truth_0 _ _ _ v0 h) H)
noncomputable def c_val_Two:Code:=match Tryz.f109.body with | some c=>c | none=>.skip
noncomputable def zhv:Fl:=⟨Tryz.f109,c_val_Two,[([true,false,true,false,true,true],[0,4,5,6,17,18])]⟩
abbrev L_val_Two_1 (Q:QQ) (v0 v4 v5 v6 v17 v18:V) (h:Hp):Prop:=zhv.L EE Q 1 [v0,v4,v5,v6,v17,v18] h
noncomputable def zlk (p:Pr) (l:LL) (Q:QQ) (v0 v1 v2:V) (h:Hp):Prop:=
 p.box h 48 v1 fun x1 h2 b3=>
 p.box h2 48 v2 fun x4 h5 b6=>
 p.alloc h5 48 fun x7 h8 b9=>
 p.faddr 48 x1 0 fun x10=>
 p.load h8 3 x10 fun x11=>
 p.bin .eql 3 false true x11 (.int .i64 4) fun x12=>
 p.cond x12
 (fun _=>
  p.load h8 48 x1 fun x13=>
  p.store h8 48 x7 x13 fun h14=>
  p.load h14 48 x7 fun x15=>
  Q x15 h14)
 (fun _=>
  p.faddr 48 x4 0 fun x16=>
  p.load h8 3 x16 fun x17=>
  p.bin .eql 3 false true x17 (.int .i64 4) fun x18=>
  p.cond x18
  (fun _=>
  p.load h8 48 x4 fun x19=>
  p.store h8 48 x7 x19 fun h20=>
  p.load h20 48 x7 fun x21=>
  Q x21 h20)
  (fun _=>
  p.bin .eql 3 false true v0 (.int .i64 16) fun x22=>
  p.cond x22
  (fun _=>
   l 1 [v0,x1,x4,x7,v0,x22] h8)
  (fun _=>
   p.bin .eql 3 false true v0 (.int .i64 17) fun x23=>
   p.cond x23
   (fun _=>
   l 1 [v0,x1,x4,x7,v0,x23] h8)
   (fun _=>
   p.bin .eql 3 false true v0 (.int .i64 18) fun x24=>
   p.cond x24
   (fun _=>
    l 1 [v0,x1,x4,x7,v0,x24] h8)
   (fun _=>
    p.bin .eql 3 false true v0 (.int .i64 19) fun x25=>
    l 1 [v0,x1,x4,x7,v0,x25] h8)))))
theorem q_val_Two_0 (p:Pr) (l:LL) (Q:QQ) (v0 v1 v2:V) (h:Hp):zlk p l Q v0 v1 v2 h=zhv.K p EE l Q [] ([v0,v1,v2]++List.replicate 75 zj) h:=by kernel_rfl
theorem a_val_Two {Q:QQ} {v0 v1 v2:V} {h:Hp} (H:zlk (Pu EE) (zhv.L EE Q) Q v0 v1 v2 h):Ans EE 109 [v0,v1,v2] h Q:=
 ansL (F:=zhv) (by kernel_rfl) (by kernel_rfl) (by kernel_rfl) (by kernel_rfl) (cast (q_val_Two_0 _ _ _ v0 v1 v2 h) H)
noncomputable def zgn (p:Pr) (l:LL) (Q:QQ) (v0 v4 v5 v6 v17 v18:V) (h:Hp):Prop:=
 p.cond v18
 (fun _=>
  p.load h 48 v4 fun x1=>
  p.load h 48 v5 fun x2=>
  p.call 163 [v0,x1,x2] h fun x3 h4=>
  p.store h4 48 v6 x3 fun h5=>
  p.load h5 48 v6 fun x6=>
  Q x6 h5)
 (fun _=>
  p.bin .eql 3 false true v17 (.int .i64 15) fun x7=>
  p.cond x7
  (fun _=>
  p.load h 48 v4 fun x8=>
  p.load h 48 v5 fun x9=>
  p.call 164 [x8] h fun x10 h11=>
  p.load h11 48 v5 fun x12=>
  p.same x12 x9 (
  p.call 164 [x9] h11 fun x13 h14=>
  p.bin .add 9 false false x10 x13 fun x15=>
  p.call 41 [x15] h14 fun x16 h17=>
  p.store h17 48 v6 x16 fun h18=>
  p.load h18 48 v6 fun x19=>
  Q x19 h18))
  (fun _=>
  p.bin .eql 3 false true v17 (.int .i64 9) fun x20=>
  p.cond x20
  (fun _=>
   p.load h 48 v4 fun x21=>
   p.load h 48 v5 fun x22=>
   p.call 165 [x21,x22] h fun x23 h24=>
   p.bin .eql 3 false true x23 (.int .i64 0) fun x25=>
   p.call 104 [x25] h24 fun x26 h27=>
   p.store h27 48 v6 x26 fun h28=>
   p.load h28 48 v6 fun x29=>
   Q x29 h28)
  (fun _=>
   p.bin .eql 3 false true v17 (.int .i64 10) fun x30=>
   p.cond x30
   (fun _=>
   p.load h 48 v4 fun x31=>
   p.load h 48 v5 fun x32=>
   p.call 165 [x31,x32] h fun x33 h34=>
   p.bin .neq 3 false true x33 (.int .i64 0) fun x35=>
   p.call 104 [x35] h34 fun x36 h37=>
   p.store h37 48 v6 x36 fun h38=>
   p.load h38 48 v6 fun x39=>
   Q x39 h38)
   (fun _=>
   p.bin .eql 3 false true v17 (.int .i64 11) fun x40=>
   p.cond x40
   (fun _=>
    p.load h 48 v4 fun x41=>
    p.load h 48 v5 fun x42=>
    p.call 165 [x41,x42] h fun x43 h44=>
    p.bin .lss 3 false true x43 (.int .i64 0) fun x45=>
    p.call 104 [x45] h44 fun x46 h47=>
    p.store h47 48 v6 x46 fun h48=>
    p.load h48 48 v6 fun x49=>
    Q x49 h48)
   (fun _=>
    p.bin .eql 3 false true v17 (.int .i64 12) fun x50=>
    p.cond x50
    (fun _=>
    p.load h 48 v4 fun x51=>
    p.load h 48 v5 fun x52=>
    p.call 165 [x51,x52] h fun x53 h54=>
    p.bin .leq 3 false true x53 (.int .i64 0) fun x55=>
    p.call 104 [x55] h54 fun x56 h57=>
    p.store h57 48 v6 x56 fun h58=>
    p.load h58 48 v6 fun x59=>
    Q x59 h58)
    (fun _=>
    p.bin .eql 3 false true v17 (.int .i64 13) fun x60=>
    p.cond x60
    (fun _=>
     p.load h 48 v4 fun x61=>
     p.load h 48 v5 fun x62=>
     p.call 165 [x61,x62] h fun x63 h64=>
     p.bin .gtr 3 false true x63 (.int .i64 0) fun x65=>
     p.call 104 [x65] h64 fun x66 h67=>
     p.store h67 48 v6 x66 fun h68=>
     p.load h68 48 v6 fun x69=>
     Q x69 h68)
    (fun _=>
     p.bin .eql 3 false true v17 (.int .i64 14) fun x70=>
     p.cond x70
     (fun _=>
     p.load h 48 v4 fun x71=>
     p.load h 48 v5 fun x72=>
     p.call 165 [x71,x72] h fun x73 h74=>
     p.bin .geq 3 false true x73 (.int .i64 0) fun x75=>
     p.call 104 [x75] h74 fun x76 h77=>
     p.store h77 48 v6 x76 fun h78=>
     p.load h78 48 v6 fun x79=>
     Q x79 h78)
     (fun _=>
     p.call 18 [(.int .i64 1)] h fun x80 h81=>
     p.store h81 48 v6 x80 fun h82=>
     p.load h82 48 v6 fun x83=>
     Q x83 h82))))))))
theorem q_val_Two_1 (p:Pr) (l:LL) (Q:QQ) (s:List V) (h:Hp):zgn p l Q (nth s 0) (nth s 4) (nth s 5) (nth s 6) (nth s 17) (nth s 18) h=zhv.K p EE l Q [true,true,false,true,false,true] (nths s 78 0) h:=by kernel_rfl
theorem zlf {Q:QQ} {v0 v4 v5 v6 v17 v18:V} {h:Hp} (H:zgn (Pu EE) (zhv.L EE Q) Q v0 v4 v5 v6 v17 v18 h):L_val_Two_1 Q v0 v4 v5 v6 v17 v18 h:=
 labR (path:=[true,true,false,true,false,true]) rfl rfl fun s e=>by cases e; exact cast (q_val_Two_1 _ _ _ s h) H
noncomputable def c_val_numbers:Code:=match Tryz.f163.body with | some c=>c | none=>.skip
noncomputable def zh0:Fl:=⟨Tryz.f163,c_val_numbers,[]⟩
noncomputable def zgh (p:Pr) (l:LL) (Q:QQ) (v0 v1 v2:V) (h:Hp):Prop:=
 p.box h 48 v1 fun x1 h2 b3=>
 p.box h2 48 v2 fun x4 h5 b6=>
 p.alloc h5 48 fun x7 h8 b9=>
 p.load h8 48 x1 fun x10=>
 p.call 162 [x10] h8 fun x11 h12=>
 p.extr x11 0 fun x13=>
 p.extr x11 1 fun x14=>
 p.load h12 48 x4 fun x15=>
 p.call 162 [x15] h12 fun x16 h17=>
 p.extr x16 0 fun x18=>
 p.extr x16 1 fun x19=>
 p.un .not x14 fun x20=>
 p.gval x20 false (fun k21=>
  k21 x19) fun x22=>
 p.gval x20 false (fun k23=>
  p.un .not x22 fun x24=>
  k23 x24) fun x25=>
 p.pick x20 (some (.bool true)) (some x25) fun x26=>
 p.cond x26
 (fun _=>
  p.call 18 [(.int .i64 1)] h17 fun x27 h28=>
  p.store h28 48 x7 x27 fun h29=>
  p.load h29 48 x7 fun x30=>
  Q x30 h29)
 (fun _=>
  p.bin .eql 3 false true v0 (.int .i64 19) fun x31=>
  p.gval x31 true (fun k32=>
  k32 x18) fun x33=>
  p.gval x31 true (fun k34=>
  p.bin .eql 3 false true x33 (.int .i64 0) fun x35=>
  k34 x35) fun x36=>
  p.pick x31 (some x36) (some (.bool false)) fun x37=>
  p.cond x37
  (fun _=>
  p.call 18 [(.int .i64 3)] h17 fun x38 h39=>
  p.store h39 48 x7 x38 fun h40=>
  p.load h40 48 x7 fun x41=>
  Q x41 h40)
  (fun _=>
  p.mkmap h17 true fun x42 h43 b44=>
  p.mapu h43 236 x42 (.int .i64 16) (.fn (.func 234) [] []) fun h45=>
  p.mapu h45 236 x42 (.int .i64 17) (.fn (.func 235) [] []) fun h46=>
  p.mapu h46 236 x42 (.int .i64 18) (.fn (.func 236) [] []) fun h47=>
  p.mapu h47 236 x42 (.int .i64 19) (.fn (.func 237) [] []) fun h48=>
  p.look h48 236 x42 v0 false fun x49=>
  p.build 235 [(0,x13),(1,x18)] fun x50=>
  p.callv x49 [x50] h48 fun x51 h52=>
  p.extr x51 0 fun x53=>
  p.extr x51 1 fun x54=>
  p.un .not x54 fun x55=>
  p.cond x55
  (fun _=>
   p.call 18 [(.int .i64 2)] h52 fun x56 h57=>
   p.store h57 48 x7 x56 fun h58=>
   p.load h58 48 x7 fun x59=>
   Q x59 h58)
  (fun _=>
   p.call 44 [x53] h52 fun x60 h61=>
   p.store h61 48 x7 x60 fun h62=>
   p.load h62 48 x7 fun x63=>
   Q x63 h62)))
theorem q_val_numbers_0 (p:Pr) (l:LL) (Q:QQ) (v0 v1 v2:V) (h:Hp):zgh p l Q v0 v1 v2 h=zh0.K p EE l Q [] ([v0,v1,v2]++List.replicate 54 zj) h:=by kernel_rfl
theorem a_val_numbers {Q:QQ} {v0 v1 v2:V} {h:Hp} (H:zgh (Pu EE) (zh0.L EE Q) Q v0 v1 v2 h):Ans EE 163 [v0,v1,v2] h Q:=
 ansL (F:=zh0) (by kernel_rfl) (by kernel_rfl) (by kernel_rfl) (by kernel_rfl) (cast (q_val_numbers_0 _ _ _ v0 v1 v2 h) H)
noncomputable def c_val_Cmp:Code:=match Tryz.f165.body with | some c=>c | none=>.skip
noncomputable def F_val_Cmp:Fl:=⟨Tryz.f165,c_val_Cmp,[]⟩
noncomputable def zlh (p:Pr) (l:LL) (Q:QQ) (v0 v1:V) (h:Hp):Prop:=
 p.box h 48 v0 fun x1 h2 b3=>
 p.box h2 48 v1 fun x4 h5 b6=>
 p.load h5 48 x1 fun x7=>
 p.load h5 48 x4 fun x8=>
 p.load h5 48 x4 fun x9=>
 p.load h5 48 x1 fun x10=>
 p.call 238 [x7,x8] h5 fun x11 h12=>
 p.load h12 48 x1 fun x13=>
 p.same x13 x10 (
 p.load h12 48 x4 fun x14=>
 p.same x14 x9 (
 p.call 238 [x9,x10] h12 fun x15 h16=>
 p.store h16 48 x1 x11 fun h17=>
 p.store h17 48 x4 x15 fun h18=>
 p.faddr 48 x1 0 fun x19=>
 p.load h18 3 x19 fun x20=>
 p.faddr 48 x4 0 fun x21=>
 p.load h18 3 x21 fun x22=>
 p.faddr 48 x1 1 fun x23=>
 p.load h18 3 x23 fun x24=>
 p.faddr 48 x4 1 fun x25=>
 p.load h18 3 x25 fun x26=>
 p.faddr 48 x1 2 fun x27=>
 p.load h18 9 x27 fun x28=>
 p.faddr 48 x4 2 fun x29=>
 p.load h18 9 x29 fun x30=>
 p.call 145 [x20,x22] h18 fun x31 h32=>
 p.load h32 9 x29 fun x33=>
 p.same x33 x30 (
 p.load h32 9 x27 fun x34=>
 p.same x34 x28 (
 p.load h32 3 x25 fun x35=>
 p.same x35 x26 (
 p.load h32 3 x23 fun x36=>
 p.same x36 x24 (
 p.call 145 [x24,x26] h32 fun x37 h38=>
 p.load h38 9 x29 fun x39=>
 p.same x39 x30 (
 p.load h38 9 x27 fun x40=>
 p.same x40 x28 (
 p.call 144 [x28,x30] h38 fun x41 h42=>
 p.bsl h42 86 3 [(0,x31),(1,x37),(2,x41)] fun x43 h44 b45=>
 p.call 143 [x43] h44 fun x46 h47=>
 Q x46 h47))))))))
theorem q_val_Cmp_0 (p:Pr) (l:LL) (Q:QQ) (v0 v1:V) (h:Hp):zlh p l Q v0 v1 h=F_val_Cmp.K p EE l Q [] ([v0,v1]++List.replicate 26 zj) h:=by kernel_rfl
theorem a_val_Cmp {Q:QQ} {v0 v1:V} {h:Hp} (H:zlh (Pu EE) (F_val_Cmp.L EE Q) Q v0 v1 h):Ans EE 165 [v0,v1] h Q:=
 ansL (F:=F_val_Cmp) (by kernel_rfl) (by kernel_rfl) (by kernel_rfl) (by kernel_rfl) (cast (q_val_Cmp_0 _ _ _ v0 v1 h) H)
noncomputable def c_val_like:Code:=match Tryz.f238.body with | some c=>c | none=>.skip
noncomputable def F_val_like:Fl:=⟨Tryz.f238,c_val_like,[]⟩
noncomputable def zjJ (p:Pr) (l:LL) (Q:QQ) (v0 v1:V) (h:Hp):Prop:=
 p.box h 48 v0 fun x1 h2 b3=>
 p.box h2 48 v1 fun x4 h5 b6=>
 p.alloc h5 48 fun x7 h8 b9=>
 p.faddr 48 x1 0 fun x10=>
 p.load h8 3 x10 fun x11=>
 p.bin .eql 3 false true x11 (.int .i64 0) fun x12=>
 p.cond x12
 (fun _=>
  p.faddr 48 x4 0 fun x13=>
  p.load h8 3 x13 fun x14=>
  p.build 48 [(0,x14)] fun x15=>
  p.store h8 48 x7 x15 fun h16=>
  p.load h16 48 x7 fun x17=>
  Q x17 h16)
 (fun _=>
  p.load h8 48 x1 fun x18=>
  p.store h8 48 x7 x18 fun h19=>
  p.load h19 48 x7 fun x20=>
  Q x20 h19)
theorem q_val_like_0 (p:Pr) (l:LL) (Q:QQ) (v0 v1:V) (h:Hp):zjJ p l Q v0 v1 h=F_val_like.K p EE l Q [] ([v0,v1]++List.replicate 10 zj) h:=by kernel_rfl
theorem a_val_like {Q:QQ} {v0 v1:V} {h:Hp} (H:zjJ (Pu EE) (F_val_like.L EE Q) Q v0 v1 h):Ans EE 238 [v0,v1] h Q:=
 ansL (F:=F_val_like) (by kernel_rfl) (by kernel_rfl) (by kernel_rfl) (by kernel_rfl) (cast (q_val_like_0 _ _ _ v0 v1 h) H)
noncomputable def c_val_number_add:Code:=match Tryz.f234.body with | some c=>c | none=>.skip
noncomputable def zfq:Fl:=⟨Tryz.f234,c_val_number_add,[]⟩
noncomputable def zdF (p:Pr) (l:LL) (Q:QQ) (v0:V) (h:Hp):Prop:=
 p.box h 235 v0 fun x1 h2 b3=>
 p.faddr 235 x1 0 fun x4=>
 p.load h2 3 x4 fun x5=>
 p.faddr 235 x1 1 fun x6=>
 p.load h2 3 x6 fun x7=>
 p.bin .add 3 false false x5 x7 fun x8=>
 p.faddr 235 x1 0 fun x9=>
 p.load h2 3 x9 fun x10=>
 p.bin .gtr 3 false false x8 x10 fun x11=>
 p.faddr 235 x1 1 fun x12=>
 p.load h2 3 x12 fun x13=>
 p.bin .gtr 3 false true x13 (.int .i64 0) fun x14=>
 p.bin .eql 4 false false x11 x14 fun x15=>
 p.load h2 3 x12 fun x16=>
 p.same x16 x13 (
 p.load h2 3 x9 fun x17=>
 p.same x17 x10 (
 Q (.tup [x8,x15]) h2))
theorem q_val_number_add_0 (p:Pr) (l:LL) (Q:QQ) (v0:V) (h:Hp):zdF p l Q v0 h=zfq.K p EE l Q [] ([v0]++List.replicate 18 zj) h:=by kernel_rfl
theorem a_val_number_add {Q:QQ} {v0:V} {h:Hp} (H:zdF (Pu EE) (zfq.L EE Q) Q v0 h):Ans EE 234 [v0] h Q:=
 ansL (F:=zfq) (by kernel_rfl) (by kernel_rfl) (by kernel_rfl) (by kernel_rfl) (cast (q_val_number_add_0 _ _ _ v0 h) H)
noncomputable def c_val_number_mul:Code:=match Tryz.f236.body with | some c=>c | none=>.skip
noncomputable def zfm:Fl:=⟨Tryz.f236,c_val_number_mul,[]⟩
noncomputable def zd0 (p:Pr) (l:LL) (Q:QQ) (v0:V) (h:Hp):Prop:=
 p.box h 235 v0 fun x1 h2 b3=>
 p.faddr 235 x1 0 fun x4=>
 p.load h2 3 x4 fun x5=>
 p.bin .eql 3 false true x5 (.int .i64 0) fun x6=>
 p.gval x6 false (fun k7=>
  p.faddr 235 x1 1 fun x8=>
  k7 x8) fun x9=>
 p.gval x6 false (fun k10=>
  p.load h2 3 x9 fun x11=>
  k10 x11) fun x12=>
 p.gval x6 false (fun k13=>
  p.bin .eql 3 false true x12 (.int .i64 0) fun x14=>
  k13 x14) fun x15=>
 p.pick x6 (some (.bool true)) (some x15) fun x16=>
 p.cond x16
 (fun _=>
  Q (.tup [(.int .i64 0),(.bool true)]) h2)
 (fun _=>
  p.faddr 235 x1 0 fun x17=>
  p.load h2 3 x17 fun x18=>
  p.faddr 235 x1 1 fun x19=>
  p.load h2 3 x19 fun x20=>
  p.bin .mul 3 false false x18 x20 fun x21=>
  p.faddr 235 x1 1 fun x22=>
  p.load h2 3 x22 fun x23=>
  p.bin .quo 3 false false x21 x23 fun x24=>
  p.faddr 235 x1 0 fun x25=>
  p.load h2 3 x25 fun x26=>
  p.bin .eql 3 false false x24 x26 fun x27=>
  p.gval x27 true (fun k28=>
  p.faddr 235 x1 0 fun x29=>
  k28 x29) fun x30=>
  p.gval x27 true (fun k31=>
  p.load h2 3 x30 fun x32=>
  k31 x32) fun x33=>
  p.gval x27 true (fun k34=>
  p.bin .eql 3 false true x33 (.int .i64 (-1)) fun x35=>
  k34 x35) fun x36=>
  p.gval x27 true (fun k37=>
  k37 x36) fun x38=>
  p.gval x38 true (fun k39=>
  p.faddr 235 x1 1 fun x40=>
  k39 x40) fun x41=>
  p.gval x38 true (fun k42=>
  p.load h2 3 x41 fun x43=>
  k42 x43) fun x44=>
  p.gval x38 true (fun k45=>
  p.bin .eql 3 false true x44 (.int .i64 (-9223372036854775808)) fun x46=>
  k45 x46) fun x47=>
  p.gval x27 true (fun k48=>
  p.pick x38 (some x47) (some (.bool false)) fun x49=>
  k48 x49) fun x50=>
  p.gval x27 true (fun k51=>
  p.un .not x50 fun x52=>
  k51 x52) fun x53=>
  p.pick x27 (some x53) (some (.bool false)) fun x54=>
  p.gval x54 true (fun k55=>
  p.faddr 235 x1 1 fun x56=>
  k55 x56) fun x57=>
  p.gval x54 true (fun k58=>
  p.load h2 3 x57 fun x59=>
  k58 x59) fun x60=>
  p.gval x54 true (fun k61=>
  p.bin .eql 3 false true x60 (.int .i64 (-1)) fun x62=>
  k61 x62) fun x63=>
  p.gval x54 true (fun k64=>
  k64 x63) fun x65=>
  p.gval x65 true (fun k66=>
  p.faddr 235 x1 0 fun x67=>
  k66 x67) fun x68=>
  p.gval x65 true (fun k69=>
  p.load h2 3 x68 fun x70=>
  k69 x70) fun x71=>
  p.gval x65 true (fun k72=>
  p.bin .eql 3 false true x71 (.int .i64 (-9223372036854775808)) fun x73=>
  k72 x73) fun x74=>
  p.gval x54 true (fun k75=>
  p.pick x65 (some x74) (some (.bool false)) fun x76=>
  k75 x76) fun x77=>
  p.gval x54 true (fun k78=>
  p.un .not x77 fun x79=>
  k78 x79) fun x80=>
  p.pick x54 (some x80) (some (.bool false)) fun x81=>
  p.gchk x65 true (fun k82=>
  p.load h2 3 x68 fun x83=>
  p.same x83 x71 (
  k82)) (
  Q (.tup [x21,x81]) h2))
theorem q_val_number_mul_0 (p:Pr) (l:LL) (Q:QQ) (v0:V) (h:Hp):zd0 p l Q v0 h=zfm.K p EE l Q [] ([v0]++List.replicate 47 zj) h:=by kernel_rfl
theorem a_val_number_mul {Q:QQ} {v0:V} {h:Hp} (H:zd0 (Pu EE) (zfm.L EE Q) Q v0 h):Ans EE 236 [v0] h Q:=
 ansL (F:=zfm) (by kernel_rfl) (by kernel_rfl) (by kernel_rfl) (by kernel_rfl) (cast (q_val_number_mul_0 _ _ _ v0 h) H)
noncomputable def c_val_number_div:Code:=match Tryz.f237.body with | some c=>c | none=>.skip
noncomputable def zfp:Fl:=⟨Tryz.f237,c_val_number_div,[]⟩
noncomputable def zd2 (p:Pr) (l:LL) (Q:QQ) (v0:V) (h:Hp):Prop:=
 p.box h 235 v0 fun x1 h2 b3=>
 p.faddr 235 x1 0 fun x4=>
 p.load h2 3 x4 fun x5=>
 p.bin .eql 3 false true x5 (.int .i64 (-9223372036854775808)) fun x6=>
 p.gval x6 true (fun k7=>
  p.faddr 235 x1 1 fun x8=>
  k7 x8) fun x9=>
 p.gval x6 true (fun k10=>
  p.load h2 3 x9 fun x11=>
  k10 x11) fun x12=>
 p.gval x6 true (fun k13=>
  p.bin .eql 3 false true x12 (.int .i64 (-1)) fun x14=>
  k13 x14) fun x15=>
 p.pick x6 (some x15) (some (.bool false)) fun x16=>
 p.cond x16
 (fun _=>
  Q (.tup [(.int .i64 0),(.bool false)]) h2)
 (fun _=>
  p.faddr 235 x1 0 fun x17=>
  p.load h2 3 x17 fun x18=>
  p.faddr 235 x1 1 fun x19=>
  p.load h2 3 x19 fun x20=>
  p.bin .quo 3 false false x18 x20 fun x21=>
  Q (.tup [x21,(.bool true)]) h2)
theorem q_val_number_div_0 (p:Pr) (l:LL) (Q:QQ) (v0:V) (h:Hp):zd2 p l Q v0 h=zfp.K p EE l Q [] ([v0]++List.replicate 16 zj) h:=by kernel_rfl
theorem a_val_number_div {Q:QQ} {v0:V} {h:Hp} (H:zd2 (Pu EE) (zfp.L EE Q) Q v0 h):Ans EE 237 [v0] h Q:=
 ansL (F:=zfp) (by kernel_rfl) (by kernel_rfl) (by kernel_rfl) (by kernel_rfl) (cast (q_val_number_div_0 _ _ _ v0 h) H)
end
end Go.Proofs.YtbchdlelmkmagaaGreatDoor.VM
namespace Go.Proofs.YtbchdlelmkmagaaGreatDoor.VM
open Go
set_option linter.unusedVariables false
set_option linter.unusedSectionVars false
set_option linter.unusedSimpArgs false
set_option maxRecDepth 20000
noncomputable section
attribute [local instance] syZ
theorem pu_callv {f:Nat} {al:List V} {h:Hp} {k:V→Hp→Prop} (H:Ans EE f al h k):(Pu EE).callv (.fn (.func f) [] []) al h k:=⟨(f,al),by simp [target],H⟩
theorem retV {h:Hp} {b:Nat} {cs:List V} (hg:h.t.get b=some (.cells cs 48 false)) (hl:cs.length=3) (v:Vl) {Q:V→Hp→Prop} (hq:∀ h',Wr h h' b (.cells (vlC v) 48 false)→Q (valV v) h'):
  (Pu EE).store h 48 (.ptr b 0) (valV v) fun h5=>(Pu EE).load h5 48 (.ptr b 0) fun x=>Q x h5:=by
 have hs:spl cs 0 (vlC v)=some (vlC v):=by
  match cs,hl with
  | [x,y,z],_=>simp [vlC,spl]
 refine zC ze hg (x:=valV v) rfl rfl hs fun h' w=>?_
 rw [zd ze w.at_ (l:=vlC v) rfl]
 exact hq h' w
theorem outV {h:Hp} (v:Vl) {h1:Hp} {b:Nat} (w:New h h1 b (.cells [.int .i64 0,.int .i64 0,.str []] 48 false)) {Q:V→Hp→Prop} (hq:∀ h',Ext h.n h h'→Q (valV v) h'):(Pu EE).store h1 48 (.ptr b 0) (valV v) fun h5=>(Pu EE).load h5 48 (.ptr b 0) fun x=>Q x h5:=by
 have n1:=w.n
 have e1:=w.b
 refine retV w.at_ rfl v fun h' w'=>hq h' ⟨by rw [w'.n]; omega,fun c hc=>by rw [w'.other c (by omega),w.old c hc]⟩
theorem num_ok (n:Int) (h:Hp):Ans EE 44 [.int .i64 n] h fun x h'=>x=valV (vlN n)∧Ext h.n h h':=by
 apply a_val_Num
 unfold zk2
 refine zq ze fun h1 b w=>?_
 rw [zaD za2 _ (fun p hp=>by
  simp only [List.mem_cons,List.not_mem_nil,or_false] at hp
  rcases hp with rfl | rfl <;> exact zcU _ _) rfl]
 exact outV (vlN n) w fun h' x=>⟨rfl,x⟩
theorem err_ok (e:Nat) (z:Int) (hz:z=(e:Int)) (h:Hp):Ans EE 18 [.int .i64 z] h fun x h'=>x=valV (vlE e)∧Ext h.n h h':=by
 subst hz
 apply a_val_Err
 unfold zlb
 refine zq ze fun h1 b w=>?_
 rw [zaD za2 _ (fun p hp=>by
  simp only [List.mem_cons,List.not_mem_nil,or_false] at hp
  rcases hp with rfl | rfl <;> exact zcU _ _) rfl]
 exact outV (vlE e) w fun h' x=>⟨rfl,x⟩
theorem bool_ok (c:Bool) (h:Hp):Ans EE 104 [.bool c] h fun x h'=>x=valV (vlB c)∧Ext h.n h h':=by
 apply a_val_Bool
 unfold zjM
 refine zq ze fun h1 b w=>?_
 cases c with
 | true=>
  rw [zc,zaD za2 _ (fun p hp=>by
   simp only [List.mem_cons,List.not_mem_nil,or_false] at hp
   rcases hp with rfl | rfl <;> exact zcU _ _) rfl]
  exact outV (vlB true) w fun h' x=>⟨rfl,x⟩
 | false=>
  rw [zb,zaD za2 _ (fun p hp=>by
   simp only [List.mem_cons,List.not_mem_nil,or_false] at hp
   rcases hp with rfl; exact zcU _ _) rfl]
  exact outV (vlB false) w fun h' x=>⟨rfl,x⟩
theorem str_ok (s:List Nat) (h:Hp):Ans EE 41 [.str s] h fun x h'=>x=valV (vlT s)∧Ext h.n h h':=by
 apply a_val_Str
 unfold zk1
 refine zq ze fun h1 b w=>?_
 have n1:=w.n
 have e1:=w.b
 obtain ⟨i,hi1,hi2⟩:=zhD
 rw [pu_slen _ i h1 hi1 hi2,show (200:Int)=((200:Nat):Int) from rfl,gtrN,zi]
 refine ⟨fun hl=>?_,fun hl=>?_⟩
 ·refine (err_ok 1 1 rfl h1).mono ?_
  rintro x h2 ⟨rfl,x2⟩
  have n2:=x2.n
  refine retV (by rw [x2.old b (by omega)]; exact w.at_) rfl (vlE 1) fun h' w'=>?_
  unfold vlT
  rw [if_neg (by omega)]
  exact ⟨rfl,by rw [w'.n]; omega,fun c hc=>by rw [w'.other c (by omega),x2.old c (by omega),w.old c hc]⟩
 ·rw [zaD za2 _ (fun p hp=>by
   simp only [List.mem_cons,List.not_mem_nil,or_false] at hp
   rcases hp with rfl | rfl
   ·exact zcU _ _
   ·exact c1_str _) rfl]
  unfold vlT
  rw [if_pos (by omega)]
  exact outV ⟨2,0,s⟩ w fun h' x=>⟨rfl,x⟩
theorem hook_itoa:EE.hook 43=some dgH:=by kernel_rfl
theorem hook_dig:EE.hook 38=some dgH:=by kernel_rfl
theorem dig_ok {f:Nat} (hk:EE.hook f=some dgH) (n:Int) (hn:zar n) (h:Hp):Ans EE f [.int .i64 n] h fun x h'=>x=.str (digL n)∧h'=h:=by
 refine ⟨_,_,Cs.hook hk (r:=(.str (digL n),h)) ?_,rfl,rfl⟩
 unfold dgH
 simp only [if_pos hn]
theorem eqlK (a b:Nat) (z:Int) (hz:z=(b:Int)) (t:Nat) (cx cy:Bool) (q:V→Prop):(Pu EE).bin .eql t cx cy (.int .i64 (a:Int)) (.int .i64 z) q↔q (.bool (decide (a=b))):=by subst hz; exact eqlN a b t cx cy q
theorem zdn (v:Vl) {h:Hp} {q:V→Hp→Blk→Prop} (hq:∀ h1 b,New h h1 b (.cells (vlC v) 48 false)→q (.ptr b 0) h1 (.cells (vlC v) 48 false)):(Pu EE).box h 48 (valV v) q:=zW (cs:=vlC v) rfl hq
theorem textS_ok (v:Vl) (m:MayV v) (hk:v.k ≠ 4) (h:Hp):Ans EE 164 [valV v] h fun x h'=>x=.str (textV v)∧Ext h.n h h':=by
 apply a_val_Text
 unfold zjX
 refine zdn v fun h1 b w=>?_
 have e:=w.ext (Nat.le_refl _)
 rw [zF,za zm w.at_ rfl,eqlK _ 1 1 rfl,zi]
 unfold textV
 refine ⟨fun h1'=>?_,fun h1'=>?_⟩
 ·rw [zat,za zm w.at_ rfl,if_pos h1']
  refine (dig_ok hook_itoa v.n m.f h1).mono ?_
  rintro x h2 ⟨rfl,rfl⟩
  exact ⟨rfl,e⟩
 ·rw [eqlK _ 2 2 rfl,zi,if_neg h1']
  refine ⟨fun h2'=>?_,fun h2'=>?_⟩
  ·rw [zdq,za zL w.at_ rfl,if_pos h2']
   exact ⟨rfl,e⟩
  ·rw [eqlK _ 3 3 rfl,zi,if_neg h2']
   refine ⟨fun h3'=>?_,fun h3'=>?_⟩
   ·rw [zat,za zm w.at_ rfl,zcJ,zi,if_pos h3']
    exact ⟨fun q=>by rw [if_pos q]; exact ⟨rfl,e⟩,fun q=>by rw [if_neg q]; exact ⟨rfl,e⟩⟩
   ·rw [eqlK _ 4 4 rfl,zi,if_neg h3']
    exact ⟨fun q=>absurd q hk,fun _=>⟨rfl,e⟩⟩
theorem int_ok (v:Vl) (m:MayV v) (h:Hp):Ans EE 162 [valV v] h fun x h'=>x=.tup [.int .i64 ((intV v).getD 0),.bool (intV v).isSome]∧Ext h.n h h':=by
 apply a_val_Int
 unfold zlx
 refine zdn v fun h1 b w=>?_
 have e:=w.ext (Nat.le_refl _)
 rw [zF,za zm w.at_ rfl,eqlK _ 0 0 rfl,zi]
 unfold intV
 refine ⟨fun h0=>?_,fun h0=>?_⟩
 ·have hn:v.n=0:=m.n (by omega) (by omega) (by omega)
  rw [if_pos (by omega),hn]
  exact ⟨rfl,e⟩
 ·rw [eqlK _ 1 1 rfl,zi]
  refine ⟨fun h1'=>?_,fun h1'=>?_⟩
  ·rw [zat,za zm w.at_ rfl,if_pos (by omega)]
   exact ⟨rfl,e⟩
  ·rw [if_neg (by omega)]
   exact ⟨rfl,e⟩
theorem truth_ok (v:Vl) (m:MayV v) (h:Hp):Ans EE 268 [valV v] h fun x h'=>x=.tup [.bool ((ziB v).getD false),.bool (ziB v).isSome]∧Ext h.n h h':=by
 apply a_val_Truth
 unfold ziv
 refine zdn v fun h1 b w=>?_
 have e:=w.ext (Nat.le_refl _)
 rw [zF,za zm w.at_ rfl,eqlK _ 0 0 rfl,zi]
 unfold ziB
 refine ⟨fun h0=>?_,fun h0=>?_⟩
 ·have hn:v.n=0:=m.n (by omega) (by omega) (by omega)
  rw [if_pos (by omega),hn]
  exact ⟨rfl,e⟩
 ·rw [eqlK _ 3 3 rfl,zi]
  refine ⟨fun h3=>?_,fun h3=>?_⟩
  ·rw [zat,za zm w.at_ rfl,zcJ,if_pos (by omega)]
   refine ⟨?_,e⟩
   rcases m.b h3 with q | q <;> rw [q] <;> rfl
  ·rw [eqlK _ 1 1 rfl,zi]
   refine ⟨fun h1'=>?_,fun h1'=>?_⟩
   ·rw [zat,za zm w.at_ rfl,pu_neq,if_pos (by omega)]
    refine ⟨?_,e⟩
    by_cases q:v.n=0 <;> simp [q]
   ·rw [if_neg (by omega)]
    exact ⟨rfl,e⟩
end
end Go.Proofs.YtbchdlelmkmagaaGreatDoor.VM
