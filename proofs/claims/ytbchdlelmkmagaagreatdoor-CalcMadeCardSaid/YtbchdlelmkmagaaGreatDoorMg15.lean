/- CmRf CmRg CmRh CmRi CmRj CmRk CmRl CmRm CmRn CmRo CmRp CmRq CmRr CmRs CmVa CmVb CmVc CmVd CmVe -/
import Derived.Test.YtbchdlelmkmagaaGreatDoorMg14
namespace Go.Proofs.YtbchdlelmkmagaaGreatDoor.VM
open Go
set_option linter.unusedVariables false
set_option linter.unusedSectionVars false
set_option linter.unusedSimpArgs false
set_option maxRecDepth 20000
noncomputable section
attribute [local instance] syZ
theorem noIntI:∃ iu,EE.ty.get 86=some iu∧∀ k,iu.k ≠ .int k:=by
 obtain ⟨i,h1,h2⟩:=zbS; exact ⟨i,h1,fun k=>by rw [h2]; simp⟩
def intCs (l:List Int):List V:=l.map (V.int .i64)
abbrev OwnI (N:Nat) (h:Hp) (v:V) (l:List Int):Prop:=Own N h v 3 1 l.length (intCs l)
theorem append_int {N:Nat} {h:Hp} {v:V} {l:List Int} (o:OwnI N h v l) (n:Int) (hlen:l.length+1≤1048576) (hN:N≤h.n) (q:V→Hp→Prop)
  (hq:∀ v' h',OwnI N h' v' (l++[n])→Ext N h h'→(∀ c,c < h.n→zI v ≠ some c→h'.t.get c=h.t.get c)→q v' h'):
  (Pu EE).bsl h 86 1 [(0,.int .i64 n)] fun x h1 _=>(Pu EE).ebui h1 #[86,86] .append [v,x] q:=by
 rw [zcL zbS zm _ rfl (by omega)]
 have o1:OwnI N (h.new (.cells (V.int .i64 n).cells 3 false)) v l:=o.keep (Nat.le_succ _) (fun c hc=>by rw [Hp.get_new,if_neg (Nat.ne_of_lt (o.in_ c hc))])
 obtain ⟨v',h',h1,h2,h3,h4,h5⟩:=zdj (ts:=#[86,86]) o1 rfl rfl zbS noIntI zm (zfx (zfu (h:=h) (e:=3) (ws:=(V.int .i64 n).cells) rfl).rd).1 (fun e=>by cases e) rfl hlen (Nat.le_succ_of_le hN)
 refine (h1 q).2 (hq v' h' ?_ ((Ext.new hN _).trans h3) (fun c hc hne=>?_))
 ·have e:intCs (l++[n])=intCs l++(V.int .i64 n).cells:=by unfold intCs; rw [List.map_append]; rfl
  show Own _ _ _ _ _ (l++[n]).length _
  rw [List.length_append,e]
  exact h2
 ·rw [h4 c (Nat.lt_succ_of_lt hc) hne,Hp.get_new,if_neg (Nat.ne_of_lt hc)]
def ziJ (l:List Vl):List Int:=(zhf l).map Vl.n
theorem rnums_loop2 {h0:Hp} {u:V} {d:AD} (A:ArgG h0 u [d]) (hrg:d.rg=true) (hl:d.l.length≤1000000) {Q:QQ}
  (hq:∀ h' o',Ext h0.n h0 h'→OwnI h0.n h' o' (ziJ d.l)→zkS Q u o' (.int .i64 ((1:Nat):Int)) h'):
  ∀ m i (h:Hp) (o:V),d.l.length - i≤m→i≤d.l.length→Ext h0.n h0 h→OwnI h0.n h o (ziJ (d.l.take i))→zhj Q u o (.int .i64 ((0:Nat):Int)) (.int .i64 (i:Int)) h:=by
 have fin:∀ (h:Hp) (o:V),Ext h0.n h0 h→OwnI h0.n h o (ziJ d.l)→zhj Q u o (.int .i64 ((0:Nat):Int)) (.int .i64 (d.l.length:Int)) h:=by
  intro h o x ho
  have A':=A.ext x
  obtain ⟨b,of,vs,f,ro,g1,g2,g3,g4,_⟩:=A'.get2 (i:=0) (d:=d) rfl
  apply zkG
  unfold zeP
  rw [g1,zaw,za zN g2 g4,zp (A'.at_ 0 d rfl).1 zM,zak,decide_eq_false (by omega),zb,zK _ _ _ _ (by omega)]
  exact hq h o x ho
 intro m
 induction m with
 | zero=>
  intro i h o hm hi x ho
  have:i=d.l.length:=by omega
  subst this
  rw [List.take_length] at ho
  exact fin h o x ho
 | succ m ih=>
  intro i h o hm hi x ho
  by_cases hil:i < d.l.length
  ·have xn:=x.n
   have A':=A.ext x
   obtain ⟨b,of,vs,f,ro,g1,g2,g3,g4,g5⟩:=A'.get2 (i:=0) (d:=d) rfl
   obtain ⟨hr,hin⟩:=A'.at_ 0 d rfl
   apply zkG
   unfold zeP
   obtain ⟨y,hy⟩:∃ y,d.l[i]? = some y:=⟨d.l[i],List.getElem?_eq_getElem hil⟩
   obtain ⟨c,of2,k1,k2,_⟩:=rd_val hr hy
   rw [g1,zaw,za zN g2 g4,zp hr zM,zak,decide_eq_true (by omega),zc,g1,zaw,za zN g2 g4,k1,k2]
   refine vbox y fun h1 b1 w1=>?_
   have n1:=w1.n
   have e1:=w1.b
   have x1:Ext h0.n h0 h1:=x.trans (w1.ext (by omega))
   have o1:OwnI h0.n h1 o (ziJ (d.l.take i)):=ho.keep (by omega) fun c hc=>w1.old c (ho.in_ c hc)
   have tk:d.l.take (i+1)=d.l.take i++[y]:=by rw [List.take_add_one,hy]; rfl
   have go3:∀ (h2:Hp) (o2:V),Ext h0.n h0 h2→OwnI h0.n h2 o2 (ziJ (d.l.take (i+1)))→zkw Q u o2 (.int .i64 ((0:Nat):Int)) (.int .i64 (i:Int)) (.ptr b1 0) h2:=by
    intro h2 o2 x2 q2
    have A2:=A.ext x2
    obtain ⟨b',of',vs',f',ro',p1,p2,p3,p4,p5⟩:=A2.get2 (i:=0) (d:=d) rfl
    apply r_r7_numbers_3
    unfold zgW
    rw [p1,zdl,Nat.add_zero,za l_bool p2 p3,hrg,zaE,Bool.not_true]
    simp only [zS,zch]
    rw [zo,zb,zK _ _ _ _ (by omega)]
    exact ih (i+1) h2 o2 (by omega) (by omega) x2 q2
   rw [zF,za zm w1.at_ rfl,eqlK y.k 1 1 rfl]
   by_cases h1k:y.k=1
   ·rw [decide_eq_true h1k,zc,zat,za zm w1.at_ (v:=.int .i64 y.n) rfl]
    refine append_int o1 y.n ?_ (by omega) _ fun o2 h2 q2 x2 _=>?_
    ·have:(zhf (d.l.take i)).length≤(d.l.take i).length:=List.length_filter_le _ _
     unfold ziJ
     rw [List.length_map]
     rw [List.length_take] at this
     omega
    refine go3 h2 o2 (x1.trans x2) ?_
    have e:ziJ (d.l.take (i+1))=ziJ (d.l.take i)++[y.n]:=by
     unfold ziJ zhf
     rw [tk,List.filter_append,List.filter_cons_of_pos (by simpa using h1k),List.filter_nil,List.map_append]; rfl
    rw [e]; exact q2
   ·rw [decide_eq_false h1k,zb]
    refine go3 h1 o x1 ?_
    have e:ziJ (d.l.take (i+1))=ziJ (d.l.take i):=by
     unfold ziJ zhf
     rw [tk,List.filter_append,List.filter_cons_of_neg (by simpa using h1k),List.filter_nil,List.append_nil]
    rw [e]; exact o1
  ·have:i=d.l.length:=by omega
   subst this
   rw [List.take_length] at ho
   exact fin h o x ho
theorem rnums_ok {h:Hp} {u:V} {d:AD} (A:ArgG h u [d]) (hrg:d.rg=true) (hl:d.l.length≤1000000):Ans EE 192 [u] h fun x h'=>∃ o,x=.tup [o,.bool true]∧OwnI h.n h' o (ziJ d.l)∧Ext h.n h h':=by
 apply a_r7_numbers
 unfold zhi
 apply zkt
 unfold zeZ
 rw [zp A.ru zQ]
 rw [show (([d]:List AD).length:Int)=1 from rfl,zak,decide_eq_true (by decide),zc]
 refine rnums_loop2 A hrg hl (fun h' o' x' q'=>?_) d.l.length 0 h .nils (by omega) (by omega) (Ext.refl _ _) (Own.nil _ _ _ _)
 apply zkt
 unfold zeZ
 rw [zp (A.ext x').ru zQ]
 rw [show (([d]:List AD).length:Int)=1 from rfl,zak,decide_eq_false (by decide),zb]
 exact ⟨o',rfl,q',x'⟩
end
end Go.Proofs.YtbchdlelmkmagaaGreatDoor.VM
namespace Go.Proofs.YtbchdlelmkmagaaGreatDoor.VM
open Go
set_option linter.unusedVariables false
set_option linter.unusedSectionVars false
set_option linter.unusedSimpArgs false
set_option maxRecDepth 20000
noncomputable section
attribute [local instance] syZ
def sumI:List Int→Int→Vl
 | [],n=>vlN n
 | x::r,n=>if zar (n+x) then sumI r (n+x) else vlE 2
theorem foldV_err:∀ (l:List Vl) (e:Nat),zki l (vlE e)=vlE e
 | [],e=>rfl
 | v::l,e=>by
  have:twoS 16 (vlE e) v=vlE e:=by unfold twoS; rw [if_pos (show (vlE e).k=4 from rfl)]
  rw [zki,this]; exact foldV_err l e
theorem fold_sumI:∀ (l:List Vl) (n:Int),(∀ v ∈ l,v.k=1)→zki l (vlN n)=sumI (l.map Vl.n) n
 | [],n,_=>rfl
 | v::l,n,h=>by
  have hv:=h v List.mem_cons_self
  have e:twoS 16 (vlN n) v=numS (n+v.n):=by
   unfold twoS intV
   rw [if_neg (by simp [vlN]),if_neg (by omega),if_neg (by decide),if_neg (by decide),if_pos (by simp [vlN]),if_pos (by omega)]
   rfl
  rw [zki,e,List.map_cons,sumI]
  unfold numS
  split
  ·exact fold_sumI l _ (fun x hx=>h x (List.mem_cons_of_mem _ hx))
  ·exact foldV_err l 2
theorem addAll_sumI (l:List Vl):addAll l (vlN 0)=sumI (ziJ l) 0:=by
 rw [← zhK]
 exact fold_sumI (zhf l) 0 fun v hv=>by simpa using (List.mem_filter.1 hv).2
theorem many_loop {N:Nat} {h0:Hp} {o:V} {L:List Int} {b1:Nat} (O:OwnI N h0 o L) (hL:∀ x ∈ L,zar x) (hlen:L.length≤1000000) {cs:List V} (hb:h0.t.get b1=some (.cells cs 48 false)) (hc:cs.length=3) (h1:b1 < h0.n) {Q:QQ} {res:Vl}
  (hq:∀ h',h0.n≤h'.n→(∀ c,c < h0.n→c ≠ b1→h'.t.get c=h0.t.get c)→Q (valV res) h'):
  ∀ m i (n:Int) (h:Hp),L.length - i≤m→i≤L.length→zar n→Ext h0.n h0 h→res=sumI (L.drop i) n→L_r7_many_1 Q (.str sumK) (.ptr b1 0) o (.int .i64 n) (.int .i64 (i:Int)) h:=by
 have fin:∀ (h h':Hp) (v:Vl),v=res→Ext h0.n h0 h→Ext h.n h h'→(Pu EE).store h' 48 (.ptr b1 0) (valV v) fun h58=>(Pu EE).load h58 48 (.ptr b1 0) fun x59=>Q x59 h58:=by
  intro h h' v e x x'
  subst e
  have n1:=x.n
  have n':=x'.n
  refine retV (by rw [x'.old b1 (by omega),x.old b1 h1]; exact hb) hc _ fun h3 w=>hq h3 (by have:=w.n; omega) fun c hc hne=>?_
  rw [w.other c hne,x'.old c (by omega),x.old c hc]
 intro m
 induction m with
 | zero=>
  intro i n h hm hi hn x hres
  have:i=L.length:=by omega
  subst this
  apply r_r7_many_1
  unfold zik
  rw [zp O.rd zbS,zak,decide_eq_false (by omega),zb]
  refine (rnum_ok n h).mono ?_
  rintro y h2 ⟨rfl,x2⟩
  exact fin h h2 _ (by rw [hres,List.drop_length]; rfl) x x2
 | succ m ih=>
  intro i n h hm hi hn x hres
  apply r_r7_many_1
  unfold zik
  rw [zp O.rd zbS,zak]
  by_cases hil:i < L.length
  ·obtain ⟨y,hy⟩:∃ y,L[i]? = some y:=⟨L[i],List.getElem?_eq_getElem hil⟩
   have hd:L.drop i=y::L.drop (i+1):=by
    rw [List.drop_eq_getElem_cons hil]
    rw [List.getElem?_eq_getElem hil] at hy
    cases hy; rfl
   have xn:=x.n
   have O':=O.rd.same (h':=h) fun c hc=>x.old c (O.in_ c hc)
   obtain ⟨b,of,k1,k2,_⟩:=zde O' zbS zm (i:=i) (x:=.int .i64 y) (by unfold intCs; rw [List.getElem?_map,hy]; rfl)
   have hyf:=hL y (List.mem_of_getElem? hy)
   rw [decide_eq_true (by omega),zc,zbj,decide_eq_true (show sumK=[83,85,77] from rfl),zc,k1,k2]
   refine (rplus_ok hn hyf h).mono ?_
   rintro z h2 ⟨⟨s,rfl,hz⟩,x2⟩
   have n2:=x2.n
   rw [zao,zam,zaE]
   by_cases hf:zar (n+y)
   ·rw [decide_eq_true hf,Bool.not_true,zb,hz hf,zK _ _ _ _ (by omega)]
    refine ih (i+1) (n+y) h2 (by omega) (by omega) hf (x.trans (x2.mono (by omega))) ?_
    rw [hres,hd,sumI,if_pos hf]
   ·rw [decide_eq_false hf,Bool.not_false,zc]
    refine (ziT 2 2 rfl h2).mono ?_
    rintro z h3 ⟨rfl,x3⟩
    exact fin h h3 _ (by rw [hres,hd,sumI,if_neg hf]) x (x2.trans (x3.mono n2))
  ·have:i=L.length:=by omega
   subst this
   rw [decide_eq_false (by omega),zb]
   refine (rnum_ok n h).mono ?_
   rintro y h2 ⟨rfl,x2⟩
   exact fin h h2 _ (by rw [hres,List.drop_length]; rfl) x x2
theorem rmany_ok {h:Hp} {u:V} {d:AD} (A:ArgG h u [d]) (hd:d.rg=true∨(d.rg=false∧∃ e,d.l=[e]∧e.k=4)) (hm:∀ v ∈ d.l,MayV v) (hl:d.l.length≤1000000):Ans EE 128 [.str sumK,u] h fun x h'=>x=valV (sumS d.l)∧Ext h.n h h':=by
 rw [sumS_eq]
 apply a_r7_many
 unfold zk9
 refine zq ze fun h1 b1 w1=>?_
 have n1:=w1.n
 have e1:=w1.b
 have X1:=w1.ext (Nat.le_refl h.n)
 refine (rfirst_ok (A.ext X1) hl).mono ?_
 rintro y h2 ⟨rfl,x2⟩
 have n2:=x2.n
 have X2:Ext h.n h h2:=X1.trans (x2.mono (by omega))
 refine vbox _ fun h3 b3 w3=>?_
 have n3:=w3.n
 have e3:=w3.b
 have X3:Ext h.n h h3:=X2.trans (w3.ext (by omega))
 have hb1:h3.t.get b1=some (.cells [.int .i64 0,.int .i64 0,.str []] 48 false):=by rw [w3.old b1 (by omega),x2.old b1 (by omega)]; exact w1.at_
 rw [zF,za zm w3.at_ (v:=.int .i64 (((d.l.find? isEv).getD vl0).k:Int)) rfl,eqlK _ 4 4 rfl]
 cases hf:d.l.find? isEv with
 | some e=>
  have hek:e.k=4:=by have:=List.find?_some hf; unfold isEv at this; simpa using this
  rw [hf] at w3
  rw [Option.getD_some,decide_eq_true hek,zc,zd ze w3.at_ (l:=vlC e) rfl]
  refine retV hb1 rfl e fun h4 w4=>⟨by unfold sumG; rw [hf],by rw [w4.n]; omega,fun c hc=>?_⟩
  rw [w4.other c (by omega),X3.old c hc]
 | none=>
  rw [Option.getD_none,decide_eq_false (by decide),zb]
  have hrg:d.rg=true:=by
   rcases hd with h' | ⟨_,e,he,hk⟩
   ·exact h'
   ·rw [he,List.find?_cons_of_pos (by unfold isEv; rw [decide_eq_true hk])] at hf
    cases hf
  refine (rnums_ok (A.ext X3) hrg hl).mono ?_
  rintro y h4 ⟨o,rfl,ho,x4⟩
  have n4:=x4.n
  rw [zao,zam,zaE,Bool.not_true,zb]
  have hll:(ziJ d.l).length≤1000000:=by
   have:(zhf d.l).length≤d.l.length:=List.length_filter_le _ _
   unfold ziJ; rw [List.length_map]; omega
  refine many_loop ho (fun x hx=>?_) hll (by rw [x4.old b1 (by omega)]; exact hb1) rfl (by omega) (res:=sumG d) (fun h' q1 q2=>⟨rfl,by omega,fun c hc=>by rw [q2 c (by omega) (by omega),x4.old c (by omega),X3.old c hc]⟩) (ziJ d.l).length 0 0 h4 (by omega) (by omega) (by simp [zar]) (Ext.refl _ _) (by unfold sumG; rw [hf]; exact addAll_sumI d.l)
  unfold ziJ at hx
  obtain ⟨v,hv,rfl⟩:=List.mem_map.1 hx
  exact (hm v (List.mem_filter.1 hv).1).f
end
end Go.Proofs.YtbchdlelmkmagaaGreatDoor.VM
namespace Go.Proofs.YtbchdlelmkmagaaGreatDoor.VM
open Go
set_option linter.unusedVariables false
set_option linter.unusedSectionVars false
set_option linter.unusedSimpArgs false
set_option maxRecDepth 20000
noncomputable section
attribute [local instance] syZ
theorem fits_loop {h:Hp} {u:V} {al:List AD} (A:ArgG h u al) {lo hi:Nat} {c:Bool} (hc:∀ d ∈ al,d.rg=true→c=true) (h1:lo≤al.length) (h2:al.length≤hi) (hl:al.length < 1000) {Q:QQ} (hq:Q (.tup [.bool true,.bool true]) h):
  ∀ m i,al.length - i≤m→i≤al.length→zkY Q u (.int .i64 (lo:Int)) (.int .i64 (hi:Int)) (.bool c) (.int .i64 (i:Int)) h:=by
 have fin:zkY Q u (.int .i64 (lo:Int)) (.int .i64 (hi:Int)) (.bool c) (.int .i64 (al.length:Int)) h:=by
  apply r_r7_fits_1
  unfold zhT
  rw [zp A.ru zQ,zak,decide_eq_false (by omega),zb,zp A.ru zQ,pu_geq,decide_eq_true (by omega)]
  simp only [zu]
  rw [zp A.ru zQ,zhL,decide_eq_true (by omega),zB]
  exact hq
 intro m
 induction m with
 | zero=>
  intro i hm hi'
  have:i=al.length:=by omega
  subst this; exact fin
 | succ m ih=>
  intro i hm hi'
  by_cases hil:i < al.length
  ·apply r_r7_fits_1
   unfold zhT
   obtain ⟨y,hy⟩:∃ y,al[i]? = some y:=⟨al[i],List.getElem?_eq_getElem hil⟩
   obtain ⟨b,of,vs,f,ro,g1,g2,g3,g4,_⟩:=A.get2 hy
   rw [zp A.ru zQ,zak,decide_eq_true (by omega),zc,g1,zdl,Nat.add_zero,za l_bool g2 g3]
   cases hrg:y.rg with
   | true=>
    have:=hc y (List.mem_of_getElem? hy) hrg
    subst this
    simp only [zu]
    rw [zaE,Bool.not_true,zB,zb,zK _ _ _ _ (by omega)]
    exact ih (i+1) (by omega) (by omega)
   | false=>
    simp only [zS]
    rw [zo,zb,zK _ _ _ _ (by omega)]
    exact ih (i+1) (by omega) (by omega)
  ·have:i=al.length:=by omega
   subst this; exact fin
theorem fits_sum {h:Hp} {u:V} {d:AD} (A:ArgG h u [d]):Ans EE 127 [.str sumK,u] h fun x h'=>x=.tup [.bool true,.bool true]∧h'=h:=by
 apply a_r7_fits
 unfold zit
 rw [zbj,decide_eq_true (show sumK=[83,85,77] from rfl),zc]
 apply r_r7_fits_2
 unfold zhM
 rw [zc,zp A.ru zQ]
 apply r_r7_fits_6
 unfold zhO
 exact fits_loop A (lo:=1) (hi:=1) (c:=true) (fun _ _ _=>rfl) (by simp) (by simp) (by simp) ⟨rfl,rfl⟩ 1 0 (by simp) (by simp)
theorem fits_if {h:Hp} {u:V} {d1 d2 d3:AD} (A:ArgG h u [d1,d2,d3]) (h1:d1.rg=false) (h2:d2.rg=false) (h3:d3.rg=false):Ans EE 127 [.str ifK,u] h fun x h'=>x=.tup [.bool true,.bool true]∧h'=h:=by
 apply a_r7_fits
 unfold zit
 rw [zbj,decide_eq_false (by decide),zb,zbj,decide_eq_false (by decide),zb,zbj,decide_eq_false (by decide),zb,zbj,decide_eq_false (by decide),zb,zbj,decide_eq_false (by decide),zb,zbj,decide_eq_false (by decide),zb,zbj,decide_eq_false (by decide)]
 apply r_r7_fits_2
 unfold zhM
 rw [zb,zbj,decide_eq_true (show ifK=[73,70] from rfl),zc]
 apply r_r7_fits_6
 unfold zhO
 refine fits_loop A (lo:=2) (hi:=3) (c:=false) (fun d hd q=>?_) (by simp) (by simp) (by simp) ⟨rfl,rfl⟩ 3 0 (by simp) (by simp)
 simp only [List.mem_cons,List.not_mem_nil,or_false] at hd
 rcases hd with rfl | rfl | rfl
 ·rw [h1] at q; cases q
 ·rw [h2] at q; cases q
 ·rw [h3] at q; cases q
theorem rcall_sum {h:Hp} {u:V} {d:AD} (A:ArgG h u [d]) (hd:d.rg=true∨(d.rg=false∧∃ e,d.l=[e]∧e.k=4)) (hm:∀ v ∈ d.l,MayV v) (hl:d.l.length≤1000000):Ans EE 87 [.str sumK,u] h fun x h'=>x=valV (sumS d.l)∧Ext h.n h h':=by
 apply a_r7_Call
 unfold zib
 refine zq ze fun h1 b1 w1=>?_
 have n1:=w1.n
 have e1:=w1.b
 have X1:=w1.ext (Nat.le_refl h.n)
 refine (fits_sum (A.ext X1)).mono ?_
 rintro y h2 ⟨rfl,rfl⟩
 rw [zao,zam,zaE,Bool.not_true,zb,zaE,Bool.not_true,zb,zbj,decide_eq_true (show sumK=[83,85,77] from rfl),zc]
 apply r_r7_Call_1
 unfold zhY
 rw [zc]
 refine (rmany_ok (A.ext X1) hd hm hl).mono ?_
 rintro y h3 ⟨rfl,x3⟩
 have n3:=x3.n
 refine retV (by rw [x3.old b1 (by omega)]; exact w1.at_) rfl _ fun h4 w4=>⟨rfl,by rw [w4.n]; omega,fun c hc=>?_⟩
 rw [w4.other c (by omega),x3.old c (by omega),w1.old c hc]
theorem rcall_if {h:Hp} {u:V} {ws:List V} {x y z:Vl} (A:ArgN h u ws [x,y,z]):Ans EE 87 [.str ifK,u] h fun v h'=>v=valV (ifS x y z)∧Ext h.n h h':=by
 obtain ⟨w1_,w2_,w3_,rfl⟩:∃ a b c,ws=[a,b,c]:=by
  match ws,A.len with
  | [a,b,c],_=>exact ⟨a,b,c,rfl⟩
 have G:ArgG h u [⟨false,0,w1_,[x]⟩,⟨false,0,w2_,[y]⟩,⟨false,0,w3_,[z]⟩]:=⟨A.ru,A.iu,fun i d hd=>by
  match i,hd with
  | 0,hd=>cases hd; exact A.at_ 0 _ _ rfl rfl
  | 1,hd=>cases hd; exact A.at_ 1 _ _ rfl rfl
  | 2,hd=>cases hd; exact A.at_ 2 _ _ rfl rfl⟩
 apply a_r7_Call
 unfold zib
 refine zq ze fun h1 b1 w1=>?_
 have n1:=w1.n
 have e1:=w1.b
 have X1:=w1.ext (Nat.le_refl h.n)
 refine (fits_if (G.ext X1) rfl rfl rfl).mono ?_
 rintro v h2 ⟨rfl,rfl⟩
 rw [zao,zam,zaE,Bool.not_true,zb,zaE,Bool.not_true,zb,zbj,decide_eq_false (by decide),zb,zbj,decide_eq_false (by decide),zb,zbj,decide_eq_false (by decide)]
 apply r_r7_Call_1
 unfold zhY
 rw [zb,zbj,decide_eq_false (by decide),zb,zbj,decide_eq_false (by decide),zb,zbj,decide_eq_false (by decide)]
 apply r_r7_Call_2
 unfold zla
 rw [zb,zbj,decide_eq_true (show ifK=[73,70] from rfl),zc]
 refine (rchoose_ok (A.ext X1)).mono ?_
 rintro v h3 ⟨rfl,x3⟩
 have n3:=x3.n
 refine retV (by rw [x3.old b1 (by omega)]; exact w1.at_) rfl _ fun h4 w4=>⟨rfl,by rw [w4.n]; omega,fun c hc=>?_⟩
 rw [w4.other c (by omega),x3.old c (by omega),w1.old c hc]
end
end Go.Proofs.YtbchdlelmkmagaaGreatDoor.VM
namespace Go.Proofs.YtbchdlelmkmagaaGreatDoor.VM
open Go
set_option linter.unusedVariables false
set_option linter.unusedSectionVars false
set_option linter.unusedSimpArgs false
set_option maxRecDepth 20000
noncomputable section
attribute [local instance] syZ
theorem rsheet_ok {M:Nat} {h:Hp} {sv gv:V} {bk:Bok} {g:Grd} (a:EvC M h sv bk gv g) (own:List Nat) (d:Nk):Ans EE 85 [.agg [sv],.str own,.agg (refC d)] h fun x h'=>x=.int .i64 (zkn bk (ownS own d.s))∧Ext h.n h h':=by
 apply a_r7_sheet
 unfold zjx
 refine zW (cs:=[sv]) (by have:=a.c1s; simp [zh,this.2]) fun h1 b1 w1=>?_
 refine zW (cs:=refC d) rfl fun h2 b2 w2=>?_
 have n1:=w1.n
 have e1:=w1.b
 have n2:=w2.n
 have e2:=w2.b
 have hb1:h2.t.get b1=some (.cells [sv] 26 false):=by rw [w2.old b1 (by omega)]; exact w1.at_
 have X2:Ext h.n h h2:=(w1.ext (Nat.le_refl _)).trans (w2.ext (by omega))
 have a2:=a.ext X2
 have hM:=a2.mM
 rw [zdk,za zL w2.at_ rfl,zbj]
 unfold ownS
 by_cases hs:d.s=[]
 ·rw [if_pos hs,decide_eq_true hs,zc,zd zy hb1 (l:=[sv]) rfl]
  refine (rfind_ok M h2 _ bk own ⟨sv,rfl,a2.sh⟩ hM a.fit).mono ?_
  rintro x h3 ⟨rfl,x3⟩
  exact ⟨rfl,X2.trans (x3.mono X2.n)⟩
 ·rw [if_neg hs,decide_eq_false hs,zb,zd zy hb1 (l:=[sv]) rfl,zdk,za zL w2.at_ rfl]
  refine (rfind_ok M h2 _ bk d.s ⟨sv,rfl,a2.sh⟩ hM a.fit).mono ?_
  rintro x h3 ⟨rfl,x3⟩
  exact ⟨rfl,X2.trans (x3.mono X2.n)⟩
theorem rspan_loop2 {M:Nat} {hA:Hp} {sv gv:V} {bk:Bok} {g:Grd} (a:EvC M hA sv bk gv g) {b4 b7 b29 bA i r hi kb:Nat} {d:Nk} {t:Sht} {rv:V} {cc:Int} {vr:List Vl} (hb4:hA.t.get b4=some (.cells (nkC kb d) 88 false)) (hb4n:b4 < hA.n) (hb29:hA.t.get b29=some (.cells (shtC t rv) 38 false)) (hb29n:b29 < hA.n) (hat:At2 g i r vr) (hhi:hi≤vr.length) (hhid:hi=min (d.c1+1) t.cols) (hsm:vr.length < 1000000) (hrs:r < 1000000) {Q:QQ}:
  ∀ m c (h:Hp) (w:V) (acc:List Vl),hi - c≤m→c < 1000000→SpSt hA bA cc h w acc→acc.length+(zek g i r c hi).length≤1000000→(∀ h' w',SpSt hA bA cc h' w' (acc++zek g i r c hi)→zhz Q gv (.ptr b7 0) (.ptr b4 0) (.int .i64 i) (.ptr b29 0) (.ptr bA 0) (.int .i64 ((r+1:Nat):Int)) h') →
   zj5 Q gv (.ptr b7 0) (.ptr b4 0) (.int .i64 i) (.ptr b29 0) (.ptr bA 0) (.int .i64 r) (.int .i64 c) h:=by
 have fin:∀ c (h:Hp) (w:V) (acc:List Vl),hi≤c→SpSt hA bA cc h w acc→(∀ h' w',SpSt hA bA cc h' w' (acc++zek g i r c hi)→zhz Q gv (.ptr b7 0) (.ptr b4 0) (.int .i64 i) (.ptr b29 0) (.ptr bA 0) (.int .i64 ((r+1:Nat):Int)) h') →
   zj5 Q gv (.ptr b7 0) (.ptr b4 0) (.int .i64 i) (.ptr b29 0) (.ptr bA 0) (.int .i64 r) (.int .i64 c) h:=by
  intro c h w acc hc S hq
  have g4:h.t.get b4=some (.cells (nkC kb d) 88 false):=(S.x.old b4 hb4n).trans hb4
  have g29:h.t.get b29=some (.cells (shtC t rv) 38 false):=(S.x.old b29 hb29n).trans hb29
  have hguard:∀ K:V→Prop,(∀ bb:Bool,bb=decide (c < hi)→K (.bool bb))→(Pu EE).bin .leq 3 false false (.int .i64 (c:Int)) (.int .i64 (d.c1:Int)) fun x4=>(Pu EE).gval x4 true (fun k5=>k5 (.int .i64 (c:Int))) fun x6=>(Pu EE).gval x4 true (fun k7=>(Pu EE).faddr 38 (.ptr b29 0) 1 fun x8=>k7 x8) fun x9=>(Pu EE).gval x4 true (fun k10=>(Pu EE).load h 3 x9 fun x11=>k10 x11) fun x12=>(Pu EE).gval x4 true (fun k13=>(Pu EE).bin .lss 3 false false x6 x12 fun x14=>k13 x14) fun x15=>(Pu EE).pick x4 (some x15) (some (.bool false)) K:=by
   intro K hK
   rw [zhL]
   by_cases q:c≤d.c1
   ·rw [decide_eq_true (by omega)]
    simp only [zu]
    rw [zaI,za zm g29 (v:=.int .i64 (t.cols:Int)) rfl,zak,zB]
    exact hK _ (by rw [decide_eq_decide]; omega)
   ·rw [decide_eq_false (by omega)]
    simp only [zS,zch]
    rw [zo]
    exact hK _ (by rw [decide_eq_false (by omega)])
  apply r_r7_arg_2
  unfold zj2
  rw [zaL,zZ,za zm g4 (v:=.int .i64 (d.c1:Int)) rfl]
  refine hguard _ fun bb hbb=>?_
  rw [hbb,decide_eq_false (by omega),zb,zK _ _ _ _ (by omega)]
  exact hq h w (by rw [cellsS_end hc,List.append_nil]; exact S)
 intro m
 induction m with
 | zero=>
  intro c h w acc hm hcs S hl hq
  exact fin c h w acc (by omega) S hq
 | succ m ih=>
  intro c h w acc hm hcs S hl hq
  by_cases hc:hi≤c
  ·exact fin c h w acc hc S hq
  ·obtain ⟨N,B,sp,G0⟩:=a.gr
   have Sx:=S.x
   have Sn:=S.x.n
   have Sge:=S.ge
   have Slt:=S.lt
   have G:=G0.keep S.x
   obtain ⟨q1,q2,q3,q4,q5,q6,l1,l2,l3,l4,l5,l6,l7,l8,l9,⟨_,_,r1⟩,⟨_,_,r2⟩,⟨_,_,r3⟩,s1,s2⟩:=G.row2 hat
   have g4:h.t.get b4=some (.cells (nkC kb d) 88 false):=(S.x.old b4 hb4n).trans hb4
   have g29:h.t.get b29=some (.cells (shtC t rv) 38 false):=(S.x.old b29 hb29n).trans hb29
   have hguard:∀ K:V→Prop,(∀ bb:Bool,bb=decide (c < hi)→K (.bool bb))→(Pu EE).bin .leq 3 false false (.int .i64 (c:Int)) (.int .i64 (d.c1:Int)) fun x4=>(Pu EE).gval x4 true (fun k5=>k5 (.int .i64 (c:Int))) fun x6=>(Pu EE).gval x4 true (fun k7=>(Pu EE).faddr 38 (.ptr b29 0) 1 fun x8=>k7 x8) fun x9=>(Pu EE).gval x4 true (fun k10=>(Pu EE).load h 3 x9 fun x11=>k10 x11) fun x12=>(Pu EE).gval x4 true (fun k13=>(Pu EE).bin .lss 3 false false x6 x12 fun x14=>k13 x14) fun x15=>(Pu EE).pick x4 (some x15) (some (.bool false)) K:=by
    intro K hK
    rw [zhL]
    by_cases q:c≤d.c1
    ·rw [decide_eq_true (by omega)]
     simp only [zu]
     rw [zaI,za zm g29 (v:=.int .i64 (t.cols:Int)) rfl,zak,zB]
     exact hK _ (by rw [decide_eq_decide]; omega)
    ·rw [decide_eq_false (by omega)]
     simp only [zS,zch]
     rw [zo]
     exact hK _ (by rw [decide_eq_false (by omega)])
   have hx:vr[c]? = some vr[c]:=List.getElem?_eq_getElem (by omega)
   have hg:getG g i r c=vr[c]:=getG_at hat hx
   apply r_r7_arg_2
   unfold zj2
   rw [zaL,zZ,za zm g4 (v:=.int .i64 (d.c1:Int)) rfl]
   refine hguard _ fun bb hbb=>?_
   rw [hbb,decide_eq_true (by omega),zc,zaw,za zN S.box rfl,l1,l2,l3,l4,zcT l5 (by omega),zfc l6 hx]
   rw [zcL zM ze _ rfl (by omega)]
   have hnew:∀ b,b < h.n→(h.new (.cells (valV vr[c]).cells 48 false)).t.get b=h.t.get b:=fun b hb=>by rw [Hp.get_new,if_neg (by omega)]
   rw [zaF (hnew _ l9),zfc l6 hx,zh7,zaF (hnew _ l8),l4,zbt r3,zaF (hnew _ l7),l2,zbt r2,zaF (hnew _ S.lt),za zN S.box rfl,zbt S.own.rd]
   have o1:OwnV (bA+1) (h.new (.cells (valV vr[c]).cells 48 false)) w acc:=S.own.keep (Nat.le_succ _) (fun d hd=>hnew d (S.own.in_ d hd))
   have hl1:acc.length+1≤1048576:=by rw [zeH (by omega),List.length_cons] at hl; omega
   obtain ⟨v',h',p1,p2,p3,p4,p5⟩:=zdj (ts:=#[39,39]) o1 rfl rfl zM noIntV ze (zfx (zfu (h:=h) (e:=48) (ws:=(valV vr[c]).cells) rfl).rd).1 (fun e=>by cases e) rfl hl1 (Nat.le_succ_of_le S.lt)
   rw [p1,zaw]
   have p3n:=p3.n
   have nn:(h.new (.cells (valV vr[c]).cells 48 false)).n=h.n+1:=rfl
   have hbA:h'.t.get bA=some (.cells [.bool true,.int .i64 cc,w] 133 false):=by rw [p3.old bA (by omega),hnew bA S.lt]; exact S.box
   have cw:=p2.rd.c1
   refine zC zN hbA (x:=v') (by rw [cw.1]; rfl) (by rw [cw.1]; simp [zh,cw.2]) (r:=[.bool true,.int .i64 cc,v']) (by rw [cw.1]; rfl) fun h2 w2=>?_
   have n2:=w2.n
   rw [zK _ _ _ _ (by omega)]
   refine ih (c+1) h2 v' (acc++[vr[c]]) (by omega) (by omega) ⟨⟨by omega,fun d hd=>?_⟩,w2.at_,?_,S.ge,by omega⟩ ?_ ?_
   ·rw [w2.other d (by omega),p3.old d (by omega),hnew d (by omega),S.x.old d hd]
   ·have e:vlCs (acc++[vr[c]])=vlCs acc++vlC vr[c]:=by rw [vlCs_app]; simp [vlCs]
    have q:Own (bA+1) h2 v' 48 3 (acc.length+1) (vlCs acc++(valV vr[c]).cells):=p2.keep (by omega) fun d hd=>w2.other d (by have:=p2.ge d hd; omega)
    show Own _ _ _ _ _ (acc++[vr[c]]).length _
    rw [List.length_append,e]
    exact q
   ·rw [zeH (by omega)] at hl
    rw [List.length_append]
    simp only [List.length_cons,List.length_nil] at hl ⊢
    omega
   ·intro h3 w3 S3
    refine hq h3 w3 ?_
    rw [zeH (by omega),hg]
    rw [List.append_assoc] at S3
    exact S3
end
end Go.Proofs.YtbchdlelmkmagaaGreatDoor.VM
namespace Go.Proofs.YtbchdlelmkmagaaGreatDoor.VM
open Go
set_option linter.unusedVariables false
set_option linter.unusedSectionVars false
set_option linter.unusedSimpArgs false
set_option maxRecDepth 20000
noncomputable section
attribute [local instance] syZ
theorem rspan_loop1 {M:Nat} {hA:Hp} {sv gv:V} {bk:Bok} {g:Grd} (a:EvC M hA sv bk gv g) {b4 b7 b29 bA i kb:Nat} {d:Nk} {t:Sht} {rv:V} {cc:Int}
  (hb4:hA.t.get b4=some (.cells (nkC kb d) 88 false)) (hb4n:b4 < hA.n) (hb29:hA.t.get b29=some (.cells (shtC t rv) 38 false)) (hb29n:b29 < hA.n) {us:List V} (hrv:Rd hA 1 rv t.rows.length us) (hrvi:In hA.n rv)
  (hb7n:b7 < hA.n) {zs:List V} (hz:zs.length=3) (hb7:hA.t.get b7=some (.cells zs 133 false)) (ht:bk[i]? = some t) (hco:∀ row ∈ t.rows,row.length=t.cols) (hsm:t.cols < 1000000) (hrm:t.rows.length < 1000000) (hdc:d.c < 1000000) (hdr:d.r1 < 1000000)
  {Q:QQ} {res:List Vl} (hq:∀ h' w',Ext hA.n hA h'∨(∀ c,c < hA.n→c ≠ b7→h'.t.get c=hA.t.get c)→hA.n≤h'.n→RdV h' w' res→In h'.n w'→Q (.agg [.bool true,.int .i64 cc,w']) h'):
  ∀ n r (h:Hp) (w:V) (acc:List Vl),n=min (d.r1+1) t.rows.length - r→r≤1000000→SpSt hA bA cc h w acc→res=acc++rowsS g i d.c (min (d.c1+1) t.cols) n r→res.length≤1000000 →
   zhz Q gv (.ptr b7 0) (.ptr b4 0) (.int .i64 i) (.ptr b29 0) (.ptr bA 0) (.int .i64 (r:Int)) h:=by
 have pre:∀ r (h:Hp) (w:V) (acc:List Vl),SpSt hA bA cc h w acc→((r < min (d.r1+1) t.rows.length→zj5 Q gv (.ptr b7 0) (.ptr b4 0) (.int .i64 i) (.ptr b29 0) (.ptr bA 0) (.int .i64 (r:Int)) (.int .i64 (d.c:Int)) h)∧(¬ r < min (d.r1+1) t.rows.length→acc=res)) →
   zhz Q gv (.ptr b7 0) (.ptr b4 0) (.int .i64 i) (.ptr b29 0) (.ptr bA 0) (.int .i64 (r:Int)) h:=by
  intro r h w acc S hh
  have Sn:=S.x.n
  have Sge:=S.ge
  have g4:h.t.get b4=some (.cells (nkC kb d) 88 false):=(S.x.old b4 hb4n).trans hb4
  have g29:h.t.get b29=some (.cells (shtC t rv) 38 false):=(S.x.old b29 hb29n).trans hb29
  have hrv':=hrv.ext S.x hrvi
  apply r_r7_arg_1
  unfold t_r7_arg_1
  rw [zaL,zaf,za zm g4 (v:=.int .i64 (d.r1:Int)) rfl]
  have hguard:∀ K:V→Prop,(∀ bb:Bool,bb=decide (r < min (d.r1+1) t.rows.length)→K (.bool bb))→(Pu EE).bin .leq 3 false false (.int .i64 (r:Int)) (.int .i64 (d.r1:Int)) fun x4=>(Pu EE).gval x4 true (fun k5=>k5 (.int .i64 (r:Int))) fun x6=>(Pu EE).gval x4 true (fun k7=>(Pu EE).faddr 38 (.ptr b29 0) 2 fun x8=>k7 x8) fun x9=>(Pu EE).gval x4 true (fun k10=>(Pu EE).load h 36 x9 fun x11=>k10 x11) fun x12=>(Pu EE).gval x4 true (fun k13=>(Pu EE).lbui h #[36] .len [x12] fun x14=>k13 x14) fun x15=>(Pu EE).gval x4 true (fun k16=>(Pu EE).bin .lss 3 false false x6 x15 fun x17=>k16 x17) fun x18=>(Pu EE).pick x4 (some x18) (some (.bool false)) K:=by
   intro K hK
   rw [zhL]
   by_cases q:r≤d.r1
   ·rw [decide_eq_true (by omega)]
    simp only [zu]
    rw [zG,za zD g29 (v:=rv) rfl,zp hrv' zn,zak,zB]
    exact hK _ (by rw [decide_eq_decide]; omega)
   ·rw [decide_eq_false (by omega)]
    simp only [zS,zch]
    rw [zo]
    exact hK _ (by rw [decide_eq_false (by omega)])
  refine hguard _ fun bb hbb=>?_
  rw [hbb,zi]
  refine ⟨fun hc=>?_,fun hc=>?_⟩
  ·rw [zA,zZ,za zm g4 (v:=.int .i64 (d.c:Int)) rfl]
   exact hh.1 hc
  ·have:acc=res:=hh.2 hc
   subst this
   have cw:=S.own.rd.c1
   rw [zd zau S.box (l:=[.bool true,.int .i64 cc,w]) rfl]
   refine zC zau ((S.x.old b7 hb7n).trans hb7) (x:=.agg [.bool true,.int .i64 cc,w]) rfl (by show zh [.bool true,.int .i64 cc,w]=true; simpa [zh,V.isCell] using cw.2) (r:=[.bool true,.int .i64 cc,w]) (spl_full _ _ hz) fun h2 w2=>?_
   rw [zd zau w2.at_ (l:=[.bool true,.int .i64 cc,w]) rfl]
   have hwin:∀ b,zI w=some b→bA+1≤b∧b < h.n:=fun b hb=>⟨S.own.ge b hb,S.own.in_ b hb⟩
   refine hq h2 w (.inr fun c h1 h2'=>by rw [w2.other c h2',S.x.old c h1]) (by rw [w2.n]; omega) (S.own.rd.same fun c hc=>w2.other c (by have:=hwin c hc; omega)) fun b hb=>by rw [w2.n]; exact (hwin b hb).2
 intro n
 induction n with
 | zero=>
  intro r h w acc hn hr S hres hlen
  refine pre r h w acc S ⟨fun hc=>by omega,fun _=>?_⟩
  rw [hres]; simp [rowsS]
 | succ n ih=>
  intro r h w acc hn hr S hres hlen
  refine pre r h w acc S ⟨fun hc=>?_,fun hc=>by omega⟩
  obtain ⟨rows,k1,k2,k3⟩:=a.agree i t ht
  have hrow:t.rows[r]? = some t.rows[r]:=List.getElem?_eq_getElem (by omega)
  obtain ⟨vr,k4,k5⟩:=k3 r _ hrow
  have hvc:vr.length=t.cols:=by rw [k5]; exact hco _ (List.getElem_mem _)
  have hres':res=acc++(zek g i r d.c (min (d.c1+1) t.cols)++rowsS g i d.c (min (d.c1+1) t.cols) n (r+1)):=hres
  have hle:acc.length+(zek g i r d.c (min (d.c1+1) t.cols)).length≤1000000:=by
   rw [hres',List.length_append,List.length_append] at hlen
   omega
  refine rspan_loop2 a hb4 hb4n hb29 hb29n ⟨rows,k1,k4⟩ (by omega) rfl (by omega) (by omega) (min (d.c1+1) t.cols - d.c) d.c h w acc (by omega) hdc S hle fun h' w' S'=>?_
  exact ih (r+1) h' w' _ (by omega) (by omega) S' (by rw [hres',List.append_assoc]) hlen
end
end Go.Proofs.YtbchdlelmkmagaaGreatDoor.VM
namespace Go.Proofs.YtbchdlelmkmagaaGreatDoor.VM
open Go
set_option linter.unusedVariables false
set_option linter.unusedSectionVars false
set_option linter.unusedSimpArgs false
set_option maxRecDepth 20000
noncomputable section
attribute [local instance] syZ
theorem rarg_span {M k:Nat} {ns:List Nk} {h:Hp} {sv gv:V} {bk:Bok} {g:Grd} (cx:NCx M k ns sv gv bk g h) (own:List Nat) {at_:Nat} {d:Nk} (hd:ns[at_]? = some d) (hk6:d.k=6) (hco:zbQ bk) (hdc:d.c < 1000∧d.r < 1000∧d.c1 < 1000∧d.r1 < 1000) (hlen:(zb2 bk g own d).length≤1000000) (z:Int) (hz:z=(at_:Int)):
  Ans EE 86 [lvK k ns,.int .i64 z,.str own,.agg [sv],gv] h fun x h'=>SpanPost h (zb2 bk g own d) (zcm bk (ownS own d.s) 0).isSome x h':=by
 subst hz
 apply a_r7_arg
 unfold zka
 refine zW (cs:=[sv]) (by have:=cx.ev.c1s; simp [zh,this.2]) fun h1 b1 w1=>?_
 refine zq zau fun hB b3 w3=>?_
 have n1:=w1.n
 have e1:=w1.b
 have nB:=w3.n
 have e3:=w3.b
 have XB:Ext h.n h hB:=(w1.ext (Nat.le_refl _)).trans (w3.ext (by omega))
 have cxB:=cx.ext XB
 obtain ⟨kb,b0,o0,vs0,f0,ro0,m1,m2,m3,m4,m5,m6,m7⟩:=zie cxB.nd hd
 rw [m1,m2]
 refine sbox zbh (nkC kb d) rfl (zbH kb d) fun h3 b2 w2=>?_
 have n3:=w2.n
 have e2:=w2.b
 have hb1:h3.t.get b1=some (.cells [sv] 26 false):=by rw [w2.old b1 (by omega),w3.old b1 (by omega)]; exact w1.at_
 have hb2:h3.t.get b2=some (.cells (nkC kb d) 88 false):=w2.at_
 have X3:Ext h.n h h3:=XB.trans (w2.ext (by omega))
 have a:=cx.ev
 rw [zE,za zm hb2 (v:=.int .i64 (d.k:Int)) rfl,neqK d.k 6 6 rfl,decide_eq_true hk6,Bool.not_true,zb,zd zy hb1 (l:=[sv]) rfl,zA,zd zck hb2 (l:=refC d) rfl]
 refine (rsheet_ok (a.ext X3) own d).mono ?_
 rintro x h4 ⟨rfl,x4⟩
 have n4:=x4.n
 have X4:Ext h.n h h4:=X3.trans (x4.mono (by omega))
 have a4:=a.ext X4
 have hb1':h4.t.get b1=some (.cells [sv] 26 false):=by rw [x4.old b1 (by omega)]; exact hb1
 have hb2':h4.t.get b2=some (.cells (nkC kb d) 88 false):=by rw [x4.old b2 (by omega)]; exact hb2
 have hb3:h4.t.get b3=some (.cells [.bool false,.int .i64 0,.nils] 133 false):=by rw [x4.old b3 (by omega),w2.old b3 (by omega)]; exact w3.at_
 unfold zkn
 cases hf:zcm bk (ownS own d.s) 0 with
 | none=>
  simp only
  rw [zak,decide_eq_true (by decide),zc]
  refine (ziT 4 4 rfl h4).mono ?_
  rintro z h5 ⟨rfl,x5⟩
  have n5:=x5.n
  rw [zcL zM ze _ rfl (by omega),zaD zfP _ (fun p hp=>by
   simp only [List.mem_cons,List.not_mem_nil,or_false] at hp
   rcases hp with rfl; exact ⟨rfl,rfl⟩) rfl]
  have hnew:∀ b,b < h5.n→(h5.new (.cells (valV (vlE 4)).cells 48 false)).t.get b=h5.t.get b:=fun b hb=>by rw [Hp.get_new,if_neg (by omega)]
  refine zC zau (by rw [hnew b3 (by omega),x5.old b3 (by omega)]; exact hb3) (x:=.agg [.bool false,.int .i64 0,.sl h5.n 0 1 1]) rfl rfl (r:=[.bool false,.int .i64 0,.sl h5.n 0 1 1]) rfl fun h6 w6=>?_
  have n6:h6.n=h5.n+1:=w6.n
  rw [zd zau w6.at_ (l:=[.bool false,.int .i64 0,.sl h5.n 0 1 1]) rfl]
  have hs:zb2 bk g own d=[vlE 4]:=by unfold zb2; rw [hf]
  refine ⟨0,_,rfl,?_,fun b hb=>by cases hb; omega,by omega,fun c hc=>?_⟩
  ·rw [hs]
   have:=(zfu (h:=h5) (e:=48) (ws:=vlC (vlE 4)) (sz:=3) rfl).rd
   have e:vlCs [vlE 4]=vlC (vlE 4):=by simp [vlCs]
   show Rd h6 3 _ 1 (vlCs [vlE 4])
   rw [e]
   exact this.same fun c hc=>by cases hc; exact w6.other _ (by omega)
  ·rw [w6.other c (by omega),hnew c (by omega),x5.old c (by omega),X4.old c hc]
 | some i=>
  obtain ⟨_,t,ht,hnm,hfr⟩:=zbY hf
  rw [Nat.sub_zero] at ht
  simp only
  obtain ⟨hco1,hco2,hco3⟩:=hco t (List.mem_of_getElem? ht)
  obtain ⟨cs,hrd⟩:=a4.sh.rd
  obtain ⟨b4,o4,rv,g1,g2,g3,vs,f,ro,g4,g5⟩:=zbu a4.sh zl zH ht
  obtain ⟨us,hu⟩:=g3.rd
  have hui:In h4.n rv:=by obtain ⟨_,_,q,_⟩:=g3; exact q.mono a4.mM
  rw [zak,decide_eq_false (by omega),zb,zw,za zk hb1' rfl,g1,g2]
  refine sbox zH _ rfl (by have:=hu.c1.2; simpa [shtC,zh,V.isCell] using this) fun h5 b5 w5=>?_
  have n5:=w5.n
  have e5:=w5.b
  have X5:Ext h.n h h5:=X4.trans (w5.ext (by omega))
  have hb2'':h5.t.get b2=some (.cells (nkC kb d) 88 false):=by rw [w5.old b2 (by omega)]; exact hb2'
  have hb3':h5.t.get b3=some (.cells [.bool false,.int .i64 0,.nils] 133 false):=by rw [w5.old b3 (by omega)]; exact hb3
  rw [zaL,zZ,za zm hb2'' (v:=.int .i64 (d.c1:Int)) rfl,zaI,za zm w5.at_ (v:=.int .i64 (t.cols:Int)) rfl,zdf,wZ _ (by omega),pu_min,zA,zZ,za zm hb2'' (v:=.int .i64 (d.c:Int)) rfl,zdf,wZ _ (by split <;> omega),pu_add,wZ _ (by split <;> omega)]
  rw [pu_max,zaD zfP _ (fun p hp=>by
   simp only [List.mem_cons,List.not_mem_nil,or_false] at hp
   rcases hp with rfl | rfl
   ·exact c1_bool _
   ·exact zcU _ _) rfl]
  generalize hcc:(if (0:Int) < _ then _ else _:Int)=cc
  refine sbox zau [.bool true,.int .i64 cc,.nils] rfl rfl fun h6 b6 w6=>?_
  have n6:=w6.n
  have e6:=w6.b
  have hb2c:h6.t.get b2=some (.cells (nkC kb d) 88 false):=by rw [w6.old b2 (by omega)]; exact hb2''
  rw [zA,zaf,za zm hb2c (v:=.int .i64 (d.r:Int)) rfl]
  have hs:zb2 bk g own d=rowsS g i d.c (min (d.c1+1) t.cols) (min (d.r1+1) t.rows.length - d.r) d.r:=by unfold zb2; rw [hf]; simp only; rw [ht]
  refine rspan_loop1 (a4.ext (w5.ext (Nat.le_refl _))) (b4:=b2) (b7:=b3) (b29:=b5) (bA:=b6) (kb:=kb) (d:=d) (t:=t) (rv:=rv) (cc:=cc) hb2'' (by omega) w5.at_ (by omega) (hu.ext (w5.ext (Nat.le_refl _)) hui) (hui.mono (by omega)) (by omega) rfl hb3' ht hco1 hco2 hco3 (by omega) (by omega) (res:=zb2 bk g own d) (fun h7 w7 hx hn hr hi=>⟨cc,w7,rfl,hr,hi,by omega,fun c hc=>?_⟩) _ d.r h6 .nils [] rfl (by omega) ⟨w6.ext (Nat.le_refl _),w6.at_,Own.nil _ _ _ _,by omega,by omega⟩ (by rw [hs]; rfl) hlen
  have:=X5.old c hc
  rcases hx with hx | hx
  ·rw [hx.old c (by omega),this]
  ·rw [hx c (by omega) (by omega),this]
end
end Go.Proofs.YtbchdlelmkmagaaGreatDoor.VM
namespace Go.Proofs.YtbchdlelmkmagaaGreatDoor.VM
open Go
set_option linter.unusedVariables false
set_option linter.unusedSectionVars false
set_option linter.unusedSimpArgs false
set_option maxRecDepth 20000
noncomputable section
attribute [local instance] syZ
def zjC (M k:Nat) (ns:List Nk) (sv gv:V) (bk:Bok) (g:Grd) (own:List Nat) (i:Nat) (v:Vl):Prop:=
 MayV v∧∀ h,NCx M k ns sv gv bk g h→∀ z:Int,z=(i:Int)→Ans EE 54 [lvK k ns,.int .i64 z,.str own,.agg [sv],gv] h fun x h'=>x=valV v∧Ext h.n h h'
theorem rarg_val {M k:Nat} {ns:List Nk} {h:Hp} {sv gv:V} {bk:Bok} {g:Grd} (cx:NCx M k ns sv gv bk g h) (own:List Nat) {at_:Nat} {d:Nk} {v:Vl} (hd:ns[at_]? = some d) (hk6:d.k ≠ 6) (hv:zjC M k ns sv gv bk g own at_ v) (z:Int) (hz:z=(at_:Int)):
  Ans EE 86 [lvK k ns,.int .i64 z,.str own,.agg [sv],gv] h fun x h'=>∃ w,x=.agg [.bool false,.int .i64 0,w]∧RdV h' w [v]∧In h'.n w∧(∀ b,zI w=some b→h.n≤b)∧Ext h.n h h':=by
 subst hz
 apply a_r7_arg
 unfold zka
 refine zW (cs:=[sv]) (by have:=cx.ev.c1s; simp [zh,this.2]) fun h1 b1 w1=>?_
 refine zq zau fun hB b3 w3=>?_
 have n1:=w1.n
 have e1:=w1.b
 have nB:=w3.n
 have e3:=w3.b
 have XB:Ext h.n h hB:=(w1.ext (Nat.le_refl _)).trans (w3.ext (by omega))
 have cxB:=cx.ext XB
 obtain ⟨kb,b0,o0,vs0,f0,ro0,m1,m2,m3,m4,m5,m6,m7⟩:=zie cxB.nd hd
 rw [m1,m2]
 refine sbox zbh (nkC kb d) rfl (zbH kb d) fun h3 b2 w2=>?_
 have n3:=w2.n
 have e2:=w2.b
 have hb1:h3.t.get b1=some (.cells [sv] 26 false):=by rw [w2.old b1 (by omega),w3.old b1 (by omega)]; exact w1.at_
 have X3:Ext h.n h h3:=XB.trans (w2.ext (by omega))
 rw [zE,za zm w2.at_ (v:=.int .i64 (d.k:Int)) rfl,neqK d.k 6 6 rfl,decide_eq_false hk6,Bool.not_false,zc,zd zy hb1 (l:=[sv]) rfl]
 refine (hv.2 h3 (cx.ext X3) _ rfl).mono ?_
 rintro y h5 ⟨rfl,x5⟩
 have n5:=x5.n
 rw [zcL zM ze _ rfl (by omega),zaD zfP _ (fun p hp=>by
  simp only [List.mem_cons,List.not_mem_nil,or_false] at hp
  rcases hp with rfl; exact ⟨rfl,rfl⟩) rfl]
 have hnew:∀ b,b < h5.n→(h5.new (.cells (valV v).cells 48 false)).t.get b=h5.t.get b:=fun b hb=>by rw [Hp.get_new,if_neg (by omega)]
 refine zC zau (by rw [hnew b3 (by omega),x5.old b3 (by omega),w2.old b3 (by omega)]; exact w3.at_) (x:=.agg [.bool false,.int .i64 0,.sl h5.n 0 1 1]) rfl rfl (r:=[.bool false,.int .i64 0,.sl h5.n 0 1 1]) rfl fun h6 w6=>?_
 have n6:h6.n=h5.n+1:=w6.n
 rw [zd zau w6.at_ (l:=[.bool false,.int .i64 0,.sl h5.n 0 1 1]) rfl]
 refine ⟨_,rfl,?_,fun b hb=>by cases hb; omega,fun b hb=>by cases hb; omega,by omega,fun c hc=>?_⟩
 ·have:=(zfu (h:=h5) (e:=48) (ws:=vlC v) (sz:=3) rfl).rd
  have e:vlCs [v]=vlC v:=by simp [vlCs]
  show Rd h6 3 _ 1 (vlCs [v])
  rw [e]
  exact this.same fun c hc=>by cases hc; exact w6.other _ (by omega)
 ·rw [w6.other c (by omega),hnew c (by omega),x5.old c (by omega),X3.old c hc]
end
end Go.Proofs.YtbchdlelmkmagaaGreatDoor.VM
namespace Go.Proofs.YtbchdlelmkmagaaGreatDoor.VM
open Go
set_option linter.unusedVariables false
set_option linter.unusedSectionVars false
set_option linter.unusedSimpArgs false
set_option maxRecDepth 20000
noncomputable section
attribute [local instance] syZ
theorem reval_leaf {M k:Nat} {ns:List Nk} {h:Hp} {sv gv:V} {bk:Bok} {g:Grd} (cx:NCx M k ns sv gv bk g h) (own:List Nat) {i:Nat} {d:Nk} (hd:ns[i]? = some d) (hk:d.k=1∨d.k=2) (z:Int) (hz:z=(i:Int)):
  Ans EE 54 [lvK k ns,.int .i64 z,.str own,.agg [sv],gv] h fun x h'=>x=valV (if d.k=1 then vlN d.n else vlT d.t)∧Ext h.n h h':=by
 subst hz
 apply a_r7_eval
 unfold zeB
 refine zW (cs:=[sv]) (by have:=cx.ev.c1s; simp [zh,this.2]) fun h1 b1 w1=>?_
 refine zq ze fun hB b3 w3=>?_
 have n1:=w1.n
 have e1:=w1.b
 have nB:=w3.n
 have e3:=w3.b
 have XB:Ext h.n h hB:=(w1.ext (Nat.le_refl _)).trans (w3.ext (by omega))
 have cxB:=cx.ext XB
 obtain ⟨kb,b0,o0,vs0,f0,ro0,m1,m2,m3,m4,m5,m6,m7⟩:=zie cxB.nd hd
 rw [m1,m2]
 refine sbox zbh (nkC kb d) rfl (zbH kb d) fun h3 b2 w2=>?_
 have n3:=w2.n
 have e2:=w2.b
 have X3:Ext h.n h h3:=XB.trans (w2.ext (by omega))
 have fin:∀ (h':Hp) (v:Vl),Ext h3.n h3 h'→(Pu EE).store h' 48 (.ptr b3 0) (valV v) fun h58=>(Pu EE).load h58 48 (.ptr b3 0) fun x59=>x59=valV v∧Ext h.n h h58:=by
  intro h' v x'
  have n':=x'.n
  refine retV (by rw [x'.old b3 (by omega),w2.old b3 (by omega)]; exact w3.at_) rfl _ fun h2 w=>⟨rfl,by have:=w.n; omega,fun c hc=>?_⟩
  rw [w.other c (by omega),x'.old c (by omega),X3.old c hc]
 rw [zE,za zm w2.at_ (v:=.int .i64 (d.k:Int)) rfl,eqlK d.k 1 1 rfl]
 rcases hk with hk | hk
 ·rw [decide_eq_true hk,zc,fa_api_Node_1,za zm w2.at_ (v:=.int .i64 d.n) rfl,if_pos hk]
  refine (rnum_ok d.n h3).mono ?_
  rintro z h4 ⟨rfl,x4⟩
  exact fin h4 _ x4
 ·obtain ⟨ii,hi1,hi2⟩:=zhD
  rw [decide_eq_false (by omega),zb,eqlK d.k 2 2 rfl,decide_eq_true hk,zc,zdM,za zL w2.at_ (v:=.str d.t) rfl,if_neg (by omega),pu_slen _ ii h3 hi1 hi2,show (200:Int)=((200:Nat):Int) from rfl,gtrN,zi]
  unfold vlT
  refine ⟨fun hl=>?_,fun hl=>?_⟩
  ·rw [if_neg (by omega)]
   refine (ziT 1 1 rfl h3).mono ?_
   rintro z h4 ⟨rfl,x4⟩
   exact fin h4 _ x4
  ·rw [if_pos (by omega),zdM,za zL w2.at_ (v:=.str d.t) rfl,zaD za2 _ (fun p hp=>by
    simp only [List.mem_cons,List.not_mem_nil,or_false] at hp
    rcases hp with rfl | rfl
    ·exact zcU _ _
    ·exact c1_str _) rfl]
   exact fin h3 ⟨2,0,d.t⟩ (Ext.refl _ _)
end
end Go.Proofs.YtbchdlelmkmagaaGreatDoor.VM
namespace Go.Proofs.YtbchdlelmkmagaaGreatDoor.VM
open Go
set_option linter.unusedVariables false
set_option linter.unusedSectionVars false
set_option linter.unusedSimpArgs false
set_option maxRecDepth 20000
noncomputable section
attribute [local instance] syZ
theorem same_book {h:Hp} {sz len:Nat} {v:V} {cs:List V} (r:Rd h sz v len cs) (q:Prop):(Pu EE).same (.agg [v]) (.agg [v]) q↔q:=by
 show (zd9 _ _=true∧q)↔q
 have:zd9 (.agg [v]) (.agg [v])=true:=by
  show zkl [v] [v]=true
  simp [zkl,rd_s1 r]
 simp [this]
theorem reval_two {M k:Nat} {ns:List Nk} {h:Hp} {sv gv:V} {bk:Bok} {g:Grd} (cx:NCx M k ns sv gv bk g h) (own:List Nat) {i:Nat} {d:Nk} {i1 i2:Nat} {v1 v2:Vl} (hd:ns[i]? = some d) (hk8:8 < d.k) (hk:d.kids=[i1,i2]) (h1:zjC M k ns sv gv bk g own i1 v1) (h2:zjC M k ns sv gv bk g own i2 v2) (hop:TwoOK d.k v1 v2) (z:Int) (hz:z=(i:Int)):
  Ans EE 54 [lvK k ns,.int .i64 z,.str own,.agg [sv],gv] h fun x h'=>x=valV (twoS d.k v1 v2)∧Ext h.n h h':=by
 subst hz
 apply a_r7_eval
 unfold zeB
 refine zW (cs:=[sv]) (by have:=cx.ev.c1s; simp [zh,this.2]) fun hA b1 w1=>?_
 refine zq ze fun hB b3 w3=>?_
 have n1:=w1.n
 have e1:=w1.b
 have nB:=w3.n
 have e3:=w3.b
 have XB:Ext h.n h hB:=(w1.ext (Nat.le_refl _)).trans (w3.ext (by omega))
 have cxB:=cx.ext XB
 obtain ⟨kb,b0,o0,vs0,f0,ro0,m1,m2,m3,m4,m5,m6,m7⟩:=zie cxB.nd hd
 rw [m1,m2]
 refine sbox zbh (nkC kb d) rfl (zbH kb d) fun h3 b2 w2=>?_
 have n3:=w2.n
 have e2:=w2.b
 have X3:Ext h.n h h3:=XB.trans (w2.ext (by omega))
 have hb1:h3.t.get b1=some (.cells [sv] 26 false):=by rw [w2.old b1 (by omega),w3.old b1 (by omega)]; exact w1.at_
 have hr3:=m5.ext (w2.ext (Nat.le_refl _)) m6
 have hi3:In h3.n (kidV kb d):=m6.mono (by omega)
 have k0:d.kids[0]? = some i1:=by rw [hk]; rfl
 have k1:d.kids[1]? = some i2:=by rw [hk]; rfl
 obtain ⟨c,o,g1,g2,g3⟩:=zja hr3 k0
 have g1':=g1 .i64
 rw [show ((0:Nat):Int)=0 from rfl] at g1'
 obtain ⟨c',o',g4,g5,g6⟩:=zja hr3 k1
 have g4':=g4 .i64
 rw [show ((1:Nat):Int)=1 from rfl] at g4'
 have hc':c' < h3.n:=hi3 c' g6
 rw [zE,za zm w2.at_ (v:=.int .i64 (d.k:Int)) rfl,eqlK d.k 1 1 rfl,decide_eq_false (by omega),zb,eqlK d.k 2 2 rfl,decide_eq_false (by omega),zb,eqlK d.k 3 3 rfl,decide_eq_false (by omega),zb,eqlK d.k 4 4 rfl,decide_eq_false (by omega),zb,eqlK d.k 5 5 rfl,decide_eq_false (by omega),zb,eqlK d.k 6 6 rfl,decide_eq_false (by omega),zb,eqlK d.k 7 7 rfl,decide_eq_false (by omega),zb,eqlK d.k 8 8 rfl,decide_eq_false (by omega),zb]
 rw [zE,za zm w2.at_ (v:=.int .i64 (d.k:Int)) rfl,zbb,za zc2 w2.at_ (v:=kidV kb d) rfl,g1',g2,zd zy hb1 (l:=[sv]) rfl,zbb,za zc2 w2.at_ (v:=kidV kb d) rfl,g4',g5,zd zy hb1 (l:=[sv]) rfl]
 refine (h1.2 h3 (cx.ext X3) _ rfl).mono ?_
 rintro x h4 ⟨rfl,x4⟩
 have n4:=x4.n
 have X4:Ext h.n h h4:=X3.trans (x4.mono (by omega))
 have hb1c:h4.t.get b1=some (.cells [sv] 26 false):=by rw [x4.old b1 (by omega)]; exact hb1
 have hb2c:h4.t.get b2=some (.cells (nkC kb d) 88 false):=by rw [x4.old b2 (by omega)]; exact w2.at_
 obtain ⟨cs,hsr⟩:=cx.ev.sh.rd
 rw [zd zy hb1c (l:=[sv]) rfl,same_book hsr,zaF (x4.old c' hc'),g5,zab,za zc2 hb2c (v:=kidV kb d) rfl,zbt hr3,za zm hb2c (v:=.int .i64 (d.k:Int)) rfl,zab]
 refine (h2.2 h4 (cx.ext X4) _ rfl).mono ?_
 rintro x h5 ⟨rfl,x5⟩
 have n5:=x5.n
 have X5:Ext h.n h h5:=X4.trans (x5.mono (by omega))
 have hb2d:h5.t.get b2=some (.cells (nkC kb d) 88 false):=by rw [x5.old b2 (by omega)]; exact hb2c
 rw [za zm hb2d (v:=.int .i64 (d.k:Int)) rfl,zab]
 refine (rtwo_ok d.k v1 v2 h1.1 h2.1 hop h5).mono ?_
 rintro x h6 ⟨rfl,x6⟩
 have n6:=x6.n
 refine retV (by rw [x6.old b3 (by omega),x5.old b3 (by omega),x4.old b3 (by omega),w2.old b3 (by omega)]; exact w3.at_) rfl _ fun h7 w7=>⟨rfl,by have:=w7.n; omega,fun c hc=>?_⟩
 rw [w7.other c (by omega),x6.old c (by omega),X5.old c hc]
end
end Go.Proofs.YtbchdlelmkmagaaGreatDoor.VM
namespace Go.Proofs.YtbchdlelmkmagaaGreatDoor.VM
open Go
set_option linter.unusedVariables false
set_option linter.unusedSectionVars false
set_option linter.unusedSimpArgs false
set_option maxRecDepth 20000
noncomputable section
attribute [local instance] syZ
theorem reval_ref {M k:Nat} {ns:List Nk} {h:Hp} {sv gv:V} {bk:Bok} {g:Grd} (cx:NCx M k ns sv gv bk g h) (own:List Nat) (hco:zbQ bk) {i:Nat} {d:Nk} (hd:ns[i]? = some d) (hk:d.k=5) (z:Int) (hz:z=(i:Int)):
  Ans EE 54 [lvK k ns,.int .i64 z,.str own,.agg [sv],gv] h fun x h'=>x=valV (refS bk g own d)∧Ext h.n h h':=by
 subst hz
 apply a_r7_eval
 unfold zeB
 refine zW (cs:=[sv]) (by have:=cx.ev.c1s; simp [zh,this.2]) fun hA b1 w1=>?_
 refine zq ze fun hB b3 w3=>?_
 have n1:=w1.n
 have e1:=w1.b
 have nB:=w3.n
 have e3:=w3.b
 have XB:Ext h.n h hB:=(w1.ext (Nat.le_refl _)).trans (w3.ext (by omega))
 have cxB:=cx.ext XB
 obtain ⟨kb,b0,o0,vs0,f0,ro0,m1,m2,m3,m4,m5,m6,m7⟩:=zie cxB.nd hd
 rw [m1,m2]
 refine sbox zbh (nkC kb d) rfl (zbH kb d) fun h3 b2 w2=>?_
 have n3:=w2.n
 have e2:=w2.b
 have X3:Ext h.n h h3:=XB.trans (w2.ext (by omega))
 have hb1:h3.t.get b1=some (.cells [sv] 26 false):=by rw [w2.old b1 (by omega),w3.old b1 (by omega)]; exact w1.at_
 have a:=cx.ev
 have hb2:=w2.at_
 rw [zE,za zm hb2 (v:=.int .i64 (d.k:Int)) rfl,eqlK d.k 1 1 rfl,decide_eq_false (by omega),zb,eqlK d.k 2 2 rfl,decide_eq_false (by omega),zb,eqlK d.k 3 3 rfl,decide_eq_false (by omega),zb,eqlK d.k 4 4 rfl,decide_eq_false (by omega),zb,eqlK d.k 5 5 rfl,decide_eq_true hk,zc,zd zy hb1 (l:=[sv]) rfl,zA,zd zck hb2 (l:=refC d) rfl]
 refine (rsheet_ok (a.ext X3) own d).mono ?_
 rintro x h4 ⟨rfl,x4⟩
 have n4:=x4.n
 have X4:Ext h.n h h4:=X3.trans (x4.mono (by omega))
 have a4:=a.ext X4
 have hb1':h4.t.get b1=some (.cells [sv] 26 false):=by rw [x4.old b1 (by omega)]; exact hb1
 have hb2':h4.t.get b2=some (.cells (nkC kb d) 88 false):=by rw [x4.old b2 (by omega)]; exact hb2
 have hb3:h4.t.get b3=some (.cells [.int .i64 0,.int .i64 0,.str []] 48 false):=by rw [x4.old b3 (by omega),w2.old b3 (by omega)]; exact w3.at_
 have fin:∀ (h':Hp) (v:Vl),v=refS bk g own d→Ext h4.n h4 h'→(Pu EE).store h' 48 (.ptr b3 0) (valV v) fun h58=>(Pu EE).load h58 48 (.ptr b3 0) fun x59=>x59=valV (refS bk g own d)∧Ext h.n h h58:=by
  intro h' v e x'
  subst e
  have n':=x'.n
  refine retV ((x'.old b3 (by omega)).trans hb3) rfl _ fun h2 w=>⟨rfl,by have:=w.n; omega,fun c hc=>?_⟩
  rw [w.other c (by omega),x'.old c (by omega),X4.old c hc]
 have bld:∀ q:V→Prop,(Pu EE).build 48 [] q↔q (valV vl0):=fun q=>zaD za2 _ (fun p hp=>by cases hp) rfl q
 unfold zkn
 cases hf:zcm bk (ownS own d.s) 0 with
 | none=>
  simp only
  rw [zak,decide_eq_true (by decide),zc]
  refine (ziT 4 4 rfl h4).mono ?_
  rintro z h5 ⟨rfl,x5⟩
  exact fin h5 _ (by unfold refS; rw [hf]) x5
 | some i=>
  obtain ⟨_,t,ht,hnm,hfr⟩:=zbY hf
  rw [Nat.sub_zero] at ht
  simp only
  obtain ⟨cs,hrd⟩:=a4.sh.rd
  obtain ⟨b4,o4,rv,g1,g2,g3,vs,f,ro,g4,g5⟩:=zbu a4.sh zl zH ht
  obtain ⟨us,hu⟩:=g3.rd
  rw [zak,decide_eq_false (by omega),zb,zA,zaf,za zm hb2' rfl,zw,za zk hb1' rfl,g1,zG,za zD g4 (g5 2 _ rfl),zp hu zn]
  show (Pu EE).bin .geq _ _ _ (.int .i64 (d.r:Int)) (.int .i64 (t.rows.length:Int)) _
  rw [geqN]
  by_cases hr:t.rows.length≤d.r
  ·rw [decide_eq_true hr]
   simp only [zaH]
   rw [zB,zc,bld]
   exact fin h4 _ (by unfold refS; rw [hf]; simp only; rw [ht]; simp only; rw [List.getElem?_eq_none hr]) (Ext.refl _ _)
  ·rw [decide_eq_false hr]
   have hrow:t.rows[d.r]? = some t.rows[d.r]:=List.getElem?_eq_getElem (by omega)
   obtain ⟨b7,o7,w7,m1,m2,m3⟩:=zbU g3 zn zaz hrow
   simp only [zu]
   have hcol:t.rows[d.r].length=t.cols:=(hco t (List.mem_of_getElem? ht)).1 _ (List.getElem_mem _)
   rw [zA,zZ,za zm hb2' rfl,zw,za zk hb1' rfl,g1,zaI,za zm g4 (g5 1 (.int .i64 (t.cols:Int)) rfl)]
   show (Pu EE).bin .geq _ _ _ (.int .i64 (d.c:Int)) (.int .i64 (t.cols:Int)) _
   rw [geqN,zo,← hcol]
   have hR:refS bk g own d=if d.c < t.rows[d.r].length then getG g i d.r d.c else vl0:=by
    unfold refS; rw [hf]; simp only; rw [ht]; simp only; rw [hrow]
   by_cases hc:t.rows[d.r].length≤d.c
   ·rw [decide_eq_true hc,zc,bld]
    exact fin h4 _ (by rw [hR,if_neg (by omega)]) (Ext.refl _ _)
   ·rw [decide_eq_false hc,zb]
    obtain ⟨N,B,sp,G⟩:=a4.gr
    obtain ⟨rows,k1,k2,k3⟩:=a.agree i t ht
    obtain ⟨vr,k4,k5⟩:=k3 d.r _ hrow
    obtain ⟨q1,q2,q3,q4,q5,q6,l1,l2,l3,l4,l5,l6⟩:=G.row ⟨rows,k1,k4⟩
    have hx:vr[d.c]? = some vr[d.c]:=List.getElem?_eq_getElem (by omega)
    rw [l1,l2,zA,zaf,za zm hb2' rfl]
    show (Pu EE).iaddr _ q3 (.int .i64 (d.r:Int)) _
    rw [l3,l4,zA,zZ,za zm hb2' rfl]
    show (Pu EE).iaddr _ q6 (.int .i64 (d.c:Int)) _
    rw [zcT l5 (by omega),zfc l6 hx]
    exact fin h4 _ (by rw [hR,if_pos (by omega)]; exact (getG_at ⟨rows,k1,k4⟩ hx).symm) (Ext.refl _ _)
end
end Go.Proofs.YtbchdlelmkmagaaGreatDoor.VM
namespace Go.Proofs.YtbchdlelmkmagaaGreatDoor.VM
open Go
set_option linter.unusedVariables false
set_option linter.unusedSectionVars false
set_option linter.unusedSimpArgs false
set_option maxRecDepth 20000
noncomputable section
attribute [local instance] syZ
section
variable {M k:Nat} {ns:List Nk} {sv gv:V} {bk:Bok} {g:Grd} {own:List Nat} {h0:Hp} {b1 b2 b3 kb:Nat} {d:Nk} {Q:QQ}
structure RL (M k:Nat) (ns:List Nk) (sv gv:V) (bk:Bok) (g:Grd) (h0:Hp) (b1 b2 kb:Nat) (d:Nk):Prop where
 cx:NCx M k ns sv gv bk g h0
 hb1:h0.t.get b1=some (.cells [sv] 26 false)
 hb2:h0.t.get b2=some (.cells (nkC kb d) 88 false)
 l1:b1 < h0.n
 l2:b2 < h0.n
 hr:Rd h0 1 (kidV kb d) d.kids.length (zfo d.kids)
 hi:In h0.n (kidV kb d)
theorem rstep_val (C:RL M k ns sv gv bk g h0 b1 b2 kb d) {j a:Nat} {v:Vl} {e:Nk} (ha:d.kids[j]? = some a) (he:ns[a]? = some e) (hk:e.k ≠ 6) (hv:zjC M k ns sv gv bk g own a v) {h:Hp} (x:Ext h0.n h0 h) {u:V} {ds:List AD} (A:AgS h0.n h u ds) (hj:j < 1000) (hd:ds.length < 1000)
  (hq:∀ h' u' w,Ext h0.n h0 h'→AgS h0.n h' u' (ds++[⟨false,0,w,[v]⟩])→zc6 Q (lvK k ns) (.str own) gv (.ptr b1 0) (.ptr b3 0) (.ptr b2 0) u' (.int .i64 ((j+1:Nat):Int)) h'):
  zc6 Q (lvK k ns) (.str own) gv (.ptr b1 0) (.ptr b3 0) (.ptr b2 0) u (.int .i64 (j:Int)) h:=by
 have hjl:=(List.getElem?_eq_some_iff.1 ha).1
 have xn:=x.n
 have hb1:=(x.old b1 C.l1).trans C.hb1
 have hb2:=(x.old b2 C.l2).trans C.hb2
 have cx:=C.cx.ext x
 have hr:=C.hr.ext x C.hi
 apply zkX
 unfold zgr
 rw [zbb,za zc2 hb2 (v:=kidV kb d) rfl,zp hr zbS,zak,decide_eq_true (by omega),zc]
 obtain ⟨c,o,g1,g2,g3⟩:=zja hr ha
 rw [zbb,za zc2 hb2 (v:=kidV kb d) rfl,g1,g2,zd zy hb1 (l:=[sv]) rfl]
 refine (rarg_val cx own he hk hv _ rfl).mono ?_
 rintro y h5 ⟨w,rfl,r5,i5,ge5,x5⟩
 have n5:=x5.n
 have A5:=A.ext x5
 refine zj8 A5 ⟨false,0,w,[v]⟩ r5 i5 (fun b hb hu=>by have:=ge5 b hb; have:=A.own.in_ b hu; omega) (by omega) (by omega) _ fun u' h' A' x'=>?_
 rw [zK _ _ _ _ (by omega)]
 exact hq h' u' _ (x.trans ((x5.mono (by omega)).trans x')) A'
theorem rstep_span (C:RL M k ns sv gv bk g h0 b1 b2 kb d) {j a:Nat} {e:Nk} (ha:d.kids[j]? = some a) (he:ns[a]? = some e) (hk:e.k=6) (hco:zbQ bk) (hdc:e.c < 1000∧e.r < 1000∧e.c1 < 1000∧e.r1 < 1000) (hlen:(zb2 bk g own e).length≤1000000) {h:Hp} (x:Ext h0.n h0 h) {u:V} {ds:List AD} (A:AgS h0.n h u ds) (hj:j < 1000) (hd:ds.length < 1000) (hu:∀ b,zI u ≠ some b)
  (hq:∀ h' u' cc w,Ext h0.n h0 h'→AgS h0.n h' u' (ds++[⟨(zcm bk (ownS own e.s) 0).isSome,cc,w,zb2 bk g own e⟩])→zc6 Q (lvK k ns) (.str own) gv (.ptr b1 0) (.ptr b3 0) (.ptr b2 0) u' (.int .i64 ((j+1:Nat):Int)) h'):
  zc6 Q (lvK k ns) (.str own) gv (.ptr b1 0) (.ptr b3 0) (.ptr b2 0) u (.int .i64 (j:Int)) h:=by
 have hjl:=(List.getElem?_eq_some_iff.1 ha).1
 have xn:=x.n
 have hb1:=(x.old b1 C.l1).trans C.hb1
 have hb2:=(x.old b2 C.l2).trans C.hb2
 have cx:=C.cx.ext x
 have hr:=C.hr.ext x C.hi
 apply zkX
 unfold zgr
 rw [zbb,za zc2 hb2 (v:=kidV kb d) rfl,zp hr zbS,zak,decide_eq_true (by omega),zc]
 obtain ⟨c,o,g1,g2,g3⟩:=zja hr ha
 rw [zbb,za zc2 hb2 (v:=kidV kb d) rfl,g1,g2,zd zy hb1 (l:=[sv]) rfl]
 refine (rarg_span cx own he hk hco hdc hlen _ rfl).mono ?_
 rintro y h5 ⟨cc,w,rfl,r5,i5,x5⟩
 have n5:=x5.n
 have A5:=A.ext x5
 refine zj8 A5 ⟨(zcm bk (ownS own e.s) 0).isSome,cc,w,zb2 bk g own e⟩ r5 i5 (fun b hb=>hu b) (by omega) (by omega) _ fun u' h' A' x'=>?_
 rw [zK _ _ _ _ (by omega)]
 exact hq h' u' _ _ (x.trans ((x5.mono (by omega)).trans x')) A'
theorem rcall_end (C:RL M k ns sv gv bk g h0 b1 b2 kb d) (hb3:h0.t.get b3=some (.cells [.int .i64 0,.int .i64 0,.str []] 48 false)) (l3:b3 < h0.n) {h:Hp} (x:Ext h0.n h0 h) {u:V} {v:Vl} (H:Ans EE 87 [.str d.t,u] h fun y h'=>y=valV v∧Ext h.n h h')
  (hq:∀ h',(∀ c,c < h0.n→c ≠ b3→h'.t.get c=h0.t.get c)→h0.n≤h'.n→Q (valV v) h'):
  zc6 Q (lvK k ns) (.str own) gv (.ptr b1 0) (.ptr b3 0) (.ptr b2 0) u (.int .i64 (d.kids.length:Int)) h:=by
 have xn:=x.n
 have hb2:=(x.old b2 C.l2).trans C.hb2
 apply zkX
 unfold zgr
 rw [zbb,za zc2 hb2 (v:=kidV kb d) rfl,zp (C.hr.ext x C.hi) zbS,zak,decide_eq_false (by omega),zb,zdM,za zL hb2 (v:=.str d.t) rfl]
 refine H.mono ?_
 rintro y h5 ⟨rfl,x5⟩
 have n5:=x5.n
 refine retV (by rw [x5.old b3 (by omega),x.old b3 l3]; exact hb3) rfl _ fun h6 w6=>hq h6 (fun c hc hne=>by rw [w6.other c hne,x5.old c (by omega),x.old c hc]) (by rw [w6.n]; omega)
end
end
end Go.Proofs.YtbchdlelmkmagaaGreatDoor.VM
namespace Go.Proofs.YtbchdlelmkmagaaGreatDoor.VM
open Go
set_option linter.unusedVariables false
set_option linter.unusedSectionVars false
set_option linter.unusedSimpArgs false
set_option maxRecDepth 20000
noncomputable section
attribute [local instance] syZ
theorem rcall_open {M k:Nat} {ns:List Nk} {h:Hp} {sv gv:V} {bk:Bok} {g:Grd} (cx:NCx M k ns sv gv bk g h) (own:List Nat) {i:Nat} {d:Nk} (hd:ns[i]? = some d) (h7:d.k=7) (z:Int) (hz:z=(i:Int)) {Q:QQ}
  (H:∀ h0 b1 b2 b3 kb,RL M k ns sv gv bk g h0 b1 b2 kb d→h0.t.get b3=some (.cells [.int .i64 0,.int .i64 0,.str []] 48 false)→b3 < h0.n→h.n≤b3→Ext h.n h h0→zc6 Q (lvK k ns) (.str own) gv (.ptr b1 0) (.ptr b3 0) (.ptr b2 0) .nils (.int .i64 ((0:Nat):Int)) h0):
  Ans EE 54 [lvK k ns,.int .i64 z,.str own,.agg [sv],gv] h Q:=by
 subst hz
 apply a_r7_eval
 unfold zeB
 refine zW (cs:=[sv]) (by have:=cx.ev.c1s; simp [zh,this.2]) fun hA b1 w1=>?_
 refine zq ze fun hB b3 w3=>?_
 have n1:=w1.n
 have e1:=w1.b
 have nB:=w3.n
 have e3:=w3.b
 have XB:Ext h.n h hB:=(w1.ext (Nat.le_refl _)).trans (w3.ext (by omega))
 have cxB:=cx.ext XB
 obtain ⟨kb,b0,o0,vs0,f0,ro0,m1,m2,m3,m4,m5,m6,m7⟩:=zie cxB.nd hd
 rw [m1,m2]
 refine sbox zbh (nkC kb d) rfl (zbH kb d) fun h3 b2 w2=>?_
 have n3:=w2.n
 have e2:=w2.b
 have X3:Ext h.n h h3:=XB.trans (w2.ext (by omega))
 have hb1:h3.t.get b1=some (.cells [sv] 26 false):=by rw [w2.old b1 (by omega),w3.old b1 (by omega)]; exact w1.at_
 have hr3:=m5.ext (w2.ext (Nat.le_refl _)) m6
 have hi3:In h3.n (kidV kb d):=m6.mono (by omega)
 have hb3:h3.t.get b3=some (.cells [.int .i64 0,.int .i64 0,.str []] 48 false):=by rw [w2.old b3 (by omega)]; exact w3.at_
 rw [zE,za zm w2.at_ (v:=.int .i64 (d.k:Int)) rfl,eqlK d.k 1 1 rfl,decide_eq_false (by omega),zb,eqlK d.k 2 2 rfl,decide_eq_false (by omega),zb,eqlK d.k 3 3 rfl,decide_eq_false (by omega),zb,eqlK d.k 4 4 rfl,decide_eq_false (by omega),zb,eqlK d.k 5 5 rfl,decide_eq_false (by omega),zb,eqlK d.k 6 6 rfl,decide_eq_false (by omega),zb,eqlK d.k 7 7 rfl,decide_eq_true h7,zc]
 exact H h3 b1 b2 b3 kb ⟨cx.ext X3,hb1,w2.at_,by omega,by omega,hr3,hi3⟩ hb3 (by omega) (by omega) X3
theorem rsum_eval {M k:Nat} {ns:List Nk} {sv gv:V} {bk:Bok} {g:Grd} {own:List Nat} {i:Nat} {d e:Nk} {a:Nat} {h:Hp} (cx:NCx M k ns sv gv bk g h) (hd:ns[i]? = some d) (h7:d.k=7) (hk:d.kids=[a]) (ht:d.t=sumK) (he:ns[a]? = some e) (hek:e.k=6) (hco:zbQ bk) (hdc:e.c < 1000∧e.r < 1000∧e.c1 < 1000∧e.r1 < 1000)  (z:Int) (hz:z=(i:Int)):
  Ans EE 54 [lvK k ns,.int .i64 z,.str own,.agg [sv],gv] h fun x h'=>x=valV (sumS (zb2 bk g own e))∧Ext h.n h h':=by
 refine rcall_open cx own hd h7 z hz fun h0 b1 b2 b3 kb C hb3 l3 g3 X0=>?_
 have hl:=span_len bk g own e hdc.2.2.1 hdc.2.2.2
 refine rstep_span C (j:=0) (a:=a) (e:=e) (by rw [hk]; rfl) he hek hco hdc hl (Ext.refl _ _) (u:=.nils) (ds:=[]) ⟨Own.nil _ _ _ _,fun i d hd=>by simp at hd⟩ (by omega) (by simp) (fun b hb=>by cases hb) fun h1 u cc w x1 A=>?_
 have hkl:d.kids.length=1:=by rw [hk]; rfl
 have g:=rcall_sum (d:=⟨(zcm bk (ownS own e.s) 0).isSome,cc,w,zb2 bk g own e⟩) A.g (by
  cases hf:zcm bk (ownS own e.s) 0 with
  | some i=>exact .inl rfl
  | none=>exact .inr ⟨rfl,vlE 4,by show zb2 bk g own e=_; unfold zb2; rw [hf],rfl⟩) (may_span cx.ev own e) hl
 have hend:=rcall_end (own:=own) C hb3 l3 x1 (u:=u) (v:=sumS (zb2 bk _ own e)) (by rw [ht]; exact g) (Q:=fun x h'=>x=valV (sumS (zb2 bk _ own e))∧Ext h.n h h') fun h' q1 q2=>⟨rfl,by have:=X0.n; omega,fun c hc=>by rw [q1 c (by have:=X0.n; omega) (by omega),X0.old c hc]⟩
 rw [hkl] at hend
 exact hend
theorem rif_eval {M k:Nat} {ns:List Nk} {sv gv:V} {bk:Bok} {g:Grd} {own:List Nat} {i:Nat} {d e1 e2 e3:Nk} {a1 a2 a3:Nat} {v1 v2 v3:Vl} {h:Hp} (cx:NCx M k ns sv gv bk g h) (hd:ns[i]? = some d) (h7:d.k=7) (hk:d.kids=[a1,a2,a3]) (ht:d.t=ifK)
  (he1:ns[a1]? = some e1) (hk1:e1.k ≠ 6) (he2:ns[a2]? = some e2) (hk2:e2.k ≠ 6) (he3:ns[a3]? = some e3) (hk3:e3.k ≠ 6) (h1:zjC M k ns sv gv bk g own a1 v1) (h2:zjC M k ns sv gv bk g own a2 v2) (h3:zjC M k ns sv gv bk g own a3 v3)  (z:Int) (hz:z=(i:Int)):
  Ans EE 54 [lvK k ns,.int .i64 z,.str own,.agg [sv],gv] h fun x h'=>x=valV (ifS v1 v2 v3)∧Ext h.n h h':=by
 refine rcall_open cx own hd h7 z hz fun h0 b1 b2 b3 kb C hb3 l3 g3 X0=>?_
 have hkl:d.kids.length=3:=by rw [hk]; rfl
 refine rstep_val C (j:=0) (a:=a1) (e:=e1) (by rw [hk]; rfl) he1 hk1 h1 (Ext.refl _ _) (u:=.nils) (ds:=[]) ⟨Own.nil _ _ _ _,fun i d hd=>by simp at hd⟩ (by omega) (by simp) fun hA uA wA xA AA=>?_
 refine rstep_val C (j:=1) (a:=a2) (e:=e2) (by rw [hk]; rfl) he2 hk2 h2 xA AA (by omega) (by simp) fun hB uB wB xB AB=>?_
 refine rstep_val C (j:=2) (a:=a3) (e:=e3) (by rw [hk]; rfl) he3 hk3 h3 xB AB (by omega) (by simp) fun hC uC wC xC AC=>?_
 have AN:ArgN hC uC [wA,wB,wC] [v1,v2,v3]:=⟨AC.own.rd,rfl,AC.own.in_,fun i w x hw hx=>by
  match i,hw,hx with
  | 0,hw,hx=>cases hw; cases hx; exact ⟨(AC.at_ 0 _ rfl).1,(AC.at_ 0 _ rfl).2.1⟩
  | 1,hw,hx=>cases hw; cases hx; exact ⟨(AC.at_ 1 _ rfl).1,(AC.at_ 1 _ rfl).2.1⟩
  | 2,hw,hx=>cases hw; cases hx; exact ⟨(AC.at_ 2 _ rfl).1,(AC.at_ 2 _ rfl).2.1⟩⟩
 have hend:=rcall_end (own:=own) C hb3 l3 xC (u:=uC) (v:=ifS v1 v2 v3) (by rw [ht]; exact rcall_if AN) (Q:=fun x h'=>x=valV (ifS v1 v2 v3)∧Ext h.n h h') fun h' q1 q2=>⟨rfl,by have:=X0.n; omega,fun c hc=>by rw [q1 c (by have:=X0.n; omega) (by omega),X0.old c hc]⟩
 rw [hkl] at hend
 exact hend
end
end Go.Proofs.YtbchdlelmkmagaaGreatDoor.VM
namespace Go.Proofs.YtbchdlelmkmagaaGreatDoor.VM
open Go
set_option linter.unusedVariables false
set_option linter.unusedSectionVars false
set_option linter.unusedSimpArgs false
set_option maxRecDepth 20000
noncomputable section
attribute [local instance] syZ
section
variable {M k:Nat} {ns:List Nk} {sv gv:V} {bk:Bok} {g:Grd} {own:List Nat}
theorem rnode_ok (hns:okNs ns=true) (hco:zbQ bk) {hb:Hp} (cx0:NCx M k ns sv gv bk g hb):∀ f i d,i < f→ns[i]? = some d→d.k ≠ 6→zjC M k ns sv gv bk g own i (evN ns bk g own f i):=by
 intro f
 induction f with
 | zero=>intro i d hi; omega
 | succ f ih=>
  intro i d hi hd hk6
  have ok:=okNs_at hns hd
  unfold okNk at ok
  simp only [Bool.and_eq_true,decide_eq_true_eq] at ok
  obtain ⟨⟨⟨⟨⟨⟨oc,or_⟩,oc1⟩,or1⟩,ofit⟩,otx⟩,ok⟩:=ok
  have otx':∀ x ∈ d.t,x < 256:=fun x hx=>by simpa using List.all_eq_true.1 otx x hx
  rw [evN,hd]
  simp only
  by_cases k1:d.k=1
  ·rw [if_pos k1]
   refine ⟨mayN ofit,fun h cx z hz=>?_⟩
   have:=reval_leaf cx own hd (.inl k1) z hz
   rw [if_pos k1] at this
   exact this
  rw [if_neg k1]
  by_cases k2:d.k=2
  ·rw [if_pos k2]
   refine ⟨mayT otx',fun h cx z hz=>?_⟩
   have:=reval_leaf cx own hd (.inr k2) z hz
   rw [if_neg (by omega)] at this
   exact this
  rw [if_neg k2]
  by_cases k5:d.k=5
  ·rw [if_neg (by omega),if_pos k5]
   refine ⟨may_ref cx0.ev own d,fun h cx z hz=>?_⟩
   exact reval_ref cx own hco hd k5 z hz
  rw [if_neg (by omega:¬ (d.k=1∨d.k=2∨d.k=5∨d.k=6))] at ok
  by_cases k7:d.k=7
  ·rw [if_pos k7] at ok
   rw [if_neg (by omega),if_neg k5,if_pos k7]
   cases hkd:d.kids with
   | nil=>rw [hkd] at ok; cases ok
   | cons a r=>
    rw [hkd] at ok
    match r,hkd,ok with
    | [],hkd,ok=>
     simp only [Bool.and_eq_true,decide_eq_true_eq] at ok
     obtain ⟨⟨⟨ot,oa⟩,o6⟩,oal⟩:=ok
     have he:ns[a]? = some ns[a]:=List.getElem?_eq_getElem oal
     have hek:(ns[a]).k=6:=by unfold kAt at o6; rw [he] at o6; exact o6
     have oe:=okNs_at hns he
     unfold okNk at oe
     simp only [Bool.and_eq_true,decide_eq_true_eq] at oe
     obtain ⟨⟨⟨⟨⟨⟨ec,er⟩,ec1⟩,er1⟩,_⟩,_⟩,_⟩:=oe
     simp only
     rw [he]
     refine ⟨may_sum (may_span cx0.ev own _),fun h cx z hz=>?_⟩
     exact rsum_eval cx hd k7 hkd ot he hek hco ⟨ec,er,ec1,er1⟩ z hz
    | [b,c],hkd,ok=>
     simp only [Bool.and_eq_true,decide_eq_true_eq] at ok
     obtain ⟨⟨⟨⟨⟨⟨ot,oa⟩,ob⟩,oc'⟩,o1⟩,o2⟩,o3⟩:=ok
     obtain ⟨x1,hx1,hk1⟩:=zcw o1
     obtain ⟨x2,hx2,hk2⟩:=zcw o2
     obtain ⟨x3,hx3,hk3⟩:=zcw o3
     have v1:=ih a x1 (by omega) hx1 hk1
     have v2:=ih b x2 (by omega) hx2 hk2
     have v3:=ih c x3 (by omega) hx3 hk3
     simp only
     refine ⟨may_if v1.1 v2.1 v3.1,fun h cx z hz=>?_⟩
     exact rif_eval cx hd k7 hkd ot hx1 hk1 hx2 hk2 hx3 hk3 v1 v2 v3 z hz
    | [b],hkd,ok=>cases ok
    | b::c::e::r,hkd,ok=>cases ok
  ·rw [if_neg k7] at ok
   rw [if_neg (by
    intro h4
    rw [h4] at ok
    split at ok
    ·simp at ok
    ·cases ok),if_neg k5,if_neg k7]
   cases hkd:d.kids with
   | nil=>rw [hkd] at ok; cases ok
   | cons a r=>
    rw [hkd] at ok
    match r,hkd,ok with
    | [b],hkd,ok=>
     simp only [Bool.and_eq_true,Bool.or_eq_true,decide_eq_true_eq] at ok
     obtain ⟨⟨⟨⟨oa,ob⟩,o1⟩,o2⟩,oo⟩:=ok
     obtain ⟨x1,hx1,hk1⟩:=zcw o1
     obtain ⟨x2,hx2,hk2⟩:=zcw o2
     have v1:=ih a x1 (by omega) hx1 hk1
     have v2:=ih b x2 (by omega) hx2 hk2
     simp only
     obtain ⟨f',rfl⟩:∃ f',f=f'+1:=⟨f - 1,by omega⟩
     have hop:TwoOK d.k (evN ns bk g own (f'+1) a) (evN ns bk g own (f'+1) b):=by
      rcases oo with (((h | h) | h) | ⟨h,q⟩) | ⟨⟨h,q⟩,q2⟩
      ·exact .inl h
      ·exact .inr (.inl h)
      ·exact .inr (.inr (.inl h))
      ·exact .inr (.inr (.inr (.inl ⟨h,zgH q f'⟩)))
      ·exact .inr (.inr (.inr (.inr ⟨h,zgH q f',q2.imp (fun q=>zgH q f') (fun q=>zgH q f')⟩)))
     have h8:8 < d.k:=by rcases oo with (((h | h) | h) | ⟨h,q⟩) | ⟨⟨h,q⟩,q2⟩ <;> omega
     refine ⟨may_two v1.1 v2.1 hop,fun h cx z hz=>?_⟩
     exact reval_two cx own hd h8 hkd v1 v2 hop z hz
    | [],hkd,ok=>cases ok
    | b::c::r,hkd,ok=>cases ok
end
end
end Go.Proofs.YtbchdlelmkmagaaGreatDoor.VM
namespace Go.Proofs.YtbchdlelmkmagaaGreatDoor.VM
open Go
set_option linter.unusedVariables false
set_option linter.unusedSectionVars false
set_option linter.unusedSimpArgs false
set_option maxRecDepth 20000
noncomputable section
attribute [local instance] syZ
theorem reval_ok {M k:Nat} {ns:List Nk} {sv gv:V} {bk:Bok} {g:Grd} (own:List Nat) (hn:ns ∈ ziA) (hco:zbQ bk) {h:Hp} (cx:NCx M k ns sv gv bk g h):Ans EE 25 [lvK k ns,.str own,.agg [sv],gv] h fun x h'=>x=valV (evS ns bk g own)∧Ext h.n h h':=by
 have hns:okNs ns=true:=List.all_eq_true.1 nodes_okNs ns hn
 have hlen:0 < ns.length∧ns.length < 1000∧kAt ns (ns.length - 1) ≠ 6:=by
  unfold okNs at hns
  simp only [Bool.and_eq_true,decide_eq_true_eq] at hns
  exact ⟨hns.1.1.2,hns.2,hns.1.2⟩
 apply a_r7_Eval
 unfold zkT
 refine zW (cs:=[sv]) (by have:=cx.ev.c1s; simp [zh,this.2]) fun h1 b1 w1=>?_
 refine zq ze fun h2 b2 w2=>?_
 have n1:=w1.n
 have e1:=w1.b
 have n2:=w2.n
 have e2:=w2.b
 have hb1:h2.t.get b1=some (.cells [sv] 26 false):=by rw [w2.old b1 (by omega)]; exact w1.at_
 have X2:Ext h.n h h2:=(w1.ext (Nat.le_refl _)).trans (w2.ext (by omega))
 have cx2:=cx.ext X2
 refine (tree_ok hook_rtree hn cx2.nd).mono ?_
 rintro y h3 ⟨rfl,rfl⟩
 rw [zaE,Bool.not_true,zb]
 rw [show (Pu EE).lbui h3 #[43] .len [lvK k ns]=(Pu EE).lbui h3 #[43] .len [.slo k 0 ns.length ns.length 14] from rfl,zp cx2.nd.nb.rd zbM,sub1 hlen.1 (by omega),zd zy hb1 (l:=[sv]) rfl]
 obtain ⟨d,hd,hk⟩:=zcw hlen.2.2
 refine ((rnode_ok (own:=own) hns hco cx2 ns.length (ns.length - 1) d (by omega) hd hk).2 h3 cx2 _ rfl).mono ?_
 rintro y h4 ⟨rfl,x4⟩
 have n4:=x4.n
 refine retV (by rw [x4.old b2 (by omega)]; exact w2.at_) rfl _ fun h5 w5=>⟨rfl,by rw [w5.n]; omega,fun c hc=>?_⟩
 rw [w5.other c (by omega),x4.old c (by omega),X2.old c hc]
end
end Go.Proofs.YtbchdlelmkmagaaGreatDoor.VM
namespace Go.Proofs.YtbchdlelmkmagaaGreatDoor.VM
open Go
set_option linter.unusedVariables false
set_option linter.unusedSectionVars false
set_option linter.unusedSimpArgs false
set_option maxRecDepth 20000
noncomputable section
attribute [local instance] syZ
theorem At2.app {g:Grd} {rows:List (List Vl)} {i r:Nat} {row:List Vl} (a:At2 (g++[rows]) i r row):(At2 g i r row∧i < g.length)∨(i=g.length∧rows[r]? = some row):=by
 obtain ⟨rs,h1,h2⟩:=a
 rw [List.getElem?_append] at h1
 split at h1
 ·rename_i hi; exact .inl ⟨⟨rs,h1,h2⟩,hi⟩
 ·rename_i hi
  have:i - g.length=0:=by
   cases e:i - g.length with
   | zero=>rfl
   | succ k=>rw [e] at h1; simp at h1
  rw [this] at h1
  cases h1
  exact .inr ⟨by omega,h2⟩
structure LeafR (N U:Nat) (h:Hp) (us:List V) (rows:List (List Vl)) (B:Nat→Nat):Prop where
 k:RowsK h us rows B
 inj:∀ r s,r < rows.length→s < rows.length→B r=B s→r=s
 lt:∀ r,r < rows.length→N≤B r∧B r < U
theorem LeafR.nil (N U:Nat) (h:Hp) (us:List V) (B:Nat→Nat):LeafR N U h us [] B:=⟨fun r row hr=>by simp at hr,fun r s hr=>by simp at hr,fun r hr=>by simp at hr⟩
theorem LeafR.keep {N U U':Nat} {h h':Hp} {us us':List V} {rows:List (List Vl)} {B:Nat→Nat} (a:LeafR N U h us rows B) (hU:U≤U') (hu:∀ r,r < rows.length→us'[r]? = us[r]?) (hk:∀ r,r < rows.length→h'.t.get (B r)=h.t.get (B r)):LeafR N U' h' us' rows B:=by
 refine ⟨fun r row hr=>?_,a.inj,fun r hr=>⟨(a.lt r hr).1,by have:=(a.lt r hr).2; omega⟩⟩
 have hl:=(List.getElem?_eq_some_iff.1 hr).1
 obtain ⟨u,h1,h2,h3⟩:=a.k r row hr
 exact ⟨u,by rw [hu r hl]; exact h1,h2,by rw [hk r hl]; exact h3⟩
theorem LeafR.grow {N U U':Nat} {h:Hp} {us:List V} {rows:List (List Vl)} {B:Nat→Nat} (a:LeafR N U h us rows B) {u:V} {b:Nat} {row:List Vl} (hu:us[rows.length]? = some u) (hv:LeafV b row.length u) (hb:h.t.get b=some (.cells (vlCs row) 48 false)) (h1:N≤b) (h2:U≤b) (h3:b < U'):
  LeafR N U' h us (rows++[row]) (fun r=>if r=rows.length then b else B r):=by
 refine ⟨fun r row' hr=>?_,fun r s hr hs e=>?_,fun r hr=>?_⟩
 ·rw [List.getElem?_append] at hr
  split at hr
  ·rename_i hl
   obtain ⟨w,k1,k2,k3⟩:=a.k r row' hr
   refine ⟨w,k1,?_,?_⟩
   ·simp only [if_neg (by omega:¬ r=rows.length)]; exact k2
   ·simp only [if_neg (by omega:¬ r=rows.length)]; exact k3
  ·rename_i hl
   have e:r - rows.length=0:=by
    cases q:r - rows.length with
    | zero=>rfl
    | succ k=>rw [q] at hr; simp at hr
   rw [e] at hr
   cases hr
   obtain rfl:r=rows.length:=by omega
   refine ⟨u,hu,?_,?_⟩
   ·simp only [if_true]; exact hv
   ·simp only [if_true]; exact hb
 ·rw [List.length_append,List.length_singleton] at hr hs
  have l1:∀ t,t < rows.length→B t < b:=fun t ht=>by have:=(a.lt t ht).2; omega
  by_cases e1:r=rows.length
  ·by_cases e2:s=rows.length
   ·omega
   ·simp only [if_pos e1,if_neg e2] at e
    have:=l1 s (by omega); omega
  ·by_cases e2:s=rows.length
   ·simp only [if_neg e1,if_pos e2] at e
    have:=l1 r (by omega); omega
   ·simp only [if_neg e1,if_neg e2] at e
    exact a.inj r s (by omega) (by omega) e
 ·rw [List.length_append,List.length_singleton] at hr
  by_cases e1:r=rows.length
  ·simp only [if_pos e1]; omega
  ·simp only [if_neg e1]
   have:=a.lt r (by omega); omega
structure GrO (N U:Nat) (h:Hp) (ws:List V) (g:Grd) (B:Nat→Nat→Nat) (sp:Nat→Prop):Prop where
 k:GridK h ws g B sp
 inj:∀ i r j s row row',At2 g i r row→At2 g j s row'→B i r=B j s→i=j∧r=s
 sep:∀ i r row,At2 g i r row→¬ sp (B i r)
 lt:∀ i r row,At2 g i r row→N≤B i r∧B i r < U
 sl:∀ b,sp b→N≤b∧b < U
theorem GrO.nil (N U:Nat) (h:Hp) (ws:List V) (B:Nat→Nat→Nat):GrO N U h ws [] B fun _=>False:=
 ⟨fun i rows hi=>by simp at hi,fun i r j s row row' ⟨rs,hi,_⟩=>by simp at hi,fun i r row ⟨rs,hi,_⟩=>by simp at hi,fun i r row ⟨rs,hi,_⟩=>by simp at hi,fun b hb=>hb.elim⟩
theorem GrO.keep {N U U':Nat} {h h':Hp} {ws ws':List V} {g:Grd} {B:Nat→Nat→Nat} {sp:Nat→Prop} (a:GrO N U h ws g B sp) (hU:U≤U') (hw:∀ i,i < g.length→ws'[i]? = ws[i]?) (hs:∀ b,sp b→h'.t.get b=h.t.get b) (hl:∀ i r row,At2 g i r row→h'.t.get (B i r)=h.t.get (B i r)):GrO N U' h' ws' g B sp:=by
 refine ⟨fun i rows hi=>?_,a.inj,a.sep,fun i r row q=>⟨(a.lt i r row q).1,by have:=(a.lt i r row q).2; omega⟩,fun b hb=>⟨(a.sl b hb).1,by have:=(a.sl b hb).2; omega⟩⟩
 obtain ⟨w,us,k1,k2,k3,k4⟩:=a.k i rows hi
 refine ⟨w,us,by rw [hw i (List.getElem?_eq_some_iff.1 hi).1]; exact k1,k2.same fun c hc=>hs c (k3 c hc),k3,fun r row hr=>?_⟩
 obtain ⟨u,q1,q2,q3⟩:=k4 r row hr
 exact ⟨u,q1,q2,by rw [hl i r row ⟨rows,hi,hr⟩]; exact q3⟩
theorem GrO.grow {N U M U':Nat} {h:Hp} {ws us:List V} {g:Grd} {B:Nat→Nat→Nat} {sp:Nat→Prop} (a:GrO N U h ws g B sp) {w:V} {rows:List (List Vl)} {Bc:Nat→Nat} (hw:ws[g.length]? = some w) (hr:Rd h 1 w rows.length us) (hL:LeafR M U' h us rows Bc) (hN:N≤U) (hM:U≤M) (hU:U≤U')
  (h1:∀ b,zI w=some b→U≤b∧b < U') (h2:∀ r,r < rows.length→zI w ≠ some (Bc r)):
  GrO N U' h ws (g++[rows]) (fun i=>if i=g.length then Bc else B i) (fun b=>sp b∨zI w=some b):=by
 have old:∀ {i r:Nat} {row:List Vl},At2 g i r row→i < g.length:=fun ⟨rs,hi,_⟩=>(List.getElem?_eq_some_iff.1 hi).1
 have rl:∀ {r:Nat} {row:List Vl},rows[r]? = some row→r < rows.length:=fun hh=>(List.getElem?_eq_some_iff.1 hh).1
 refine ⟨fun i rows' hi=>?_,fun i r j s row row' a1 a2 e=>?_,fun i r row a1=>?_,fun i r row a1=>?_,fun b hb=>?_⟩
 ·rw [List.getElem?_append] at hi
  split at hi
  ·rename_i hl
   obtain ⟨w1,us1,k1,k2,k3,k4⟩:=a.k i rows' hi
   refine ⟨w1,us1,k1,k2,fun b hb=>.inl (k3 b hb),?_⟩
   simp only [if_neg (by omega:¬ i=g.length)]
   exact k4
  ·rename_i hl
   have e:i - g.length=0:=by
    cases q:i - g.length with
    | zero=>rfl
    | succ k=>rw [q] at hi; simp at hi
   rw [e] at hi
   cases hi
   obtain rfl:i=g.length:=by omega
   refine ⟨w,us,hw,hr,fun b hb=>.inr hb,?_⟩
   simp only [if_true]
   exact hL.k
 ·rcases a1.app with ⟨c1,l1⟩ | ⟨rfl,c1⟩
  ·rcases a2.app with ⟨c2,l2⟩ | ⟨rfl,c2⟩
   ·simp only [if_neg (by omega:¬ i=g.length),if_neg (by omega:¬ j=g.length)] at e
    exact a.inj _ _ _ _ _ _ c1 c2 e
   ·simp only [if_neg (by omega:¬ i=g.length),if_true] at e
    have:=(a.lt _ _ _ c1).2
    have:=(hL.lt s (rl c2)).1
    omega
  ·rcases a2.app with ⟨c2,l2⟩ | ⟨rfl,c2⟩
   ·simp only [if_neg (by omega:¬ j=g.length),if_true] at e
    have:=(a.lt _ _ _ c2).2
    have:=(hL.lt r (rl c1)).1
    omega
   ·simp only [if_true] at e
    exact ⟨rfl,hL.inj r s (rl c1) (rl c2) e⟩
 ·rcases a1.app with ⟨c1,l1⟩ | ⟨rfl,c1⟩
  ·simp only [if_neg (by omega:¬ i=g.length)]
   rintro (q | q)
   ·exact a.sep _ _ _ c1 q
   ·have:=(h1 _ q).1
    have:=(a.lt _ _ _ c1).2
    omega
  ·simp only [if_true]
   rintro (q | q)
   ·have:=(a.sl _ q).2
    have:=(hL.lt r (rl c1)).1
    omega
   ·exact h2 r (rl c1) q
 ·rcases a1.app with ⟨c1,l1⟩ | ⟨rfl,c1⟩
  ·simp only [if_neg (by omega:¬ i=g.length)]
   have:=a.lt _ _ _ c1
   omega
  ·simp only [if_true]
   have:=hL.lt r (rl c1)
   omega
 ·rcases hb with q | q
  ·have:=a.sl b q; omega
  ·have:=h1 b q; omega
theorem GrO.grid {N U:Nat} {h:Hp} {v:V} {ws:List V} {g:Grd} {B:Nat→Nat→Nat} {sp:Nat→Prop} (a:GrO N U h ws g B sp) (hr:Rd h 1 v g.length ws) (hU:U≤h.n) (hv:∀ b,zI v=some b→b < h.n∧∀ i r row,At2 g i r row→B i r ≠ b):GridG N h v g B (fun b=>sp b∨zI v=some b):=by
 refine ⟨⟨ws,hr,fun i rows hi=>?_⟩,fun b hb=>.inr hb,a.inj,fun i r row q hh=>?_,fun i r row q=>⟨(a.lt i r row q).1,by have:=(a.lt i r row q).2; omega⟩,fun b hb=>?_⟩
 ·obtain ⟨w,us,k1,k2,k3,k4⟩:=a.k i rows hi
  exact ⟨w,us,k1,k2,fun b hb=>.inl (k3 b hb),k4⟩
 ·rcases hh with hh | hh
  ·exact a.sep i r row q hh
  ·exact (hv _ hh).2 i r row q rfl
 ·rcases hb with hb | hb
  ·have:=(a.sl b hb).2; omega
  ·exact (hv b hb).1
def zbr (row:List (List Nat)):List Vl:=row.map zgx
def zb7 (s:Sht):List (List Vl):=s.rows.map zbr
def zbg (bk:Bok):Grd:=bk.map zb7
structure Sm (bk:Bok):Prop where
 len:bk.length≤16
 rows:∀ t ∈ bk,0 < t.rows.length∧t.rows.length≤16∧∀ row ∈ t.rows,0 < row.length∧row.length≤16
 txt:TextsIn bk
theorem zcF {α:Type} {l:List α} {i:Nat} {x:α} (h:l[i]? = some x):l.take (i+1)=l.take i++[x]:=by
 obtain ⟨hi,he⟩:=List.getElem?_eq_some_iff.1 h
 rw [← he,List.take_succ_eq_append_getElem hi]
theorem rep_flat (n:Nat):rep n [.int .i64 0,.int .i64 0,.str []]=vlCs (List.replicate n vl0):=by
 induction n with
 | zero=>rfl
 | succ n ih=>rw [List.replicate_succ]; show _++rep n _=_; rw [ih]; rfl
theorem pu_mkslV {n:Nat} (hn:n≤16) {h:Hp} {q:V→Hp→Blk→Prop} (hq:∀ h1 b,New h h1 b (.cells (vlCs (List.replicate n vl0)) 48 false)→q (.sl b 0 n n) h1 (.cells (vlCs (List.replicate n vl0)) 48 false)):(Pu EE).mksl h 39 (.int .i64 n) (.int .i64 n) q:=by
 obtain ⟨ti,h1,h2⟩:=zM
 obtain ⟨⟨j,h3,h4,h5,h6,h7⟩,h8⟩:=ze
 have hb:(Nat.ble n n && Nat.ble (j.bytes * n) 1048576 && Nat.ble n 1048576 && Nat.beq ([.int .i64 0,.int .i64 0,.str []]:List V).length j.size)=true:=by
  have:j.bytes * n≤65536 * 16:=Nat.mul_le_mul h6 hn
  rw [h4]
  simp only [Bool.and_eq_true,Nat.ble_eq,List.length_cons,List.length_nil,Nat.beq_eq]
  exact ⟨⟨⟨Nat.le_refl _,by omega⟩,by omega⟩,trivial⟩
 refine ⟨(.sl n n,.cells (vlCs (List.replicate n vl0)) 48 false),?_,hq _ _ (New.mk' _ _)⟩
 rw [← rep_flat]
 simp only [h1,Option.bind_some,makeV,h2,zbV,h3,h5,hb,cond_true]
theorem hook_plA:EE.hook 17=some (txH plM):=by kernel_rfl
theorem hook_plB:EE.hook 13=some (txH plM):=by kernel_rfl
theorem plain_ok {f:Nat} (hk:EE.hook f=some (txH plM)) {t:List Nat} (ht:t ∈ zcR) (h:Hp):Ans EE f [.str t] h fun x h'=>x=valV (zgx t)∧Ext h.n h h':=by
 refine ⟨_,_,Cs.hook hk (txH_at ht rfl h),?_,⟨by simp [plM,Hp.app],fun b hb=>Hp.get_app_old _ _ hb⟩⟩
 simp [plM,valV,vlC,V.ren,V.renL]
end
end Go.Proofs.YtbchdlelmkmagaaGreatDoor.VM
namespace Go.Proofs.YtbchdlelmkmagaaGreatDoor.VM
open Go
set_option linter.unusedVariables false
set_option linter.unusedSectionVars false
set_option linter.unusedSimpArgs false
set_option maxRecDepth 20000
noncomputable section
attribute [local instance] syZ
theorem fill_step {l:List Vl} {n c:Nat} (hn:l.length=n) {x:Vl} (hx:l[c]? = some x):(l.take c++List.replicate (n - c) vl0).set c x=l.take (c+1)++List.replicate (n - (c+1)) vl0:=by
 have hc:=(List.getElem?_eq_some_iff.1 hx).1
 rw [zcF hx,List.set_append_right _ _ (by rw [List.length_take]; omega),List.length_take,Nat.min_eq_left (by omega),Nat.sub_self,show n - c=(n - (c+1))+1 by omega,List.replicate_succ,List.set_cons_zero,List.append_assoc]
 rfl
theorem same_sl (b o l c:Nat) (k:Prop):(Pu EE).same (.sl b o l c) (.sl b o l c) k↔k:=by
 show (zd9 _ _=true∧k)↔k
 have:zd9 (.sl b o l c) (.sl b o l c)=true:=by simp [zd9,zkf]
 simp [this]
theorem cell_loop3 (Q:V→Hp→Prop) {M bo T bl i r R C S:Nat} {h0:Hp} {ws us:List V} {row:List (List Nat)} {v1 v26 v27 v41 v42 v57:V}
  (hC:row.length=C) (hC16:C≤16) (htx:∀ t ∈ row,t ∈ zcR) (hrow:RowAt M h0 v57 row) (hM:M≤bl) (hr1:r < 1000)
  (hbo:h0.t.get bo=some (.cells ws 35 false)) (hwl:ws.length=S) (hwi:ws[i]? = some (.sl T 0 R R))
  (hT:h0.t.get T=some (.cells us 39 false)) (hul:us.length=R) (hur:us[r]? = some (.sl bl 0 C C))
  (l1:bo < h0.n) (l2:T < h0.n) (l3:bl < h0.n) (d1:bo ≠ bl) (d2:T ≠ bl)
  (hq:∀ h',h0.n≤h'.n→(∀ b,b < h0.n→b ≠ bl→h'.t.get b=h0.t.get b)→h'.t.get bl=some (.cells (vlCs (zbr row)) 48 false)→zf8 Q v1 (.sl bo 0 S S) (.int .i64 i) v26 v27 (.int .i64 i) v41 v42 (.int .i64 ((r+1:Nat):Int)) h'):
  ∀ (j c:Nat),C - c=j→c≤C→∀ h:Hp,h0.n≤h.n→(∀ b,b < h0.n→b ≠ bl→h.t.get b=h0.t.get b)→h.t.get bl=some (.cells (vlCs ((zbr row).take c++List.replicate (C - c) vl0)) 48 false) →
   zjz Q v1 (.sl bo 0 S S) (.int .i64 i) (.int .i64 r) v26 v27 (.int .i64 i) v41 v42 (.int .i64 r) v57 (.int .i64 C) (.int .i64 c) h:=by
 have hpl:(zbr row).length=C:=by unfold zbr; rw [List.length_map,hC]
 intro j
 induction j with
 | zero=>
  intro c hj hc h hn hf hl
  apply zjH
  unfold zdN
  rw [zr,decide_eq_false (by omega:¬ c < C),zb,zK _ _ _ _ (by omega)]
  obtain rfl:c=C:=by omega
  rw [Nat.sub_self,List.replicate_zero,List.append_nil,List.take_of_length_le (by omega)] at hl
  exact hq h hn hf hl
 | succ j ih=>
  intro c hj hc h hn hf hl
  have hcC:c < C:=by omega
  obtain ⟨t,ht⟩:∃ t,row[c]? = some t:=⟨_,List.getElem?_eq_getElem (by omega)⟩
  have hiS:i < S:=by have:=(List.getElem?_eq_some_iff.1 hwi).1; omega
  have hrR:r < R:=by have:=(List.getElem?_eq_some_iff.1 hur).1; omega
  have hr':RowAt M h v57 row:=hrow.ext ⟨hn,fun b hb=>hf b (by omega) (by omega)⟩
  have hbo':h.t.get bo=some (.cells ws 35 false):=(hf bo l1 d1).trans hbo
  have hT':h.t.get T=some (.cells us 39 false):=(hf T l2 d2).trans hT
  obtain ⟨b1,o1,g1,g2⟩:=row_get hr' z7 zL ht
  apply zjH
  unfold zdN
  rw [zr,decide_eq_true hcC,zc,g1,g2,zgR zaa zap _ _ _ _ _ hiS,Nat.zero_add,Nat.mul_one,za zap hbo' hwi,zgR zaC zN _ _ _ _ _ hrR,Nat.zero_add,Nat.mul_one,za zN hT' hur]
  refine (plain_ok hook_plA (htx t (List.mem_of_getElem? ht)) h).mono ?_
  rintro x h9 ⟨rfl,x9⟩
  have n9:=x9.n
  have hl9:h9.t.get bl=some (.cells (vlCs ((zbr row).take c++List.replicate (C - c) vl0)) 48 false):=(x9.old bl (by omega)).trans hl
  rw [zaF (x9.old T (by omega)),za zN hT' hur,same_sl,zaF (x9.old bo (by omega)),za zap hbo' hwi,same_sl,zgR zM ze _ _ _ _ _ hcC,Nat.zero_add]
  have hx:(zbr row)[c]? = some (zgx t):=by unfold zbr; rw [List.getElem?_map,ht]; rfl
  refine zC ze hl9 (x:=valV (zgx t)) rfl rfl (spl_val _ c (zgx t) (by rw [List.length_append,List.length_take,List.length_replicate]; omega)) fun h13 w13=>?_
  have n13:=w13.n
  rw [zK _ _ _ _ (by omega)]
  refine ih (c+1) (by omega) (by omega) h13 (by omega) (fun b hb hne=>?_) ?_
  ·rw [w13.other b hne,x9.old b (by omega),hf b hb hne]
  ·rw [← fill_step hpl hx]; exact w13.at_
theorem row_loop2 (Q:V→Hp→Prop) {M bo T i S:Nat} {h0:Hp} {ws:List V} {rs:List (List (List Nat))} {v1 v26 v27 v41:V}
  (hR:rs.length≤16) (hrows:∀ row ∈ rs,row.length≤16) (htx:∀ row ∈ rs,∀ t ∈ row,t ∈ zcR) (hrs:zdz M h0 v41 rs) (hM:M≤bo) (hM2:M≤T)
  (hbo:h0.t.get bo=some (.cells ws 35 false)) (hwl:ws.length=S) (hwi:ws[i]? = some (.sl T 0 rs.length rs.length)) (hi:i < 1000)
  (l1:bo < h0.n) (l2:T < h0.n) (d:bo ≠ T)
  (hq:∀ h' us B,h0.n≤h'.n→(∀ b,b < h0.n→b ≠ T→h'.t.get b=h0.t.get b)→h'.t.get T=some (.cells us 39 false)→us.length=rs.length→LeafR h0.n h'.n h' us (rs.map zbr) B→zdJ Q v1 (.sl bo 0 S S) v26 v27 (.int .i64 ((i+1:Nat):Int)) h'):
  ∀ (j r:Nat),rs.length - r=j→r≤rs.length→∀ (h:Hp) (us:List V) (B:Nat→Nat),h0.n≤h.n→(∀ b,b < h0.n→b ≠ T→h.t.get b=h0.t.get b)→h.t.get T=some (.cells us 39 false)→us.length=rs.length→LeafR h0.n h.n h us ((rs.map zbr).take r) B →
   zf8 Q v1 (.sl bo 0 S S) (.int .i64 i) v26 v27 (.int .i64 i) v41 (.int .i64 rs.length) (.int .i64 r) h:=by
 intro j
 induction j with
 | zero=>
  intro r hj hr h us B hn hf hT hul hL
  apply zjT
  unfold zdU
  rw [zr,decide_eq_false (by omega:¬ r < rs.length),zb,zK _ _ _ _ (by omega)]
  rw [List.take_of_length_le (by rw [List.length_map]; omega)] at hL
  exact hq h us B hn hf hT hul hL
 | succ j ih=>
  intro r hj hr h us B hn hf hT hul hL
  have hrR:r < rs.length:=by omega
  obtain ⟨row,hrow⟩:∃ row,rs[r]? = some row:=⟨_,List.getElem?_eq_getElem hrR⟩
  have hmem:=List.mem_of_getElem? hrow
  have hC:=hrows row hmem
  have hiS:i < S:=by have:=(List.getElem?_eq_some_iff.1 hwi).1; omega
  have hrs':zdz M h v41 rs:=hrs.ext ⟨hn,fun b hb=>hf b (by omega) (by omega)⟩
  have hbo':h.t.get bo=some (.cells ws 35 false):=(hf bo l1 d).trans hbo
  obtain ⟨b1,o1,w,g1,g2,g3⟩:=zbU hrs' zn zaz hrow
  apply zjT
  unfold zdU
  rw [zr,decide_eq_true hrR,zc,g1,g2,zgR zaa zap _ _ _ _ _ hiS,Nat.zero_add,Nat.mul_one,za zap hbo' hwi,zp g3.1 z7]
  refine pu_mkslV hC fun h8 b9 w8=>?_
  have n8:=w8.n
  have e8:=w8.b
  have hT8:h8.t.get T=some (.cells us 39 false):=(w8.old T (by omega)).trans hT
  rw [zp g3.1 z7,zab,zaF (w8.old bo (by omega)),za zap hbo' hwi,same_sl,zgR zaC zN _ _ _ _ _ hrR,Nat.zero_add,Nat.mul_one]
  refine zC zN hT8 (x:=.sl b9 0 row.length row.length) rfl rfl (spl_one us r _ (by omega)) fun h13 w13=>?_
  have n13:=w13.n
  have g13:RowAt M h13 w row:=g3.ext ⟨by omega,fun b hb=>by rw [w13.other b (by omega),w8.old b (by omega)]⟩
  rw [zp g3.1 z7]
  have hset:(us.set r (.sl b9 0 row.length row.length))[r]? = some (.sl b9 0 row.length row.length):=by rw [List.getElem?_set_self (by omega)]
  have hLl:((rs.map zbr).take r).length=r:=by rw [List.length_take,List.length_map]; omega
  refine cell_loop3 Q (M:=M) (T:=T) (bl:=b9) (R:=rs.length) (C:=row.length) (ws:=ws) (us:=us.set r (.sl b9 0 row.length row.length)) rfl hC (htx row hmem) g13 (by omega) (by omega) ?_ hwl hwi w13.at_ (by rw [List.length_set]; exact hul) hset (by omega) (by omega) (by omega) (by omega) (by omega) (fun h' hn' hf' hl'=>?_) row.length 0 (by omega) (Nat.zero_le _) h13 (Nat.le_refl _) (fun _ _ _=>rfl) ?_
  ·rw [w13.other bo d,w8.old bo (by omega)]; exact hbo'
  ·have hTT:h'.t.get T=some (.cells (us.set r (.sl b9 0 row.length row.length)) 39 false):=by rw [hf' T (by omega) (by omega)]; exact w13.at_
   refine ih (r+1) (by omega) (by omega) h' (us.set r (.sl b9 0 row.length row.length)) (fun t=>if t=((rs.map zbr).take r).length then b9 else B t) (by omega) (fun b hb hne=>?_) hTT (by rw [List.length_set]; exact hul) ?_
   ·rw [hf' b (by omega) (by omega),w13.other b hne,w8.old b (by omega),hf b hb hne]
   ·have hx:(rs.map zbr)[r]? = some (zbr row):=by rw [List.getElem?_map,hrow]; rfl
    rw [zcF hx]
    have hL':LeafR h0.n h.n h' (us.set r (.sl b9 0 row.length row.length)) ((rs.map zbr).take r) B:=by
     refine hL.keep (Nat.le_refl _) (fun t ht=>?_) (fun t ht=>?_)
     ·rw [List.getElem?_set_ne (by omega)]
     ·have:=hL.lt t ht
      rw [hf' (B t) (by omega) (by omega),w13.other (B t) (by omega),w8.old (B t) (by omega)]
    refine hL'.grow (by rw [hLl]; exact hset) (.inl ?_) hl' (by omega) (by omega) (by omega)
    unfold zbr
    rw [List.length_map]
  ·rw [w13.other b9 (by omega),List.take_zero,List.nil_append,Nat.sub_zero]
   exact w8.at_
theorem sheet_loop1 (Q:V→Hp→Prop) {M N bo b1:Nat} {h0:Hp} {bk:Bok} {sv:V} (sm:Sm bk) (hN:N=h0.n) (l1:bo < N) (hM:M≤bo) (l2:b1 < bo)
  (box:h0.t.get b1=some (.cells [sv] 26 false)) (hs:zdB M h0 sv bk)
  (hq:∀ h' ws B sp,N≤h'.n→(∀ b,b < N→b ≠ bo→h'.t.get b=h0.t.get b)→h'.t.get bo=some (.cells ws 35 false)→ws.length=bk.length→GrO N h'.n h' ws (zbg bk) B sp→zdJ Q (.ptr b1 0) (.sl bo 0 bk.length bk.length) sv (.int .i64 bk.length) (.int .i64 bk.length) h'):
  ∀ (j i:Nat),bk.length - i=j→i≤bk.length→∀ (h:Hp) (ws:List V) (B:Nat→Nat→Nat) (sp:Nat→Prop),N≤h.n→(∀ b,b < N→b ≠ bo→h.t.get b=h0.t.get b)→h.t.get bo=some (.cells ws 35 false)→ws.length=bk.length→GrO N h.n h ws ((zbg bk).take i) B sp →
   zdJ Q (.ptr b1 0) (.sl bo 0 bk.length bk.length) sv (.int .i64 bk.length) (.int .i64 i) h:=by
 have hS:=sm.len
 intro j
 induction j with
 | zero=>
  intro i hj hi h ws B sp hn hf hbo hwl hG
  obtain rfl:i=bk.length:=by omega
  rw [List.take_of_length_le (by unfold zbg; rw [List.length_map]; exact Nat.le_refl _)] at hG
  exact hq h ws B sp hn hf hbo hwl hG
 | succ j ih=>
  intro i hj hi h ws B sp hn hf hbo hwl hG
  have hiS:i < bk.length:=by omega
  obtain ⟨s,hs_⟩:∃ s,bk[i]? = some s:=⟨_,List.getElem?_eq_getElem hiS⟩
  have hmem:=List.mem_of_getElem? hs_
  obtain ⟨r1,r2,r3⟩:=sm.rows s hmem
  have hs':zdB M h sv bk:=hs.ext ⟨by omega,fun b hb=>hf b (by omega) (by omega)⟩
  obtain ⟨b2,o2,rv,g1,g2,g3,_⟩:=zbu hs' zl zH hs_
  obtain ⟨vs,hrd⟩:=g3.rd
  have cr:=hrd.c1
  apply zjr
  unfold zd5
  rw [zr,decide_eq_true hiS,zc,g1,g2]
  refine zq zH fun h5 b6 w5=>?_
  have n5:=w5.n
  have e5:=w5.b
  refine zC zH w5.at_ (x:=.agg (shtC s rv)) rfl (show zh (shtC s rv)=true by simp [shtC,zh,V.isCell]; exact cr.2) (r:=shtC s rv) rfl fun h7 w7=>?_
  have n7:=w7.n
  rw [zG,za zD w7.at_ (v:=rv) rfl,zp hrd zn]
  refine pu_mkslX zaC zN r2 fun h12 T w12=>?_
  have n12:=w12.n
  have e12:=w12.b
  have hbo12:h12.t.get bo=some (.cells ws 35 false):=by rw [w12.old bo (by omega),w7.other bo (by omega),w5.old bo (by omega)]; exact hbo
  rw [zgR zaa zap _ _ _ _ _ hiS,Nat.zero_add,Nat.mul_one]
  refine zC zap hbo12 (x:=.sl T 0 s.rows.length s.rows.length) rfl rfl (spl_one ws i _ (by omega)) fun h15 w15=>?_
  have n15:=w15.n
  have hb6:h15.t.get b6=some (.cells (shtC s rv) 38 false):=by rw [w15.other b6 (by omega),w12.old b6 (by omega)]; exact w7.at_
  rw [zG,za zD hb6 (v:=rv) rfl,zp hrd zn]
  have hold:∀ b,b < h.n→b ≠ bo→h15.t.get b=h.t.get b:=fun b hb hne=>by rw [w15.other b hne,w12.old b (by omega),w7.other b (by omega),w5.old b hb]
  have g15:zdz M h15 rv s.rows:=g3.ext ⟨by omega,fun b hb=>hold b (by omega) (by omega)⟩
  have hset:(ws.set i (.sl T 0 s.rows.length s.rows.length))[i]? = some (.sl T 0 s.rows.length s.rows.length):=by rw [List.getElem?_set_self (by omega)]
  have hGl:((zbg bk).take i).length=i:=by unfold zbg; rw [List.length_take,List.length_map]; omega
  refine row_loop2 Q (M:=M) (T:=T) (ws:=ws.set i (.sl T 0 s.rows.length s.rows.length)) r2 (fun row hr=>(r3 row hr).2) (fun row hr t ht=>sm.txt s hmem row hr t ht) g15 hM (by omega) w15.at_ (by rw [List.length_set]; exact hwl) hset (by omega) (by omega) (by omega) (by omega) (fun h' us B' hn' hf' hT' hul' hL'=>?_) s.rows.length 0 (by omega) (Nat.zero_le _) h15 (List.replicate s.rows.length .nils) (fun _=>0) (Nat.le_refl _) (fun _ _ _=>rfl) (by rw [w15.other T (by omega)]; exact w12.at_) (by rw [List.length_replicate]) (by rw [List.take_zero]; exact LeafR.nil _ _ _ _ _)
  have hb':h'.t.get bo=some (.cells (ws.set i (.sl T 0 s.rows.length s.rows.length)) 35 false):=by rw [hf' bo (by omega) (by omega)]; exact w15.at_
  have hx:(zbg bk)[i]? = some (zb7 s):=by unfold zbg; rw [List.getElem?_map,hs_]; rfl
  have hk:∀ b,N≤b→b < h.n→h'.t.get b=h.t.get b:=fun b k1 k2=>by rw [hf' b (by omega) (by omega),hold b k2 (by omega)]
  have G1:GrO N h.n h' (ws.set i (.sl T 0 s.rows.length s.rows.length)) ((zbg bk).take i) B sp:=by
   refine hG.keep (Nat.le_refl _) (fun t ht=>?_) (fun b hb=>hk b (hG.sl b hb).1 (hG.sl b hb).2) (fun a r row q=>hk _ (hG.lt a r row q).1 (hG.lt a r row q).2)
   rw [List.getElem?_set_ne (by omega)]
  have hR':(zb7 s).length=s.rows.length:=by unfold zb7; rw [List.length_map]
  have G2:=G1.grow (U':=h'.n) (M:=h15.n) (w:=.sl T 0 s.rows.length s.rows.length) (rows:=zb7 s) (us:=us) (Bc:=B') (by rw [hGl]; exact hset) ⟨by rw [hR',Nat.mul_one]; exact hul',.inr ⟨T,0,us,zcH hT',by rw [hR',Nat.mul_one]; exact sub_all hul',.inl ⟨s.rows.length,by rw [hR']⟩⟩⟩ hL' hn (by omega) (by omega) (fun b hb=>by cases hb; omega) (fun r hr e=>by
   have:=hL'.lt r hr
   simp only [zI,Option.some.injEq] at e
   omega)
  rw [← zcF hx] at G2
  exact ih (i+1) (by omega) (by omega) h' _ _ _ (by omega) (fun b hb hne=>by rw [hf' b (by omega) (by omega),hold b (by omega) hne,hf b hb hne]) hb' (by rw [List.length_set]; exact hwl) G2
end
end Go.Proofs.YtbchdlelmkmagaaGreatDoor.VM
namespace Go.Proofs.YtbchdlelmkmagaaGreatDoor.VM
open Go
set_option linter.unusedVariables false
set_option linter.unusedSectionVars false
set_option linter.unusedSimpArgs false
set_option maxRecDepth 20000
noncomputable section
attribute [local instance] syZ
def putS (bk:Bok) (g:Grd) (s:Spt) (v:Vl):Grd:=match zcm bk s.s 0 with
 | some i=>setG g i s.r s.c v
 | none=>g
def evF (bk:Bok) (g:Grd) (s:Spt):Vl:=match nksT (getC bk s) with
 | some ns=>evS ns bk g s.s
 | none=>vl0
def cycG (bk:Bok) (cyc:List Spt) (g:Grd):Grd:=cyc.foldl (fun g s=>putS bk g s (vlE 6)) g
def ordG (bk:Bok) (order:List Spt) (g:Grd):Grd:=order.foldl (fun g s=>putS bk g s (evF bk g s)) g
def ordL (bk:Bok):List Spt:=(zbp (ndR bk) (zt bk).length (zt bk)).1
def cycL (bk:Bok):List Spt:=(zbp (ndR bk) (zt bk).length (zt bk)).2
def valsG (bk:Bok):Grd:=ordG bk (ordL bk) (cycG bk (cycL bk) (zbg bk))
theorem ordL_in {bk:Bok} {s:Spt} (h:s ∈ ordL bk):s ∈ zt bk:=(zgd (nd:=ndR bk) (zt bk).length (zt bk) (Nat.le_refl _)).mem_iff.1 (List.mem_append_left _ h)
theorem cycL_in {bk:Bok} {s:Spt} (h:s ∈ cycL bk):s ∈ zt bk:=(zgd (nd:=ndR bk) (zt bk).length (zt bk) (Nat.le_refl _)).mem_iff.1 (List.mem_append_right _ h)
theorem zhm {bk:Bok} {s:Spt} (h:s ∈ zt bk):s ∈ zJ bk∧hasF bk s=true:=List.mem_filter.1 h
theorem fCells_nks {bk:Bok} {s:Spt} (h:s ∈ zt bk):∃ ns,nksT (getC bk s)=some ns:=by
 have:=(zhm h).2
 unfold hasF zg3 at this
 rw [Option.isSome_map] at this
 exact Option.isSome_iff_exists.1 this
def Fits2 (bk:Bok) (g:Grd):Prop:=g.length=bk.length∧∀ (i:Nat) (s:Sht),bk[i]? = some s→∃ rows,g[i]? = some rows∧rows.length=s.rows.length∧∀ (r:Nat) (row:List (List Nat)),s.rows[r]? = some row→∃ vr,rows[r]? = some vr∧vr.length=row.length
def MayG (g:Grd):Prop:=∀ i r row,At2 g i r row→∀ v ∈ row,MayV v
theorem at_spot {bk:Bok} (hb:Rises bk) {s:Spt} (h:s ∈ zJ bk):∃ i t row,zcm bk s.s 0=some i∧bk[i]? = some t∧t.name=s.s∧t.rows[s.r]? = some row∧s.c < row.length:=by
 obtain ⟨t,h1,h2,row,h3,h4⟩:=zgI.1 h
 have hf:=zj6 hb h1
 rw [← h2] at hf
 cases e:zcm bk s.s 0 with
 | none=>rw [zfN e] at hf; cases hf
 | some i=>
  obtain ⟨_,t',k1,k2,k3⟩:=zbY e
  rw [hf] at k3
  cases k3
  exact ⟨i,t,row,rfl,k1,h2.symm,h3,h4⟩
theorem Fits2.at2 {bk:Bok} {g:Grd} (f:Fits2 bk g) {i r:Nat} {t:Sht} {row:List (List Nat)} (ht:bk[i]? = some t) (hr:t.rows[r]? = some row):∃ vr,At2 g i r vr∧vr.length=row.length:=by
 obtain ⟨rows,h1,_,h2⟩:=f.2 i t ht
 obtain ⟨vr,h3,h4⟩:=h2 r row hr
 exact ⟨vr,⟨rows,h1,h3⟩,h4⟩
theorem Fits2.set {bk:Bok} {g:Grd} (f:Fits2 bk g) (i r c:Nat) (x:Vl):Fits2 bk (setG g i r c x):=by
 refine ⟨by rw [setG_len]; exact f.1,fun j s hs=>?_⟩
 obtain ⟨rows,h1,h2,h3⟩:=f.2 j s hs
 have hj:j < (setG g i r c x).length:=by rw [setG_len]; exact (List.getElem?_eq_some_iff.1 h1).1
 obtain ⟨rows',hr'⟩:∃ rows',(setG g i r c x)[j]? = some rows':=⟨_,List.getElem?_eq_getElem hj⟩
 obtain ⟨rows0,k1,k2,k3⟩:=setG_at g i r c x hr'
 rw [h1] at k1; cases k1
 refine ⟨rows',hr',by omega,fun q row hq=>?_⟩
 obtain ⟨vr,m1,m2⟩:=h3 q row hq
 have hq2:q < rows'.length:=by have:=(List.getElem?_eq_some_iff.1 m1).1; omega
 obtain ⟨row',e1⟩:∃ row',rows'[q]? = some row':=⟨_,List.getElem?_eq_getElem hq2⟩
 obtain ⟨row0,e2,e3⟩:=k3 q row' e1
 rw [m1] at e2; cases e2
 refine ⟨row',e1,?_⟩
 rcases e3 with ⟨_,_,rfl⟩ | ⟨_,rfl⟩
 ·rw [List.length_set]; exact m2
 ·exact m2
theorem MayG.set {g:Grd} (f:MayG g) (i r c:Nat) {x:Vl} (hx:MayV x):MayG (setG g i r c x):=by
 rintro j s row' ⟨rows',h1,h2⟩ v hv
 obtain ⟨rows,k1,_,k2⟩:=setG_at g i r c x h1
 obtain ⟨row,k3,k4⟩:=k2 s row' h2
 rcases k4 with ⟨rfl,rfl,rfl⟩ | ⟨_,rfl⟩
 ·rcases List.mem_or_eq_of_mem_set hv with h | rfl
  ·exact f j s row ⟨rows,k1,k3⟩ v h
  ·exact hx
 ·exact f j s row' ⟨rows,k1,k3⟩ v hv
theorem Fits2.plain (bk:Bok):Fits2 bk (zbg bk):=by
 refine ⟨by unfold zbg; rw [List.length_map],fun i s hs=>⟨zb7 s,by unfold zbg; rw [List.getElem?_map,hs]; rfl,by unfold zb7; rw [List.length_map],fun r row hr=>⟨zbr row,by unfold zb7; rw [List.getElem?_map,hr]; rfl,by unfold zbr; rw [List.length_map]⟩⟩⟩
theorem plain_may:zcR.all (fun t=>match zgx t with
 | ⟨0,0,[]⟩=>true
 | ⟨1,n,[]⟩=>decide (0≤n) && decide (n≤9)
 | ⟨2,0,s⟩=>decide (s.length≤200) && s.all fun x=>decide (x < 256)
 | ⟨4,1,[]⟩=>true
 | _=>false)=true:=by kernel_rfl
theorem mayPlain {t:List Nat} (h:t ∈ zcR):MayV (zgx t):=by
 have hp:=List.all_eq_true.1 plain_may t h
 generalize zgx t=v at hp
 obtain ⟨k,n,s⟩:=v
 split at hp
 ·rename_i e
  cases e
  exact ⟨by simp,by simp,by simp,by simp,by simp,by simp [zar],by simp,by simp⟩
 ·rename_i e
  cases e
  simp only [Bool.and_eq_true,decide_eq_true_iff] at hp
  exact ⟨by simp,by simp,by simp,by simp,by simp,by simp [zar]; omega,by simp,by simp⟩
 ·rename_i e
  cases e
  simp only [Bool.and_eq_true,decide_eq_true_iff,List.all_eq_true] at hp
  exact ⟨by simp,by simp,by simp,by simp,by simp,by simp [zar],by simpa using hp.1,hp.2⟩
 ·rename_i e
  cases e
  exact ⟨by simp,by simp,by simp,by simp,by simp,by simp [zar],by simp,by simp⟩
 ·cases hp
theorem MayG.plain {bk:Bok} (h:TextsIn bk):MayG (zbg bk):=by
 rintro i r row ⟨rows,h1,h2⟩ v hv
 unfold zbg at h1
 rw [List.getElem?_map,Option.map_eq_some_iff] at h1
 obtain ⟨s,h3,rfl⟩:=h1
 unfold zb7 at h2
 rw [List.getElem?_map,Option.map_eq_some_iff] at h2
 obtain ⟨row0,h4,rfl⟩:=h2
 unfold zbr at hv
 obtain ⟨t,h5,rfl⟩:=List.mem_map.1 hv
 exact mayPlain (h s (List.mem_of_getElem? h3) row0 (List.mem_of_getElem? h4) t h5)
theorem may6:MayV (vlE 6):=⟨by simp [vlE],by simp [vlE],by simp [vlE],by simp [vlE],by simp [vlE],by simp [vlE,zar],by simp [vlE],by simp [vlE]⟩
structure VS (bk:Bok) (M N b1:Nat) (sv gv:V) (B:Nat→Nat→Nat) (sp:Nat→Prop) (g:Grd) (h:Hp):Prop where
 box:h.t.get b1=some (.cells [sv] 26 false)
 b1n:b1 < h.n
 sh:zdB M h sv bk
 gr:GridG N h gv g B sp
 mN:M≤N
 nh:N≤h.n
 fits:Fits2 bk g
 may:MayG g
section
variable {bk:Bok} {M N b1:Nat} {sv gv:V} {B:Nat→Nat→Nat} {sp:Nat→Prop} {g:Grd} {h h':Hp}
theorem VS.keep (a:VS bk M N b1 sv gv B sp g h) (x:Ext h.n h h'):VS bk M N b1 sv gv B sp g h':=
 ⟨(x.old b1 a.b1n).trans a.box,by have:=x.n; have:=a.b1n; omega,a.sh.ext (x.mono (Nat.le_trans a.mN a.nh)),a.gr.keep x,a.mN,by have:=x.n; have:=a.nh; omega,a.fits,a.may⟩
theorem VS.ev (a:VS bk M N b1 sv gv B sp g h) (hl:bk.length < 1000000):EvC M h sv bk gv g:=
 ⟨a.sh,⟨N,B,sp,a.gr⟩,Nat.le_trans a.mN a.nh,hl,a.fits.2,a.may⟩
theorem blk_ty {a b:List V} {t u:Nat} (h:some (Blk.cells a t false)=some (Blk.cells b u false)):t=u:=by
 injection h with h
 injection h
theorem OwnS.apart {v:V} {l:List Spt} (o:OwnS 0 h v l) {cs:List V} {b:Nat} (hb:h.t.get b=some (.cells cs 48 false)):zI v ≠ some b:=by
 intro e
 rcases o.at_ with ⟨rfl,_⟩ | ⟨c,_,_,h1,h2⟩
 ·cases e
 ·have:c=b:=by rcases h2 with rfl | rfl <;> (cases e; rfl)
  subst this
  rw [h1] at hb
  exact absurd (blk_ty hb) (by decide)
theorem VS.set (a:VS bk M N b1 sv gv B sp g h) {i r c:Nat} {row:List Vl} (hat:At2 g i r row) (hc:c < row.length) {x:Vl} (hx:MayV x) {O C:V} {lo lc:List Spt} (oO:OwnS 0 h O lo) (oC:OwnS 0 h C lc) {q:Hp→Prop}
  (hq:∀ h',VS bk M N b1 sv gv B sp (setG g i r c x) h'→OwnS 0 h' O lo→OwnS 0 h' C lc→h'.n=h.n→(∀ b,(∀ cs,h.t.get b ≠ some (.cells cs 48 false))→h'.t.get b=h.t.get b)→(∀ b,b < N→h'.t.get b=h.t.get b)→q h'):
  (Pu EE).store h 48 (.ptr (B i r) (c * 3)) (valV x) q:=by
 obtain ⟨_,_,_,_,_,_,_,_,_,_,hlv,hg⟩:=a.gr.row hat
 have hlt:=a.gr.lt i r row hat
 refine a.gr.set hat hc x fun h' G' hn ho=>hq h' ⟨?_,by have:=a.b1n; omega,?_,G',a.mN,by have:=a.nh; omega,a.fits.set _ _ _ _,a.may.set _ _ _ hx⟩ ?_ ?_ hn (fun b hb=>ho b fun e=>?_) fun b hb=>ho b (by omega)
 ·rw [ho b1 fun e=>?_]
  ·exact a.box
  ·have hb:=a.box
   rw [e,hg] at hb
   exact absurd (blk_ty hb) (by decide)
 ·exact a.sh.ext ⟨by omega,fun b hb=>ho b (by have:=a.mN; omega)⟩
 ·exact oO.keep (by omega) fun b hb=>ho b fun e=>oO.apart hg (e ▸ hb)
 ·exact oC.keep (by omega) fun b hb=>ho b fun e=>oC.apart hg (e ▸ hb)
 ·subst e
  exact hb _ hg
end
end
end Go.Proofs.YtbchdlelmkmagaaGreatDoor.VM
namespace Go.Proofs.YtbchdlelmkmagaaGreatDoor.VM
open Go
set_option linter.unusedVariables false
set_option linter.unusedSectionVars false
set_option linter.unusedSimpArgs false
set_option maxRecDepth 20000
noncomputable section
attribute [local instance] syZ
theorem same_bk {h:Hp} {sz len:Nat} {v:V} {cs:List V} (r:Rd h sz v len cs) (k:Prop):(Pu EE).same (.agg [v]) (.agg [v]) k↔k:=by
 show (zd9 _ _=true∧k)↔k
 have:zd9 (.agg [v]) (.agg [v])=true:=by
  show zkl [v] [v]=true
  rcases r.at_ with ⟨rfl | rfl,_⟩ | ⟨b,off,vs,_,_,⟨c,rfl⟩ | ⟨lo,z,rfl⟩⟩ <;> simp [zkl,zkf]
 simp [this]
theorem same_str1 (s:List Nat) (k:Prop):(Pu EE).same (.str s) (.str s) k↔k:=by
 show (zd9 _ _=true∧k)↔k
 have:zd9 (.str s) (.str s)=true:=by simp [zd9,zkf,zci]
 simp [this]
theorem findZ_at {bk:Bok} {nm:List Nat} {i:Nat} (h:zcm bk nm 0=some i):zkn bk nm=(i:Int):=by unfold zkn; rw [h]
theorem cycG_snoc {bk:Bok} {l:List Spt} {g:Grd} {i:Nat} {s:Spt} (h:l[i]? = some s):cycG bk (l.take (i+1)) g=putS bk (cycG bk (l.take i) g) s (vlE 6):=by
 unfold cycG
 rw [zcF h,List.foldl_append]; rfl
theorem ordG_snoc {bk:Bok} {l:List Spt} {g:Grd} {i:Nat} {s:Spt} (h:l[i]? = some s):ordG bk (l.take (i+1)) g=putS bk (ordG bk (l.take i) g) s (evF bk (ordG bk (l.take i) g) s):=by
 unfold ordG
 rw [zcF h,List.foldl_append]; rfl
theorem putS_at {bk:Bok} {g:Grd} {s:Spt} {v:Vl} {i:Nat} (h:zcm bk s.s 0=some i):putS bk g s v=setG g i s.r s.c v:=by unfold putS; rw [h]
section
variable {bk:Bok} {M N b1:Nat} {sv gv ov cv:V} {B:Nat→Nat→Nat} {sp:Nat→Prop} {O C:List Spt} {h0:Hp} (Q:V→Hp→Prop)
theorem cyc_loop4 {g0:Grd} (gd:Good bk) (hl:bk.length < 1000000) (hC:∀ s ∈ C,s ∈ zJ bk) (hCl:C.length < 1000000)
  (hq:∀ h',VS bk M N b1 sv gv B sp (cycG bk C g0) h'→OwnS 0 h' ov O→Ext N h0 h'→zgs Q (.ptr b1 0) gv ov (.int .i64 O.length) (.int .i64 0) h'):
  ∀ (j i:Nat),C.length - i=j→i≤C.length→∀ h:Hp,VS bk M N b1 sv gv B sp (cycG bk (C.take i) g0) h→OwnS 0 h ov O→OwnS 0 h cv C→Ext N h0 h→zjy Q (.ptr b1 0) gv ov cv (.int .i64 C.length) (.int .i64 i) h:=by
 intro j
 induction j with
 | zero=>
  intro i hj hi h a oO oC x
  obtain rfl:i=C.length:=by omega
  rw [List.take_of_length_le (Nat.le_refl _)] at a
  apply zjP
  unfold zd7
  rw [zr,decide_eq_false (by omega:¬ C.length < C.length),zb,zp oO.sps zg]
  exact hq h a oO x
 | succ j ih=>
  intro i hj hi h a oO oC x
  have hii:i < C.length:=by omega
  obtain ⟨s,hs⟩:∃ s,C[i]? = some s:=⟨_,List.getElem?_eq_getElem hii⟩
  obtain ⟨i0,t,row,k1,k2,k3,k4,k5⟩:=at_spot gd.ris (hC s (List.mem_of_getElem? hs))
  obtain ⟨vr,hat,hvl⟩:=a.fits.at2 k2 k4
  obtain ⟨b2,o2,m1,m2,_⟩:=zaT oC.sps zg zf hs
  apply zjP
  unfold zd7
  rw [zr,decide_eq_true hii,zc,m1,m2]
  refine zq zf fun h5 b6 w5=>?_
  have n5:=w5.n
  have e5:=w5.b
  refine zC zf w5.at_ (x:=spV s) rfl rfl (r:=spC s) rfl fun h7 w7=>?_
  have n7:=w7.n
  have X7:Ext h.n h h7:=⟨by omega,fun c hc=>by rw [w7.other c (by omega),w5.old c hc]⟩
  have a7:=a.keep X7
  rw [zd zy a7.box (l:=[sv]) rfl,z8,za zL w7.at_ (v:=.str s.s) rfl,zae,za zm w7.at_ (v:=.int .i64 s.r) rfl,zac,za zm w7.at_ (v:=.int .i64 s.c) rfl]
  refine (zkc M h7 _ bk s.s ⟨sv,rfl,a7.sh⟩ (Nat.le_trans a7.mN a7.nh) hl).mono ?_
  rintro y h16 ⟨rfl,x16⟩
  have n16:=x16.n
  have hb16:h16.t.get b6=some (.cells (spC s) 42 false):=(x16.old b6 (by omega)).trans w7.at_
  have a16:=a7.keep x16
  obtain ⟨q1,q2,q3,q4,q5,q6,l1,l2,l3,l4,l5,l6,l7,l8,l9,⟨_,_,r1⟩,⟨_,_,r2⟩,⟨_,_,r3⟩,_,_⟩:=a16.gr.row2 hat
  rw [za zm hb16 (v:=.int .i64 s.c) rfl,zab,za zm hb16 (v:=.int .i64 s.r) rfl,zab,findZ_at k1,l1,l2,l3,l4]
  refine (err_ok 6 6 rfl h16).mono ?_
  rintro y h24 ⟨rfl,x24⟩
  have n24:=x24.n
  have hb24:h24.t.get b6=some (.cells (spC s) 42 false):=(x24.old b6 (by omega)).trans hb16
  have a24:=a16.keep x24
  rw [zaF (x24.old _ l8),l4,zbt r3,zaF (x24.old _ l7),l2,zbt r2,za zm hb24 (v:=.int .i64 s.c) rfl,zab,za zm hb24 (v:=.int .i64 s.r) rfl,zab,zcT l5 (by omega)]
  have X24:Ext h.n h h24:=X7.trans ((x16.mono (by omega)).trans (x24.mono (by omega)))
  refine a24.set hat (by omega) may6 (oO.keep (by omega) fun b hb=>X24.old b (oO.in_ b hb)) (oC.keep (by omega) fun b hb=>X24.old b (oC.in_ b hb)) fun h30 a30 oO30 oC30 n30 _ f30=>?_
  rw [zK _ _ _ _ (by omega)]
  refine ih (i+1) (by omega) (by omega) h30 ?_ oO30 oC30 ?_
  ·rw [cycG_snoc hs,putS_at k1]; exact a30
  ·exact x.trans ((X24.mono a.nh).trans ⟨by omega,f30⟩)
theorem ord_loop5 {g0:Grd} (gd:Good bk) (tx:TextsIn bk) (hl:bk.length < 1000000) (hco:zbQ bk) (hO:∀ s ∈ O,s ∈ zt bk) (hOl:O.length < 1000000)
  (hq:∀ h',VS bk M N b1 sv gv B sp (ordG bk O g0) h'→Ext N h0 h'→Q gv h'):
  ∀ (j i:Nat),O.length - i=j→i≤O.length→∀ h:Hp,VS bk M N b1 sv gv B sp (ordG bk (O.take i) g0) h→OwnS 0 h ov O→Ext N h0 h→zgs Q (.ptr b1 0) gv ov (.int .i64 O.length) (.int .i64 i) h:=by
 intro j
 induction j with
 | zero=>
  intro i hj hi h a oO x
  obtain rfl:i=O.length:=by omega
  rw [List.take_of_length_le (Nat.le_refl _)] at a
  apply zjl
  unfold zdL
  rw [zr,decide_eq_false (by omega:¬ O.length < O.length),zb]
  exact hq h a x
 | succ j ih=>
  intro i hj hi h a oO x
  have hii:i < O.length:=by omega
  obtain ⟨s,hs⟩:∃ s,O[i]? = some s:=⟨_,List.getElem?_eq_getElem hii⟩
  have hsF:=hO s (List.mem_of_getElem? hs)
  obtain ⟨i0,t,row,k1,k2,k3,k4,k5⟩:=at_spot gd.ris (zhm hsF).1
  obtain ⟨ns,hns⟩:=fCells_nks hsF
  have htx:=getC_in tx s
  have hnL:ns ∈ ziA:=List.mem_filterMap.2 ⟨_,htx,hns⟩
  obtain ⟨vr,hat,hvl⟩:=a.fits.at2 k2 k4
  obtain ⟨b2,o2,m1,m2,_⟩:=zaT oO.sps zg zf hs
  apply zjl
  unfold zdL
  rw [zr,decide_eq_true hii,zc,m1,m2]
  refine zq zf fun h5 b6 w5=>?_
  have n5:=w5.n
  have e5:=w5.b
  refine zC zf w5.at_ (x:=spV s) rfl rfl (r:=spC s) rfl fun h7 w7=>?_
  have n7:=w7.n
  have X7:Ext h.n h h7:=⟨by omega,fun c hc=>by rw [w7.other c (by omega),w5.old c hc]⟩
  have a7:=a.keep X7
  rw [zd zy a7.box (l:=[sv]) rfl,zd zf w7.at_ (l:=spC s) rfl]
  refine (pget_ok M h7 _ bk s ⟨sv,rfl,a7.sh⟩ (Nat.le_trans a7.mN a7.nh) hl).mono ?_
  rintro y h11 ⟨rfl,x11⟩
  have n11:=x11.n
  refine (form_okB hook_F htx h11).mono ?_
  rintro y h13 ⟨x13,hf⟩
  rw [hns] at hf
  obtain ⟨rfl,nb,nn⟩:=hf
  have n13:=x13.n
  have hb13:h13.t.get b6=some (.cells (spC s) 42 false):=by rw [x13.old b6 (by omega),x11.old b6 (by omega)]; exact w7.at_
  have a13:=(a7.keep x11).keep x13
  obtain ⟨_,hrs⟩:=a13.sh.rd
  rw [zao,zam,zd zy a13.box (l:=[sv]) rfl,z8,za zL hb13 (v:=.str s.s) rfl,zae,za zm hb13 (v:=.int .i64 s.r) rfl,zac,za zm hb13 (v:=.int .i64 s.c) rfl,z8,za zL hb13 (v:=.str s.s) rfl,zd zy a13.box (l:=[sv]) rfl]
  refine (zkc M h13 _ bk s.s ⟨sv,rfl,a13.sh⟩ (Nat.le_trans a13.mN a13.nh) hl).mono ?_
  rintro y h27 ⟨rfl,x27⟩
  have n27:=x27.n
  have hb27:h27.t.get b6=some (.cells (spC s) 42 false):=(x27.old b6 (by omega)).trans hb13
  have a27:=a13.keep x27
  obtain ⟨q1,q2,q3,q4,q5,q6,l1,l2,l3,l4,l5,l6,l7,l8,l9,⟨_,_,r1⟩,⟨_,_,r2⟩,⟨_,_,r3⟩,_,_⟩:=a27.gr.row2 hat
  rw [zd zy a27.box (l:=[sv]) rfl,same_bk hrs,za zL hb27 (v:=.str s.s) rfl,same_str1,za zm hb27 (v:=.int .i64 s.c) rfl,zab,za zm hb27 (v:=.int .i64 s.r) rfl,zab,findZ_at k1,l1,l2,l3,l4]
  have cx:NCx M h11.n ns sv gv bk (ordG bk (O.take i) g0) h27:=⟨a27.ev hl,(NdC.mk nb nn).ext x27⟩
  have hm:=may_evS s.s hnL hco cx
  refine (eval_ok s.s hnL hco cx).mono ?_
  rintro y h37 ⟨rfl,x37⟩
  have n37:=x37.n
  have hb37:h37.t.get b6=some (.cells (spC s) 42 false):=(x37.old b6 (by omega)).trans hb27
  have a37:=a27.keep x37
  rw [zaF (x37.old _ l8),l4,zbt r3,zaF (x37.old _ l7),l2,zbt r2,za zm hb37 (v:=.int .i64 s.c) rfl,zab,za zm hb37 (v:=.int .i64 s.r) rfl,zab,zcT l5 (by omega)]
  have X37:Ext h.n h h37:=X7.trans ((x11.mono (by omega)).trans ((x13.mono (by omega)).trans ((x27.mono (by omega)).trans (x37.mono (by omega)))))
  have o37:OwnS 0 h37 ov O:=oO.keep (by omega) fun b hb=>X37.old b (oO.in_ b hb)
  refine a37.set hat (by omega) hm o37 o37 fun h43 a43 oO43 _ n43 _ f43=>?_
  rw [zK _ _ _ _ (by omega)]
  refine ih (i+1) (by omega) (by omega) h43 ?_ oO43 ?_
  ·rw [ordG_snoc hs,putS_at k1]
   unfold evF
   rw [hns]
   exact a43
  ·exact x.trans ((X37.mono a.nh).trans ⟨by omega,f43⟩)
end
def ValsPost (bk:Bok) (h:Hp) (x:V) (h':Hp):Prop:=∃ N B sp,h.n≤N∧N≤h'.n∧GridG N h' x (valsG bk) B sp∧Fits2 bk (valsG bk)∧MayG (valsG bk)∧Ext h.n h h'
theorem values_ok (M:Nat) (h:Hp) (sv:V) (bk:Bok) (hs:zdB M h sv bk) (hM:M≤h.n) (gd:Good bk) (my:Mays bk) (few:∀ s ∈ zt bk,Few bk s) (sm:Sm bk) (hco:zbQ bk):Ans EE 8 [.agg [sv]] h (ValsPost bk h):=by
 obtain ⟨cs,hrd⟩:=hs.rd
 have cS:=hrd.c1
 have hS:=sm.len
 have hFl:=zcE gd
 apply a_calc_Values
 unfold zfY
 refine zW (cs:=[sv]) (by simp [zh,cS.2]) fun h2 b1 w2=>?_
 have n2:=w2.n
 have e2:=w2.b
 rw [zd zy w2.at_ (l:=[sv]) rfl]
 have hs2:=hs.ext (w2.ext hM)
 refine (pmay_ok M h2 _ bk ⟨sv,rfl,hs2⟩ (by omega) my).mono ?_
 rintro y h6 ⟨rfl,x6⟩
 have n6:=x6.n
 have hb6:h6.t.get b1=some (.cells [sv] 26 false):=by rw [x6.old b1 (by omega)]; exact w2.at_
 have hs6:=hs2.ext (x6.mono (by omega))
 rw [zaE,Bool.not_true,zb,zw,za zk hb6 (v:=sv) rfl,zp hrd zl]
 refine pu_mkslX zaa zap hS fun h12 bo w12=>?_
 have n12:=w12.n
 have e12:=w12.b
 have hb12:h12.t.get b1=some (.cells [sv] 26 false):=by rw [w12.old b1 (by omega)]; exact hb6
 rw [zw,za zk hb12 (v:=sv) rfl,zp hrd zl]
 have hs12:=hs6.ext (w12.ext (Nat.le_trans hM (by omega)))
 have X12:Ext h.n h h12:=(w2.ext (Nat.le_refl _)).trans ((x6.mono (by omega)).trans (w12.ext (by omega)))
 refine sheet_loop1 _ (M:=M) (bo:=bo) sm rfl (by omega) (by omega) (by omega) hb12 hs12 (fun h1 ws B sp hn hf hbo hwl hG=>?_) bk.length 0 (by omega) (Nat.zero_le _) h12 (List.replicate bk.length .nils) (fun _ _=>0) (fun _=>False) (Nat.le_refl _) (fun _ _ _=>rfl) w12.at_ (by rw [List.length_replicate]) (by rw [List.take_zero]; exact GrO.nil _ _ _ _ _)
 have hGG:GridG h12.n h1 (.sl bo 0 bk.length bk.length) (zbg bk) B (fun b=>sp b∨zI (.sl bo 0 bk.length bk.length)=some b):=by
  have hpl:(zbg bk).length=bk.length:=by unfold zbg; rw [List.length_map]
  refine hG.grid ⟨by rw [hpl,Nat.mul_one]; exact hwl,.inr ⟨bo,0,ws,zcH hbo,by rw [hpl,Nat.mul_one]; exact sub_all hwl,.inl ⟨bk.length,by rw [hpl]⟩⟩⟩ (Nat.le_refl _) fun b hb=>?_
  cases hb
  refine ⟨by omega,fun i r row a e=>?_⟩
  have:=(hG.lt i r row a).1
  omega
 have hb1:h1.t.get b1=some (.cells [sv] 26 false):=(hf b1 (by omega) (by omega)).trans hb12
 have hs1:zdB M h1 sv bk:=hs12.ext ⟨hn,fun b hb=>hf b (by omega) (by omega)⟩
 have V1:VS bk M h12.n b1 sv (.sl bo 0 bk.length bk.length) B _ (zbg bk) h1:=⟨hb1,by omega,hs1,hGG,by omega,hn,Fits2.plain bk,MayG.plain sm.txt⟩
 apply zjr
 unfold zd5
 rw [zr,decide_eq_false (by omega:¬ bk.length < bk.length),zb,zd zy hb1 (l:=[sv]) rfl]
 refine (dorder_own M h1 _ bk ⟨sv,rfl,hs1⟩ (by omega) gd my few).mono ?_
 rintro y h21 ⟨ov,cv,rfl,oO,oC,x21⟩
 have n21:=x21.n
 rw [zao,zam,zp oC.sps zg]
 have V21:=V1.keep x21
 have hlens:(ordL bk).length+(cycL bk).length≤100000:=by
  have:=(zgd (nd:=ndR bk) (zt bk).length (zt bk) (Nat.le_refl _)).length_eq
  rw [List.length_append] at this
  unfold ordL cycL
  omega
 have X1:Ext h.n h12 h1:=⟨hn,fun b hb=>hf b (by omega) (by omega)⟩
 have XA:Ext h.n h h21:=X12.trans (X1.trans (x21.mono (by omega)))
 refine cyc_loop4 (h0:=h21) _ (C:=cycL bk) (O:=ordL bk) gd (by omega) (fun s hs=>(zhm (cycL_in hs)).1) (by omega) (fun h' V' o' x'=>?_) (cycL bk).length 0 (by omega) (Nat.zero_le _) h21 V21 oO oC (Ext.refl _ _)
 refine ord_loop5 (h0:=h21) _ (O:=ordL bk) gd sm.txt (by omega) hco (fun s hs=>ordL_in hs) (by omega) (fun h'' V'' x''=>?_) (ordL bk).length 0 (by omega) (Nat.zero_le _) h' V' o' x'
 exact ⟨_,_,_,by omega,V''.nh,V''.gr,V''.fits,V''.may,XA.trans (x''.mono (by omega))⟩
end
end Go.Proofs.YtbchdlelmkmagaaGreatDoor.VM
namespace Go.Proofs.YtbchdlelmkmagaaGreatDoor.VM
open Go
set_option linter.unusedVariables false
set_option linter.unusedSectionVars false
set_option linter.unusedSimpArgs false
set_option maxRecDepth 20000
noncomputable section
attribute [local instance] syZ
theorem append_one {N:Nat} {h:Hp} {v:V} {len:Nat} {ws:List V} {t e:Nat} {z:List V} (ht:IsSl EE t e) (he:El EE e 1 z false) (o:Own N h v e 1 len ws) (w:V) (hc:C1 w) (hlen:len+1≤1048576) (hN:N≤h.n) (q:V→Hp→Prop)
  (hq:∀ v' h',Own N h' v' e 1 (len+1) (ws++[w])→Ext N h h'→(∀ c,c < h.n→zI v ≠ some c→h'.t.get c=h.t.get c)→(∀ c,zI v'=some c→zI v=some c∨h.n≤c)→q v' h'):
  (Pu EE).bsl h t 1 [(0,w)] fun x h1 _=>(Pu EE).ebui h1 #[t,t] .append [v,x] q:=by
 rw [zcL ht he _ (by rw [hc.1]; rfl) (by omega)]
 have o1:Own N (h.new (.cells w.cells e false)) v e 1 len ws:=o.keep (Nat.le_succ _) (fun c hc=>by rw [Hp.get_new,if_neg (Nat.ne_of_lt (o.in_ c hc))])
 refine app_all o1 ht he (zfu (h:=h) (e:=e) (ws:=w.cells) (by rw [hc.1]; rfl)).rd (by rw [hc.1]; simp [zh,hc.2]) hlen (Nat.le_succ_of_le hN) fun v' h' o2 x2 f2 b2=>hq v' h' ?_ ((Ext.new hN _).trans x2) (fun c hc hne=>?_) (fun c hc=>?_)
 ·rw [hc.1] at o2; exact o2
 ·rw [f2 c (Nat.lt_succ_of_lt hc) hne,Hp.get_new,if_neg (Nat.ne_of_lt hc)]
 ·rcases b2 c hc with h6 | h6
  ·exact .inl h6
  ·exact .inr (Nat.le_of_succ_le h6)
theorem rcell_loop3 (Q:V→Hp→Prop) {M b1 i r:Nat} {h0:Hp} {sv v3 v5:V} {bk:Bok} {t:Sht} {row:List (List Nat)} (ht:bk[i]? = some t) (hrow:t.rows[r]? = some row) (hC:row.length≤16) (htx:∀ x ∈ row,x ∈ zcR)
  (box:h0.t.get b1=some (.cells [sv] 26 false)) (l1:b1 < h0.n) (hs:zdB M h0 sv bk) (hM:M≤h0.n)
  (hq:∀ h' v7,OwnV h0.n h' v7 (zbr row)→Ext h0.n h0 h'→zic Q (.ptr b1 0) v3 (.int .i64 i) v5 (.int .i64 r) v7 (.int .i64 row.length) h'):
  ∀ (j c:Nat),row.length - c=j→c≤row.length→∀ (h:Hp) (v7:V),OwnV h0.n h v7 ((zbr row).take c)→Ext h0.n h0 h→zic Q (.ptr b1 0) v3 (.int .i64 i) v5 (.int .i64 r) v7 (.int .i64 c) h:=by
 have hpl:(zbr row).length=row.length:=by unfold zbr; rw [List.length_map]
 intro j
 induction j with
 | zero=>
  intro c hj hc h v7 o x
  obtain rfl:c=row.length:=by omega
  rw [List.take_of_length_le (by omega)] at o
  exact hq h v7 o x
 | succ j ih=>
  intro c hj hc h v7 o x
  have hcC:c < row.length:=by omega
  have n0:=x.n
  obtain ⟨s,hs_⟩:∃ s,row[c]? = some s:=⟨_,List.getElem?_eq_getElem hcC⟩
  have hb:h.t.get b1=some (.cells [sv] 26 false):=(x.old b1 l1).trans box
  obtain ⟨b2,o2,rv,g1,g2,g3,vs,f,ro,g4,g5⟩:=zbu (hs.ext (x.mono hM)) zl zH ht
  obtain ⟨b3,o3,w,m1,m2,m3⟩:=zbU g3 zn zaz hrow
  obtain ⟨b4,o4,p1,p2⟩:=row_get m3 z7 zL hs_
  apply r_r7_Values_3
  unfold zfB
  rw [zw,za zk hb (v:=sv) rfl,g1,zG,za zD g4 (g5 2 _ rfl),m1,m2,zp m3.1 z7,zr,decide_eq_true hcC,zc,zw,za zk hb (v:=sv) rfl,g1,zG,za zD g4 (g5 2 _ rfl),m1,m2,p1,p2]
  refine (plain_ok hook_plB (htx s (List.mem_of_getElem? hs_)) h).mono ?_
  rintro y h2 ⟨rfl,x2⟩
  have n2:=x2.n
  have o':OwnV h0.n h2 v7 ((zbr row).take c):=o.keep n2 fun b hb=>x2.old b (o.in_ b hb)
  refine append_val o' (zgx s) (by rw [List.length_take]; omega) (by omega) _ fun v' h' o'' x'' _ _=>?_
  have n'':=x''.n
  rw [zK _ _ _ _ (by omega)]
  have hx:(zbr row)[c]? = some (zgx s):=by unfold zbr; rw [List.getElem?_map,hs_]; rfl
  refine ih (c+1) (by omega) (by omega) h' v' ?_ (x.trans ((x2.mono n0).trans x''))
  rw [zcF hx]; exact o''
theorem rrow_loop2 (Q:V→Hp→Prop) {M b1 i:Nat} {h0:Hp} {sv v3:V} {bk:Bok} {t:Sht} (ht:bk[i]? = some t) (hR:t.rows.length≤16) (hrows:∀ row ∈ t.rows,0 < row.length∧row.length≤16) (htx:∀ row ∈ t.rows,∀ x ∈ row,x ∈ zcR)
  (box:h0.t.get b1=some (.cells [sv] 26 false)) (l1:b1 < h0.n) (hs:zdB M h0 sv bk) (hM:M≤h0.n)
  (hq:∀ h' v5 us B,Own h0.n h' v5 39 1 t.rows.length us→LeafR h0.n h'.n h' us (zb7 t) B→(∀ q,q < t.rows.length→zI v5 ≠ some (B q))→Ext h0.n h0 h'→zhN Q (.ptr b1 0) v3 (.int .i64 i) v5 (.int .i64 t.rows.length) h'):
  ∀ (j r:Nat),t.rows.length - r=j→r≤t.rows.length→∀ (h:Hp) (v5:V) (us:List V) (B:Nat→Nat),Own h0.n h v5 39 1 r us→LeafR h0.n h.n h us ((zb7 t).take r) B→(∀ q,q < r→zI v5 ≠ some (B q))→Ext h0.n h0 h→zhN Q (.ptr b1 0) v3 (.int .i64 i) v5 (.int .i64 r) h:=by
 have hpl:(zb7 t).length=t.rows.length:=by unfold zb7; rw [List.length_map]
 intro j
 induction j with
 | zero=>
  intro r hj hr h v5 us B o hL hne x
  obtain rfl:r=t.rows.length:=by omega
  rw [List.take_of_length_le (by omega)] at hL
  exact hq h v5 us B o hL hne x
 | succ j ih=>
  intro r hj hr h v5 us B o hL hne x
  have hrR:r < t.rows.length:=by omega
  have n0:=x.n
  obtain ⟨row,hrow⟩:∃ row,t.rows[r]? = some row:=⟨_,List.getElem?_eq_getElem hrR⟩
  have hmem:=List.mem_of_getElem? hrow
  obtain ⟨hC0,hC⟩:=hrows row hmem
  have hb:h.t.get b1=some (.cells [sv] 26 false):=(x.old b1 l1).trans box
  have hs':=hs.ext (x.mono hM)
  obtain ⟨b2,o2,rv,g1,g2,g3,vs,f,ro,g4,g5⟩:=zbu hs' zl zH ht
  obtain ⟨_,hrd⟩:=g3.rd
  apply r_r7_Values_2
  unfold zfJ
  rw [zw,za zk hb (v:=sv) rfl,g1,zG,za zD g4 (g5 2 _ rfl),zp hrd zn,zr,decide_eq_true hrR,zc]
  refine rcell_loop3 Q (M:=M) (h0:=h) ht hrow hC (htx row hmem) hb (by omega) hs' (by omega) (fun h1 v7 o7 x1=>?_) row.length 0 (by omega) (Nat.zero_le _) h .nils (by rw [List.take_zero]; exact Own.nil _ _ _ _) (Ext.refl _ _)
  have n1:=x1.n
  have hb1:h1.t.get b1=some (.cells [sv] 26 false):=(x1.old b1 (by omega)).trans hb
  obtain ⟨b2,o2,rv,g1,g2,g3,vs,f,ro,g4,g5⟩:=zbu (hs'.ext (x1.mono (by omega))) zl zH ht
  obtain ⟨b3,o3,w,m1,m2,m3⟩:=zbU g3 zn zaz hrow
  apply r_r7_Values_3
  unfold zfB
  rw [zw,za zk hb1 (v:=sv) rfl,g1,zG,za zD g4 (g5 2 _ rfl),m1,m2,zp m3.1 z7,zr,decide_eq_false (by omega:¬ row.length < row.length),zb]
  have hv5:∀ b,zI v5=some b→b < h.n:=o.in_
  have o1:Own h0.n h1 v5 39 1 r us:=o.keep n1 fun b hb=>x1.old b (hv5 b hb)
  refine append_one zaC zN o1 v7 o7.rd.c1 (by omega) (by omega) _ fun v5' h2 ow x2 fr nb=>?_
  have n2:=x2.n
  rw [zK _ _ _ _ (by omega)]
  have hpr:(zbr row).length=row.length:=by unfold zbr; rw [List.length_map]
  obtain ⟨b,q1,q2,q3,q4⟩:∃ b,h.n≤b∧b < h1.n∧h1.t.get b=some (.cells (vlCs (zbr row)) 48 false)∧LeafV b (zbr row).length v7:=by
   rcases o7.at_ with ⟨_,e⟩ | ⟨b,q1,q2,q3,q4⟩
   ·omega
   ·exact ⟨b,q1,q2,q3,q4.symm⟩
  have hus:us.length=r:=by have:=o.sized; omega
  have hx:(zb7 t)[r]? = some (zbr row):=by unfold zb7; rw [List.getElem?_map,hrow]; rfl
  have hLl:((zb7 t).take r).length=r:=by rw [List.length_take]; omega
  have hL2:LeafR h0.n h.n h2 (us++[v7]) ((zb7 t).take r) B:=by
   refine hL.keep (Nat.le_refl _) (fun q hq=>?_) (fun q hq=>?_)
   ·rw [List.getElem?_append_left (by omega)]
   ·have:=hL.lt q hq
    rw [fr (B q) (by omega) (hne q (by omega)),x1.old (B q) (by omega)]
  have hL3:=hL2.grow (U':=h2.n) (u:=v7) (b:=b) (row:=zbr row) (by rw [hLl,← hus,List.getElem?_append_right (Nat.le_refl _),Nat.sub_self]; rfl) q4 (by rw [fr b q2 fun e=>by have:=hv5 b e; omega]; exact q3) (by omega) q1 (by omega)
  rw [← zcF hx] at hL3
  refine ih (r+1) (by omega) (by omega) h2 v5' _ _ ow hL3 (fun q hq e=>?_) (x.trans ((x1.mono n0).trans x2))
  rw [hLl] at e
  by_cases eq:q=r
  ·rw [if_pos eq] at e
   rcases nb _ e with e | e
   ·have:=hv5 b e; omega
   ·omega
  ·rw [if_neg eq] at e
   rcases nb _ e with e | e
   ·exact hne q (by omega) e
   ·have:=(hL.lt q (by omega)).2; omega
theorem rsheet_loop1 (Q:V→Hp→Prop) {M b1:Nat} {h0:Hp} {bk:Bok} {sv:V} (sm:Sm bk) (box:h0.t.get b1=some (.cells [sv] 26 false)) (l1:b1 < h0.n) (hs:zdB M h0 sv bk) (hM:M≤h0.n)
  (hq:∀ h' v3 ws B sp,Own h0.n h' v3 35 1 bk.length ws→GrO h0.n h'.n h' ws (zbg bk) B sp→(∀ c,zI v3=some c→¬ sp c∧∀ i r row,At2 (zbg bk) i r row→B i r ≠ c)→Ext h0.n h0 h'→zh4 Q (.ptr b1 0) v3 (.int .i64 bk.length) h'):
  ∀ (j i:Nat),bk.length - i=j→i≤bk.length→∀ (h:Hp) (v3:V) (ws:List V) (B:Nat→Nat→Nat) (sp:Nat→Prop),Own h0.n h v3 35 1 i ws→GrO h0.n h.n h ws ((zbg bk).take i) B sp→(∀ c,zI v3=some c→¬ sp c∧∀ a r row,At2 ((zbg bk).take i) a r row→B a r ≠ c)→Ext h0.n h0 h→zh4 Q (.ptr b1 0) v3 (.int .i64 i) h:=by
 have hS:=sm.len
 have hpl:(zbg bk).length=bk.length:=by unfold zbg; rw [List.length_map]
 intro j
 induction j with
 | zero=>
  intro i hj hi h v3 ws B sp o hG hne x
  obtain rfl:i=bk.length:=by omega
  rw [List.take_of_length_le (by omega)] at hG hne
  exact hq h v3 ws B sp o hG hne x
 | succ j ih=>
  intro i hj hi h v3 ws B sp o hG hne x
  have hiS:i < bk.length:=by omega
  have n0:=x.n
  obtain ⟨t,ht⟩:∃ t,bk[i]? = some t:=⟨_,List.getElem?_eq_getElem hiS⟩
  have hmem:=List.mem_of_getElem? ht
  obtain ⟨r1,r2,r3⟩:=sm.rows t hmem
  have hb:h.t.get b1=some (.cells [sv] 26 false):=(x.old b1 l1).trans box
  have hs':=hs.ext (x.mono hM)
  obtain ⟨cs,hrd⟩:=hs'.rd
  apply r_r7_Values_1
  unfold zfz
  rw [zw,za zk hb (v:=sv) rfl,zp hrd zl,zr,decide_eq_true hiS,zc]
  refine rrow_loop2 Q (M:=M) (h0:=h) ht r2 r3 (fun row hr s hs=>sm.txt t hmem row hr s hs) hb (by omega) hs' (by omega) (fun h1 v5 us B' o5 hL hne5 x1=>?_) t.rows.length 0 (by omega) (Nat.zero_le _) h .nils [] (fun _=>0) (Own.nil _ _ _ _) (by rw [List.take_zero]; exact LeafR.nil _ _ _ _ _) (fun q hq=>by omega) (Ext.refl _ _)
  have n1:=x1.n
  have hb1:h1.t.get b1=some (.cells [sv] 26 false):=(x1.old b1 (by omega)).trans hb
  obtain ⟨b2,o2,rv,g1,g2,g3,vs,f,ro,g4,g5⟩:=zbu (hs'.ext (x1.mono (by omega))) zl zH ht
  obtain ⟨_,hrd2⟩:=g3.rd
  apply r_r7_Values_2
  unfold zfJ
  rw [zw,za zk hb1 (v:=sv) rfl,g1,zG,za zD g4 (g5 2 _ rfl),zp hrd2 zn,zr,decide_eq_false (by omega:¬ t.rows.length < t.rows.length),zb]
  have hv3:∀ b,zI v3=some b→b < h.n:=o.in_
  have hv5:∀ b,zI v5=some b→h.n≤b∧b < h1.n:=fun b hb=>⟨o5.ge b hb,o5.in_ b hb⟩
  have o1:Own h0.n h1 v3 35 1 i ws:=o.keep n1 fun b hb=>x1.old b (hv3 b hb)
  refine append_one zaa zap o1 v5 o5.rd.c1 (by omega) (by omega) _ fun v3' h2 ow x2 fr nb=>?_
  have n2:=x2.n
  rw [zK _ _ _ _ (by omega)]
  have hus:ws.length=i:=by have:=o.sized; omega
  have hx:(zbg bk)[i]? = some (zb7 t):=by unfold zbg; rw [List.getElem?_map,ht]; rfl
  have hGl:((zbg bk).take i).length=i:=by rw [List.length_take]; omega
  have hHl:(zb7 t).length=t.rows.length:=by unfold zb7; rw [List.length_map]
  have G1:GrO h0.n h.n h2 (ws++[v5]) ((zbg bk).take i) B sp:=by
   refine hG.keep (Nat.le_refl _) (fun q hq=>?_) (fun b hb=>?_) (fun a r row q=>?_)
   ·rw [List.getElem?_append_left (by omega)]
   ·have:=hG.sl b hb
    rw [fr b (by omega) fun e=>(hne b e).1 hb,x1.old b (by omega)]
   ·have:=hG.lt a r row q
    rw [fr _ (by omega) fun e=>(hne _ e).2 a r row q rfl,x1.old _ (by omega)]
  have R5:Rd h2 1 v5 (zb7 t).length us:=by
   rw [hHl]
   refine o5.rd.same fun c hc=>?_
   have:=hv5 c hc
   exact fr c (by omega) fun e=>by have:=hv3 c e; omega
  have L2:LeafR h.n h2.n h2 us (zb7 t) B':=by
   refine hL.keep (by omega) (fun _ _=>rfl) (fun q hq=>?_)
   have:=hL.lt q hq
   exact fr _ (by omega) fun e=>by have:=hv3 _ e; omega
  have G2:=G1.grow (U':=h2.n) (M:=h.n) (w:=v5) (rows:=zb7 t) (us:=us) (Bc:=B') (by rw [hGl,← hus,List.getElem?_append_right (Nat.le_refl _),Nat.sub_self]; rfl) R5 L2 n0 (Nat.le_refl _) (by omega) (fun b hb=>by have:=hv5 b hb; omega) (fun r hr=>hne5 r (by omega))
  rw [← zcF hx] at G2
  refine ih (i+1) (by omega) (by omega) h2 v3' _ _ _ ow G2 (fun c hc=>?_) (x.trans ((x1.mono n0).trans x2))
  have cut:∀ a r row,At2 ((zbg bk).take (i+1)) a r row→(At2 ((zbg bk).take i) a r row∧a < i)∨(a=i∧(zb7 t)[r]? = some row):=fun a r row q=>by
   rw [zcF hx] at q
   have:=q.app
   rwa [hGl] at this
  rcases nb c hc with e | e
  ·have hc3:=hv3 c e
   obtain ⟨k1,k2⟩:=hne c e
   refine ⟨fun q=>?_,fun a r row q=>?_⟩
   ·rcases q with q | q
    ·exact k1 q
    ·have:=hv5 c q; omega
   ·rw [hGl]
    rcases cut a r row q with ⟨c1,ha⟩ | ⟨rfl,c1⟩
    ·rw [if_neg (by omega)]; exact k2 a r row c1
    ·rw [if_pos rfl]
     have:=(hL.lt r (List.getElem?_eq_some_iff.1 c1).1).1
     omega
  ·refine ⟨fun q=>?_,fun a r row q=>?_⟩
   ·rcases q with q | q
    ·have:=(hG.sl c q).2; omega
    ·have:=hv5 c q; omega
   ·rw [hGl]
    rcases cut a r row q with ⟨c1,ha⟩ | ⟨rfl,c1⟩
    ·rw [if_neg (by omega)]
     have:=(hG.lt a r row c1).2
     omega
    ·rw [if_pos rfl]
     have:=(hL.lt r (List.getElem?_eq_some_iff.1 c1).1).2
     omega
end
end Go.Proofs.YtbchdlelmkmagaaGreatDoor.VM
