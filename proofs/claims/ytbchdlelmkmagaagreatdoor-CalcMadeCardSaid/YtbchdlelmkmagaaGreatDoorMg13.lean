/- CmJ CmK CmA DpV DpW DpX DpY DpYa CmN CmO CmP CmQ CmR CmS -/
import Derived.Test.YtbchdlelmkmagaaGreatDoorMg12
namespace Go.Proofs.YtbchdlelmkmagaaGreatDoor.VM
open Go
set_option linter.unusedVariables false
set_option linter.unusedSectionVars false
set_option linter.unusedSimpArgs false
set_option maxRecDepth 20000
noncomputable section
attribute [local instance] syZ
theorem pu_callb {f:Nat} {r:V} {h:Hp} {k:V→Hp→Prop} (H:Ans EE f [r] h k):(Pu EE).callv (.fn (.func f) [r] []) [] h k:=⟨(f,[r]),by simp [target],H⟩
structure AD where
 rg:Bool
 c:Int
 w:V
 l:List Vl
def adC (d:AD):List V:=[.bool d.rg,.int .i64 d.c,d.w]
def agCs (al:List AD):List V:=al.flatMap adC
theorem agCs_at:∀ (al:List AD) (i:Nat) (d:AD),al[i]? = some d→((agCs al).drop (i * 3)).take 3=adC d
 | [],i,s,h=>by simp at h
 | a::l,0,s,h=>by
  simp only [List.getElem?_cons_zero,Option.some.injEq] at h
  subst h
  simp [agCs,adC]
 | a::l,i+1,s,h=>by
  simp only [List.getElem?_cons_succ] at h
  have:=agCs_at l i s h
  have e:(agCs (a::l)).drop ((i+1) * 3)=(agCs l).drop (i * 3):=by
   have:(i+1) * 3=3+i * 3:=by omega
   rw [this]
   unfold agCs
   rw [List.flatMap_cons,← List.drop_drop]
   congr 1
  rw [e,this]
structure ArgG (h:Hp) (u:V) (al:List AD):Prop where
 ru:Rd h 3 u al.length (agCs al)
 iu:In h.n u
 at_:∀ (i:Nat) (d:AD),al[i]? = some d→RdV h d.w d.l∧In h.n d.w
theorem ArgG.ext {h h':Hp} {u:V} {al:List AD} (a:ArgG h u al) (x:Ext h.n h h'):ArgG h' u al:=
 ⟨a.ru.ext x a.iu,a.iu.mono x.n,fun i d h1=>⟨(a.at_ i d h1).1.ext x (a.at_ i d h1).2,(a.at_ i d h1).2.mono x.n⟩⟩
theorem ArgG.get {h:Hp} {u:V} {al:List AD} (a:ArgG h u al) {i:Nat} {d:AD} (hd:al[i]? = some d):
  ∃ b o,(∀ (k:IntKind) (q:V→Prop),(Pu EE).iaddr 131 u (.int k i) q↔q (.ptr b o))∧(∀ q:V→Prop,(Pu EE).load h 133 (.ptr b o) q↔q (.agg (adC d))):=by
 obtain ⟨b,o,h1,h2,h3,_⟩:=zfT a.ru zQ zau (by omega) (List.getElem?_eq_some_iff.1 hd).1 (agCs_at al i d hd)
 exact ⟨b,o,h1,h2⟩
theorem adC_c (h:Hp) (d:AD) (r:RdV h d.w d.l):zh (adC d)=true:=by have:=r.c1.2; simpa [adC,zh,V.isCell] using this
section
variable {N:Nat} {h0:Hp} {u:V} {al:List AD} {b4 b6:Nat} {a b:Int} {c d:Bool} {g:Nat} {Q:QQ} {cs:List V}
theorem call_loop1 (A:ArgG h0 u al) (h6:b6 < h0.n) (hb6:h0.t.get b6=some (.cells [.int .i64 a,.int .i64 b,.bool c,.bool d,.fn (.func g) [.agg [u]] []] 192 false))
  (hok:∀ x ∈ al,(x.rg=true→c=true)∧(x.rg=false→x.l.length=1)) (hl:al.length≤1000)
  (hq:∀ h',Ext h0.n h0 h'→zji Q u (.ptr b4 0) (.ptr b6 0) u (.int .i64 al.length) (.int .i64 al.length) h'):
  ∀ m i (h:Hp),al.length - i≤m→i≤al.length→Ext h0.n h0 h→zji Q u (.ptr b4 0) (.ptr b6 0) u (.int .i64 al.length) (.int .i64 i) h:=by
 intro m
 induction m with
 | zero=>
  intro i h hm hi x
  have:i=al.length:=by omega
  subst this
  exact hq h x
 | succ m ih=>
  intro i h hm hi x
  by_cases hil:i < al.length
  ·have xn:=x.n
   apply ziX
   unfold zfb
   rw [zak,decide_eq_true (by omega),zc]
   obtain ⟨y,hy⟩:∃ y,al[i]? = some y:=⟨al[i],List.getElem?_eq_getElem hil⟩
   obtain ⟨b,of,k1,k2⟩:=(A.ext x).get hy
   obtain ⟨hr,hin⟩:=(A.ext x).at_ i y hy
   rw [k1,k2]
   refine sbox zau _ rfl (adC_c h y hr) fun h1 b1 w1=>?_
   have n1:=w1.n
   have e1:=w1.b
   have x1:Ext h0.n h0 h1:=x.trans (w1.ext (by omega))
   have hb6':h1.t.get b6=some (.cells [.int .i64 a,.int .i64 _,.bool c,.bool d,.fn (.func g) [.agg [u]] []] 192 false):=(x1.old b6 h6).trans hb6
   have hb1:h1.t.get b1=some (.cells [.bool y.rg,.int .i64 y.c,y.w] 133 false):=w1.at_
   have hr1:RdV h1 y.w y.l:=hr.ext (w1.ext (Nat.le_refl _)) hin
   have ho:=hok y (List.mem_of_getElem? hy)
   rw [zdl,za l_bool hb1 rfl]
   cases hrg:y.rg with
   | true=>
    have hc:=ho.1 hrg
    subst hc
    rw [hrg] at hb1
    simp only [zu]
    rw [fa_fun_rule_2,za l_bool hb6' rfl,zaE,Bool.not_true,zB]
    simp only [zu]
    rw [zdl,za l_bool hb1 rfl,zaE,Bool.not_true]
    simp only [zS]
    rw [zo,zo,zb,zK _ _ _ _ (by omega)]
    exact ih (i+1) h1 (by omega) (by omega) x1
   | false=>
    have hc:=ho.2 hrg
    rw [hrg] at hb1
    simp only [zS]
    rw [zo]
    simp only [zu]
    rw [zdl,za l_bool hb1 rfl,zaE,Bool.not_false]
    simp only [zu]
    rw [zaw,za zN hb1 rfl,zp hr1 zM,neqK y.l.length 1 1 rfl,decide_eq_true hc,Bool.not_true,zB,zo,zb,zK _ _ _ _ (by omega)]
    exact ih (i+1) h1 (by omega) (by omega) x1
  ·have:i=al.length:=by omega
   subst this
   exact hq h x
end
end
end Go.Proofs.YtbchdlelmkmagaaGreatDoor.VM
namespace Go.Proofs.YtbchdlelmkmagaaGreatDoor.VM
open Go
set_option linter.unusedVariables false
set_option linter.unusedSectionVars false
set_option linter.unusedSimpArgs false
set_option maxRecDepth 20000
noncomputable section
attribute [local instance] syZ
def isEv (v:Vl):Bool:=decide (v.k=4)
theorem call_loop3 {N:Nat} {h0:Hp} {w v6 v68 v69 v70:V} {l:List Vl} {b4:Nat} {cs:List V} {Q:QQ} (hr:RdV h0 w l) (hw:In h0.n w) (hN:N≤h0.n) (hN4:N≤b4) (h4:b4 < h0.n) (hc:cs.length=3) (hb4:h0.t.get b4=some (.cells cs 48 false)) (hl:l.length≤1000000)
  (hq:∀ e,l.find? isEv=some e→∀ h',Ext N h0 h'→Q (valV e) h')
  (hn:l.find? isEv=none→∀ h',Ext h0.n h0 h'→zjQ Q (.ptr b4 0) v6 v68 v69 v70 w (.int .i64 l.length) (.int .i64 l.length) h'):
  ∀ m i (h:Hp),l.length - i≤m→i≤l.length→Ext h0.n h0 h→l.find? isEv=(l.drop i).find? isEv→zjQ Q (.ptr b4 0) v6 v68 v69 v70 w (.int .i64 l.length) (.int .i64 i) h:=by
 intro m
 induction m with
 | zero=>
  intro i h hm hi x hf
  have:i=l.length:=by omega
  subst this
  rw [List.drop_length] at hf
  exact hn hf h x
 | succ m ih=>
  intro i h hm hi x hf
  by_cases hil:i < l.length
  ·have xn:=x.n
   apply r_fun_Call_3
   unfold zgK
   rw [zak,decide_eq_true (by omega),zc]
   obtain ⟨y,hy⟩:∃ y,l[i]? = some y:=⟨l[i],List.getElem?_eq_getElem hil⟩
   obtain ⟨b,of,k1,k2,_⟩:=rd_val (hr.ext x hw) hy
   rw [k1,k2]
   refine vbox y fun h1 b1 w1=>?_
   have n1:=w1.n
   have e1:=w1.b
   have x1:Ext h0.n h0 h1:=x.trans (w1.ext (by omega))
   have hd:l.drop i=y::l.drop (i+1):=by
    rw [List.drop_eq_getElem_cons hil]
    rw [List.getElem?_eq_getElem hil] at hy
    cases hy; rfl
   rw [zF,za zm w1.at_ rfl,eqlK y.k 4 4 rfl]
   by_cases hk:y.k=4
   ·rw [decide_eq_true hk,zc,zd ze w1.at_ (l:=vlC y) rfl]
    have hb:h1.t.get b4=some (.cells cs 48 false):=(x1.old b4 h4).trans hb4
    refine retV hb hc y fun h2 w2=>hq y ?_ h2 ⟨by rw [w2.n]; omega,fun d hd=>?_⟩
    ·rw [hf,hd,List.find?_cons_of_pos (by unfold isEv; rw [decide_eq_true hk])]
    ·rw [w2.other d (by omega),x1.old d (by omega)]
   ·rw [decide_eq_false hk,zb,zK _ _ _ _ (by omega)]
    refine ih (i+1) h1 (by omega) (by omega) x1 ?_
    rw [hf,hd,List.find?_cons_of_neg (by unfold isEv; rw [decide_eq_false hk]; simp)]
  ·have:i=l.length:=by omega
   subst this
   rw [List.drop_length] at hf
   exact hn hf h x
def sumG (d:AD):Vl:=match d.l.find? isEv with
 | some e=>e
 | none=>addAll d.l (vlN 0)
theorem sumS_eq (d:AD):sumS d.l=sumG d:=rfl
theorem call_sum {h:Hp} {u:V} {d:AD} (A:ArgG h u [d]) (hd:d.rg=true∨(d.rg=false∧∃ e,d.l=[e]∧e.k=4)) (hm:∀ v ∈ d.l,MayV v) (hl:d.l.length≤1000000):Ans EE 107 [.str sumK,u] h fun x h'=>x=valV (sumS d.l)∧Ext h.n h h':=by
 rw [sumS_eq]
 apply a_fun_Call
 unfold zgL
 refine zq ze fun h1 b1 w1=>?_
 have n1:=w1.n
 have e1:=w1.b
 have hu1:C1 u:=A.ru.c1
 rw [zaD so_fun_call _ (fun p hp=>by
  simp only [List.mem_cons,List.not_mem_nil,or_false] at hp
  rcases hp with rfl; exact hu1) rfl]
 show (Pu EE).alloc h1 189 fun x5 h6 b7=>(Pu EE).store h6 189 x5 (.agg [u]) fun h8=>_
 refine sbox zcC [u] rfl (by simp [zh,hu1.2]) fun h2 b2 w2=>?_
 have n2:=w2.n
 have e2:=w2.b
 rw [zd zcC w2.at_ (l:=[u]) rfl]
 refine (of_ok u hu1 sumK _ (rule_sum u) ⟨_,_,_,_,_,rfl⟩ h2).mono ?_
 rintro y h3 ⟨rfl,x3⟩
 have n3:=x3.n
 rw [zao,zam]
 refine sbox zdp [.int .i64 1,.int .i64 9223372036854775807,.bool true,.bool true,.fn (.func 216) [.agg [u]] []] rfl rfl fun h4 b4 w4=>?_
 have n4:=w4.n
 have e4:=w4.b
 have X4:Ext h.n h h4:=⟨by omega,fun c hc=>by rw [w4.old c (by omega),x3.old c (by omega),w2.old c (by omega),w1.old c (by omega)]⟩
 have hb1:h4.t.get b1=some (.cells [.int .i64 0,.int .i64 0,.str []] 48 false):=by rw [w4.old b1 (by omega),x3.old b1 (by omega),w2.old b1 (by omega)]; exact w1.at_
 have A4:=A.ext X4
 rw [zaE,Bool.not_true,zb,zp A4.ru zQ,fa_fun_rule_0,za zm w4.at_ rfl]
 rw [show (([d]:List AD).length:Int)=1 from rfl,zak,decide_eq_false (by decide)]
 simp only [zu]
 rw [zp A4.ru zQ,fa_fun_rule_1,za zm w4.at_ rfl]
 rw [show (([d]:List AD).length:Int)=1 from rfl,zgc,decide_eq_false (by decide),zo,zb,zp A4.ru zQ]
 refine call_loop1 A4 (by omega) w4.at_ (fun x hx=>?_) (by simp) (fun h5 x5=>?_) 1 0 h4 (by simp) (by simp) (Ext.refl _ _)
 ·simp only [List.mem_singleton] at hx
  subst hx
  rcases hd with h' | ⟨h',e,he,_⟩
  ·exact ⟨fun _=>rfl,fun q=>by rw [h'] at q; cases q⟩
  ·exact ⟨fun _=>rfl,fun _=>by rw [he]; rfl⟩
 have n5:=x5.n
 have hb4:h5.t.get b4=some (.cells [.int .i64 1,.int .i64 9223372036854775807,.bool true,.bool true,.fn (.func 216) [.agg [u]] []] 192 false):=(x5.old b4 (by omega)).trans w4.at_
 have A5:=A4.ext x5
 apply ziX
 unfold zfb
 rw [zak,decide_eq_false (by omega),zb,fa_fun_rule_3,za l_bool hb4 rfl,zc,zp A5.ru zQ]
 apply r_fun_Call_2
 unfold zgS
 rw [show (([d]:List AD).length:Int)=1 from rfl,zak,decide_eq_true (by decide),zc]
 obtain ⟨b,of,k1,k2⟩:=A5.get (i:=0) (d:=d) rfl
 obtain ⟨hr,hin⟩:=A5.at_ 0 d rfl
 have k1':=k1 .i64
 rw [show ((0:Nat):Int)=0 from rfl] at k1'
 rw [k1',k2]
 refine sbox zau _ rfl (adC_c h5 d hr) fun h6 b6 w6=>?_
 have n6:=w6.n
 have e6:=w6.b
 have hb6:h6.t.get b6=some (.cells [.bool d.rg,.int .i64 d.c,d.w] 133 false):=w6.at_
 have hr6:RdV h6 d.w d.l:=hr.ext (w6.ext (Nat.le_refl _)) hin
 rw [zaw,za zN hb6 rfl,zp hr6 zM]
 have X6:Ext h.n h h6:=⟨by omega,fun c hc=>by rw [w6.old c (by omega),x5.old c (by omega),X4.old c hc]⟩
 refine call_loop3 (N:=h.n) hr6 (hin.mono (by omega)) (by omega) (by omega) (by omega) rfl (by rw [w6.old b1 (by omega),x5.old b1 (by omega)]; exact hb1) hl (fun e he h7 x7=>⟨by unfold sumG; rw [he],X6.trans x7⟩) (fun hn h7 x7=>?_) d.l.length 0 h6 (by omega) (by omega) (Ext.refl _ _) rfl
 have n7:=x7.n
 have hrg:d.rg=true:=by
  rcases hd with h' | ⟨_,e,he,hk⟩
  ·exact h'
  ·rw [he,List.find?_cons_of_pos (by unfold isEv; rw [decide_eq_true hk])] at hn
   cases hn
 apply r_fun_Call_3
 unfold zgK
 rw [zak,decide_eq_false (by omega),zb,pu_add,show IntKind.i64.wrap (0+1)=1 from by decide]
 apply r_fun_Call_2
 unfold zgS
 have hb4':h7.t.get b4=some (.cells [.int .i64 1,.int .i64 9223372036854775807,.bool true,.bool true,.fn (.func 216) [.agg [u]] []] 192 false):=by rw [x7.old b4 (by omega),w6.old b4 (by omega)]; exact hb4
 rw [zak,decide_eq_false (by decide),zb,fa_fun_rule_4,za zkR hb4' rfl]
 have X7:Ext h.n h h7:=X6.trans (x7.mono (by omega))
 have A7:=A.ext X7
 have a7:Arg1 h7 u d.c d.w d.l:=⟨by have:=A7.ru; simpa [agCs,adC,hrg] using this,(A7.at_ 0 d rfl).1,A7.iu,(A7.at_ 0 d rfl).2,hl⟩
 refine pu_callb ((sum_ok a7 hm).mono ?_)
 rintro y h8 ⟨rfl,x8⟩
 have n8:=x8.n
 refine retV (by rw [x8.old b1 (by omega),x7.old b1 (by omega),w6.old b1 (by omega),x5.old b1 (by omega)]; exact hb1) rfl _ fun h9 w9=>⟨?_,by rw [w9.n]; omega,fun c hc=>?_⟩
 ·unfold sumG; rw [hn]
 ·rw [w9.other c (by omega),x8.old c (by omega),X7.old c hc]
theorem call_if {h:Hp} {u:V} {ws:List V} {x y z:Vl} (A:ArgN h u ws [x,y,z]) (mx:MayV x):Ans EE 107 [.str ifK,u] h fun v h'=>v=valV (ifS x y z)∧Ext h.n h h':=by
 obtain ⟨w1_,w2_,w3_,rfl⟩:∃ a b c,ws=[a,b,c]:=by
  match ws,A.len with
  | [a,b,c],_=>exact ⟨a,b,c,rfl⟩
 have G:ArgG h u [⟨false,0,w1_,[x]⟩,⟨false,0,w2_,[y]⟩,⟨false,0,w3_,[z]⟩]:=⟨A.ru,A.iu,fun i d hd=>by
  match i,hd with
  | 0,hd=>cases hd; exact A.at_ 0 _ _ rfl rfl
  | 1,hd=>cases hd; exact A.at_ 1 _ _ rfl rfl
  | 2,hd=>cases hd; exact A.at_ 2 _ _ rfl rfl⟩
 apply a_fun_Call
 unfold zgL
 refine zq ze fun h1 b1 w1=>?_
 have n1:=w1.n
 have e1:=w1.b
 have hu1:C1 u:=A.ru.c1
 rw [zaD so_fun_call _ (fun p hp=>by
  simp only [List.mem_cons,List.not_mem_nil,or_false] at hp
  rcases hp with rfl; exact hu1) rfl]
 show (Pu EE).alloc h1 189 fun x5 h6 b7=>(Pu EE).store h6 189 x5 (.agg [u]) fun h8=>_
 refine sbox zcC [u] rfl (by simp [zh,hu1.2]) fun h2 b2 w2=>?_
 have n2:=w2.n
 have e2:=w2.b
 rw [zd zcC w2.at_ (l:=[u]) rfl]
 refine (of_ok u hu1 ifK _ (rule_if u) ⟨_,_,_,_,_,rfl⟩ h2).mono ?_
 rintro y h3 ⟨rfl,x3⟩
 have n3:=x3.n
 rw [zao,zam]
 refine sbox zdp [.int .i64 2,.int .i64 3,.bool false,.bool false,.fn (.func 222) [.agg [u]] []] rfl rfl fun h4 b4 w4=>?_
 have n4:=w4.n
 have e4:=w4.b
 have X4:Ext h.n h h4:=⟨by omega,fun c hc=>by rw [w4.old c (by omega),x3.old c (by omega),w2.old c (by omega),w1.old c (by omega)]⟩
 have hb1:h4.t.get b1=some (.cells [.int .i64 0,.int .i64 0,.str []] 48 false):=by rw [w4.old b1 (by omega),x3.old b1 (by omega),w2.old b1 (by omega)]; exact w1.at_
 have A4:=G.ext X4
 rw [zaE,Bool.not_true,zb,zp A4.ru zQ,fa_fun_rule_0,za zm w4.at_ rfl]
 simp only [List.length_cons,List.length_nil]
 rw [zak,decide_eq_false (by decide)]
 simp only [zu]
 rw [zp A4.ru zQ,fa_fun_rule_1,za zm w4.at_ rfl]
 simp only [List.length_cons,List.length_nil]
 rw [zgc,decide_eq_false (by decide),zo,zb,zp A4.ru zQ]
 refine call_loop1 A4 (by omega) w4.at_ (fun x hx=>?_) (by simp) (fun h5 x5=>?_) 3 0 h4 (by simp) (by simp) (Ext.refl _ _)
 ·simp only [List.mem_cons,List.not_mem_nil,or_false] at hx
  rcases hx with rfl | rfl | rfl <;> exact ⟨fun q=>(by cases q),fun _=>rfl⟩
 have n5:=x5.n
 have hb4:h5.t.get b4=some (.cells [.int .i64 2,.int .i64 3,.bool false,.bool false,.fn (.func 222) [.agg [u]] []] 192 false):=(x5.old b4 (by omega)).trans w4.at_
 apply ziX
 unfold zfb
 rw [zak,decide_eq_false (by omega),zb,fa_fun_rule_3,za l_bool hb4 rfl,zb,fa_fun_rule_4,za zkR hb4 rfl]
 have X5:Ext h.n h h5:=X4.trans (x5.mono (by omega))
 refine pu_callb ((fork_ok (A.ext X5) mx).mono ?_)
 rintro y h8 ⟨rfl,x8⟩
 have n8:=x8.n
 refine retV (by rw [x8.old b1 (by omega),x5.old b1 (by omega)]; exact hb1) rfl _ fun h9 w9=>⟨rfl,by rw [w9.n]; omega,fun c hc=>?_⟩
 rw [w9.other c (by omega),x8.old c (by omega),X5.old c hc]
end
end Go.Proofs.YtbchdlelmkmagaaGreatDoor.VM
namespace Go.Proofs.YtbchdlelmkmagaaGreatDoor.VM
open Go
set_option linter.unusedVariables false
set_option maxRecDepth 100000
noncomputable section
noncomputable def c_calc_Values:Code:=match Tryz.f8.body with | some c=>c | none=>.skip
noncomputable def zad:Fl:=⟨Tryz.f8,c_calc_Values,[([false,true,false,true,true,true],[1,3,26,27,28]),([false,true,true,true,false,false,true,true,false,false,true,false,true,true,true],[1,3,4,26,27,28,41,42,43]),([false,true,true,true,false,false,true,true,false,false,true,true,true,false,false,true,true,false,false,true,false,true,true,true],[1,3,4,6,26,27,28,41,42,43,57,58,59]),([false,true,false,true,true,true,true,true],[1,3,10,83,84,85]),([false,true,false,true,true,true,true,true,true],[1,3,105,106,107])]⟩
abbrev zdJ (Q:QQ) (v1 v3 v26 v27 v28:V) (h:Hp):Prop:=zad.L EE Q 1 [v1,v3,v26,v27,v28] h
abbrev zf8 (Q:QQ) (v1 v3 v4 v26 v27 v28 v41 v42 v43:V) (h:Hp):Prop:=zad.L EE Q 2 [v1,v3,v4,v26,v27,v28,v41,v42,v43] h
abbrev zjz (Q:QQ) (v1 v3 v4 v6 v26 v27 v28 v41 v42 v43 v57 v58 v59:V) (h:Hp):Prop:=zad.L EE Q 3 [v1,v3,v4,v6,v26,v27,v28,v41,v42,v43,v57,v58,v59] h
abbrev zjy (Q:QQ) (v1 v3 v10 v83 v84 v85:V) (h:Hp):Prop:=zad.L EE Q 4 [v1,v3,v10,v83,v84,v85] h
abbrev zgs (Q:QQ) (v1 v3 v105 v106 v107:V) (h:Hp):Prop:=zad.L EE Q 5 [v1,v3,v105,v106,v107] h
noncomputable def zfY (p:Pr) (l:LL) (Q:QQ) (v0:V) (h:Hp):Prop:=
 p.box h 26 v0 fun x1 h2 b3=>
 p.load h2 26 x1 fun x4=>
 p.call 16 [x4] h2 fun x5 h6=>
 p.un .not x5 fun x7=>
 p.cond x7
 (fun _=>
  Q .nils h6)
 (fun _=>
  p.faddr 26 x1 0 fun x8=>
  p.load h6 24 x8 fun x9=>
  p.lbui h6 #[24] .len [x9] fun x10=>
  p.mksl h6 29 x10 x10 fun x11 h12 b13=>
  p.faddr 26 x1 0 fun x14=>
  p.load h12 24 x14 fun x15=>
  p.lbui h12 #[24] .len [x15] fun x16=>
  l 1 [x1,x11,x15,x16,(.int .i64 0)] h12)
theorem q_calc_Values_0 (p:Pr) (l:LL) (Q:QQ) (v0:V) (h:Hp):zfY p l Q v0 h=zad.K p EE l Q [] ([v0]++List.replicate 139 zj) h:=by kernel_rfl
theorem a_calc_Values {Q:QQ} {v0:V} {h:Hp} (H:zfY (Pu EE) (zad.L EE Q) Q v0 h):Ans EE 8 [v0] h Q:=
 ansL (F:=zad) (by kernel_rfl) (by kernel_rfl) (by kernel_rfl) (by kernel_rfl) (cast (q_calc_Values_0 _ _ _ v0 h) H)
noncomputable def zd5 (p:Pr) (l:LL) (Q:QQ) (v1 v3 v26 v27 v28:V) (h:Hp):Prop:=
 p.bin .lss 3 false false v28 v27 fun x1=>
 p.cond x1
 (fun _=>
  p.iaddr 24 v26 v28 fun x2=>
  p.load h 38 x2 fun x3=>
  p.alloc h 38 fun x4 h5 b6=>
  p.store h5 38 x4 x3 fun h7=>
  p.faddr 38 x4 2 fun x8=>
  p.load h7 36 x8 fun x9=>
  p.lbui h7 #[36] .len [x9] fun x10=>
  p.mksl h7 35 x10 x10 fun x11 h12 b13=>
  p.iaddr 29 v3 v28 fun x14=>
  p.store h12 35 x14 x11 fun h15=>
  p.faddr 38 x4 2 fun x16=>
  p.load h15 36 x16 fun x17=>
  p.lbui h15 #[36] .len [x17] fun x18=>
  l 2 [v1,v3,v28,v26,v27,v28,x17,x18,(.int .i64 0)] h15)
 (fun _=>
  p.load h 26 v1 fun x19=>
  p.call 10 [x19] h fun x20 h21=>
  p.extr x20 0 fun x22=>
  p.extr x20 1 fun x23=>
  p.lbui h21 #[32] .len [x23] fun x24=>
  l 4 [v1,v3,x22,x23,x24,(.int .i64 0)] h21)
theorem q_calc_Values_1 (p:Pr) (l:LL) (Q:QQ) (s:List V) (h:Hp):zd5 p l Q (nth s 1) (nth s 3) (nth s 26) (nth s 27) (nth s 28) h=zad.K p EE l Q [true,true,true,false,true,false] (nths s 140 0) h:=by kernel_rfl
theorem zjr {Q:QQ} {v1 v3 v26 v27 v28:V} {h:Hp} (H:zd5 (Pu EE) (zad.L EE Q) Q v1 v3 v26 v27 v28 h):zdJ Q v1 v3 v26 v27 v28 h:=
 labR (path:=[true,true,true,false,true,false]) rfl rfl fun s e=>by cases e; exact cast (q_calc_Values_1 _ _ _ s h) H
noncomputable def zdU (p:Pr) (l:LL) (Q:QQ) (v1 v3 v4 v26 v27 v28 v41 v42 v43:V) (h:Hp):Prop:=
 p.bin .lss 3 false false v43 v42 fun x1=>
 p.cond x1
 (fun _=>
  p.iaddr 36 v41 v43 fun x2=>
  p.load h 40 x2 fun x3=>
  p.iaddr 29 v3 v4 fun x4=>
  p.load h 35 x4 fun x5=>
  p.lbui h #[40] .len [x3] fun x6=>
  p.mksl h 39 x6 x6 fun x7 h8 b9=>
  p.lbui h8 #[40] .len [x3] fun x10=>
  p.same x10 x6 (
  p.load h8 35 x4 fun x11=>
  p.same x11 x5 (
  p.iaddr 35 x5 v43 fun x12=>
  p.store h8 39 x12 x7 fun h13=>
  p.lbui h13 #[40] .len [x3] fun x14=>
  l 3 [v1,v3,v4,v43,v26,v27,v28,v41,v42,v43,x3,x14,(.int .i64 0)] h13)))
 (fun _=>
  p.bin .add 3 false true v28 (.int .i64 1) fun x15=>
  l 1 [v1,v3,v26,v27,x15] h)
theorem q_calc_Values_2 (p:Pr) (l:LL) (Q:QQ) (s:List V) (h:Hp):zdU p l Q (nth s 1) (nth s 3) (nth s 4) (nth s 26) (nth s 27) (nth s 28) (nth s 41) (nth s 42) (nth s 43) h=zad.K p EE l Q [true,true,true,false,true,false,false,true,true,false,false,true,true,true,false] (nths s 140 0) h:=by kernel_rfl
theorem zjT {Q:QQ} {v1 v3 v4 v26 v27 v28 v41 v42 v43:V} {h:Hp} (H:zdU (Pu EE) (zad.L EE Q) Q v1 v3 v4 v26 v27 v28 v41 v42 v43 h):zf8 Q v1 v3 v4 v26 v27 v28 v41 v42 v43 h:=
 labR (path:=[true,true,true,false,true,false,false,true,true,false,false,true,true,true,false]) rfl rfl fun s e=>by cases e; exact cast (q_calc_Values_2 _ _ _ s h) H
noncomputable def zdN (p:Pr) (l:LL) (Q:QQ) (v1 v3 v4 v6 v26 v27 v28 v41 v42 v43 v57 v58 v59:V) (h:Hp):Prop:=
 p.bin .lss 3 false false v59 v58 fun x1=>
 p.cond x1
 (fun _=>
  p.iaddr 40 v57 v59 fun x2=>
  p.load h 9 x2 fun x3=>
  p.iaddr 29 v3 v4 fun x4=>
  p.load h 35 x4 fun x5=>
  p.iaddr 35 x5 v6 fun x6=>
  p.load h 39 x6 fun x7=>
  p.call 17 [x3] h fun x8 h9=>
  p.load h9 39 x6 fun x10=>
  p.same x10 x7 (
  p.load h9 35 x4 fun x11=>
  p.same x11 x5 (
  p.iaddr 39 x7 v59 fun x12=>
  p.store h9 48 x12 x8 fun h13=>
  p.bin .add 3 false true v59 (.int .i64 1) fun x14=>
  l 3 [v1,v3,v4,v6,v26,v27,v28,v41,v42,v43,v57,v58,x14] h13)))
 (fun _=>
  p.bin .add 3 false true v43 (.int .i64 1) fun x15=>
  l 2 [v1,v3,v4,v26,v27,v28,v41,v42,x15] h)
theorem q_calc_Values_3 (p:Pr) (l:LL) (Q:QQ) (s:List V) (h:Hp):zdN p l Q (nth s 1) (nth s 3) (nth s 4) (nth s 6) (nth s 26) (nth s 27) (nth s 28) (nth s 41) (nth s 42) (nth s 43) (nth s 57) (nth s 58) (nth s 59) h=zad.K p EE l Q [true,true,true,false,true,false,false,true,true,false,false,true,true,true,false,false,true,true,false,false,true,true,true,false] (nths s 140 0) h:=by kernel_rfl
theorem zjH {Q:QQ} {v1 v3 v4 v6 v26 v27 v28 v41 v42 v43 v57 v58 v59:V} {h:Hp} (H:zdN (Pu EE) (zad.L EE Q) Q v1 v3 v4 v6 v26 v27 v28 v41 v42 v43 v57 v58 v59 h):zjz Q v1 v3 v4 v6 v26 v27 v28 v41 v42 v43 v57 v58 v59 h:=
 labR (path:=[true,true,true,false,true,false,false,true,true,false,false,true,true,true,false,false,true,true,false,false,true,true,true,false]) rfl rfl fun s e=>by cases e; exact cast (q_calc_Values_3 _ _ _ s h) H
noncomputable def zd7 (p:Pr) (l:LL) (Q:QQ) (v1 v3 v10 v83 v84 v85:V) (h:Hp):Prop:=
 p.bin .lss 3 false false v85 v84 fun x1=>
 p.cond x1
 (fun _=>
  p.iaddr 32 v83 v85 fun x2=>
  p.load h 42 x2 fun x3=>
  p.alloc h 42 fun x4 h5 b6=>
  p.store h5 42 x4 x3 fun h7=>
  p.load h7 26 v1 fun x8=>
  p.faddr 42 x4 0 fun x9=>
  p.load h7 9 x9 fun x10=>
  p.faddr 42 x4 1 fun x11=>
  p.load h7 3 x11 fun x12=>
  p.faddr 42 x4 2 fun x13=>
  p.load h7 3 x13 fun x14=>
  p.call 19 [x8,x10] h7 fun x15 h16=>
  p.load h16 3 x13 fun x17=>
  p.same x17 x14 (
  p.load h16 3 x11 fun x18=>
  p.same x18 x12 (
  p.iaddr 29 v3 x15 fun x19=>
  p.load h16 35 x19 fun x20=>
  p.iaddr 35 x20 x12 fun x21=>
  p.load h16 39 x21 fun x22=>
  p.call 18 [(.int .i64 6)] h16 fun x23 h24=>
  p.load h24 39 x21 fun x25=>
  p.same x25 x22 (
  p.load h24 35 x19 fun x26=>
  p.same x26 x20 (
  p.load h24 3 x13 fun x27=>
  p.same x27 x14 (
  p.load h24 3 x11 fun x28=>
  p.same x28 x12 (
  p.iaddr 39 x22 x14 fun x29=>
  p.store h24 48 x29 x23 fun h30=>
  p.bin .add 3 false true v85 (.int .i64 1) fun x31=>
  l 4 [v1,v3,v10,v83,v84,x31] h30)))))))
 (fun _=>
  p.lbui h #[32] .len [v10] fun x32=>
  l 5 [v1,v3,v10,x32,(.int .i64 0)] h)
theorem q_calc_Values_4 (p:Pr) (l:LL) (Q:QQ) (s:List V) (h:Hp):zd7 p l Q (nth s 1) (nth s 3) (nth s 10) (nth s 83) (nth s 84) (nth s 85) h=zad.K p EE l Q [true,true,true,true,true,false,true,false] (nths s 140 0) h:=by kernel_rfl
theorem zjP {Q:QQ} {v1 v3 v10 v83 v84 v85:V} {h:Hp} (H:zd7 (Pu EE) (zad.L EE Q) Q v1 v3 v10 v83 v84 v85 h):zjy Q v1 v3 v10 v83 v84 v85 h:=
 labR (path:=[true,true,true,true,true,false,true,false]) rfl rfl fun s e=>by cases e; exact cast (q_calc_Values_4 _ _ _ s h) H
noncomputable def zdL (p:Pr) (l:LL) (Q:QQ) (v1 v3 v105 v106 v107:V) (h:Hp):Prop:=
 p.bin .lss 3 false false v107 v106 fun x1=>
 p.cond x1
 (fun _=>
  p.iaddr 32 v105 v107 fun x2=>
  p.load h 42 x2 fun x3=>
  p.alloc h 42 fun x4 h5 b6=>
  p.store h5 42 x4 x3 fun h7=>
  p.load h7 26 v1 fun x8=>
  p.load h7 42 x4 fun x9=>
  p.call 21 [x8,x9] h7 fun x10 h11=>
  p.call 20 [x10] h11 fun x12 h13=>
  p.extr x12 0 fun x14=>
  p.extr x12 1 fun x15=>
  p.load h13 26 v1 fun x16=>
  p.faddr 42 x4 0 fun x17=>
  p.load h13 9 x17 fun x18=>
  p.faddr 42 x4 1 fun x19=>
  p.load h13 3 x19 fun x20=>
  p.faddr 42 x4 2 fun x21=>
  p.load h13 3 x21 fun x22=>
  p.faddr 42 x4 0 fun x23=>
  p.load h13 9 x23 fun x24=>
  p.load h13 26 v1 fun x25=>
  p.call 19 [x16,x18] h13 fun x26 h27=>
  p.load h27 26 v1 fun x28=>
  p.same x28 x25 (
  p.load h27 9 x23 fun x29=>
  p.same x29 x24 (
  p.load h27 3 x21 fun x30=>
  p.same x30 x22 (
  p.load h27 3 x19 fun x31=>
  p.same x31 x20 (
  p.iaddr 29 v3 x26 fun x32=>
  p.load h27 35 x32 fun x33=>
  p.iaddr 35 x33 x20 fun x34=>
  p.load h27 39 x34 fun x35=>
  p.call 14 [x14,x24,x25,v3] h27 fun x36 h37=>
  p.load h37 39 x34 fun x38=>
  p.same x38 x35 (
  p.load h37 35 x32 fun x39=>
  p.same x39 x33 (
  p.load h37 3 x21 fun x40=>
  p.same x40 x22 (
  p.load h37 3 x19 fun x41=>
  p.same x41 x20 (
  p.iaddr 39 x35 x22 fun x42=>
  p.store h37 48 x42 x36 fun h43=>
  p.bin .add 3 false true v107 (.int .i64 1) fun x44=>
  l 5 [v1,v3,v105,v106,x44] h43)))))))))
 (fun _=>
  Q v3 h)
theorem q_calc_Values_5 (p:Pr) (l:LL) (Q:QQ) (s:List V) (h:Hp):zdL p l Q (nth s 1) (nth s 3) (nth s 105) (nth s 106) (nth s 107) h=zad.K p EE l Q [true,true,true,true,true,true,false,true,false] (nths s 140 0) h:=by kernel_rfl
theorem zjl {Q:QQ} {v1 v3 v105 v106 v107:V} {h:Hp} (H:zdL (Pu EE) (zad.L EE Q) Q v1 v3 v105 v106 v107 h):zgs Q v1 v3 v105 v106 v107 h:=
 labR (path:=[true,true,true,true,true,true,false,true,false]) rfl rfl fun s e=>by cases e; exact cast (q_calc_Values_5 _ _ _ s h) H
noncomputable def c_calc_Eval:Code:=match Tryz.f14.body with | some c=>c | none=>.skip
noncomputable def zkU:Fl:=⟨Tryz.f14,c_calc_Eval,[]⟩
noncomputable def zin (p:Pr) (l:LL) (Q:QQ) (v0 v1 v2 v3:V) (h:Hp):Prop:=
 p.box h 26 v2 fun x1 h2 b3=>
 p.alloc h2 48 fun x4 h5 b6=>
 p.call 36 [v0] h5 fun x7 h8=>
 p.un .not x7 fun x9=>
 p.cond x9
 (fun _=>
  p.call 18 [(.int .i64 1)] h8 fun x10 h11=>
  p.store h11 48 x4 x10 fun h12=>
  p.load h12 48 x4 fun x13=>
  Q x13 h12)
 (fun _=>
  p.load h8 26 x1 fun x14=>
  p.build 74 [(0,v0),(1,v1),(2,x14),(3,v3)] fun x15=>
  p.lbui h8 #[43] .len [v0] fun x16=>
  p.bin .sub 3 false true x16 (.int .i64 1) fun x17=>
  p.call 37 [x15,x17] h8 fun x18 h19=>
  p.store h19 48 x4 x18 fun h20=>
  p.load h20 48 x4 fun x21=>
  Q x21 h20)
theorem q_calc_Eval_0 (p:Pr) (l:LL) (Q:QQ) (v0 v1 v2 v3:V) (h:Hp):zin p l Q v0 v1 v2 v3 h=zkU.K p EE l Q [] ([v0,v1,v2,v3]++List.replicate 18 zj) h:=by kernel_rfl
theorem a_calc_Eval {Q:QQ} {v0 v1 v2 v3:V} {h:Hp} (H:zin (Pu EE) (zkU.L EE Q) Q v0 v1 v2 v3 h):Ans EE 14 [v0,v1,v2,v3] h Q:=
 ansL (F:=zkU) (by kernel_rfl) (by kernel_rfl) (by kernel_rfl) (by kernel_rfl) (cast (q_calc_Eval_0 _ _ _ v0 v1 v2 v3 h) H)
noncomputable def c_calc_eval_node:Code:=match Tryz.f37.body with | some c=>c | none=>.skip
noncomputable def zby:Fl:=⟨Tryz.f37,c_calc_eval_node,[([true,true,true,true],[2,4,5,6])]⟩
abbrev zgy (Q:QQ) (v2 v4 v5 v6:V) (h:Hp):Prop:=zby.L EE Q 1 [v2,v4,v5,v6] h
noncomputable def zdE (p:Pr) (l:LL) (Q:QQ) (v0 v1:V) (h:Hp):Prop:=
 p.box h 74 v0 fun x1 h2 b3=>
 p.alloc h2 48 fun x4 h5 b6=>
 p.faddr 74 x1 0 fun x7=>
 p.load h5 43 x7 fun x8=>
 p.iaddr 43 x8 v1 fun x9=>
 p.load h5 88 x9 fun x10=>
 p.alloc h5 88 fun x11 h12 b13=>
 p.store h12 88 x11 x10 fun h14=>
 p.faddr 88 x11 0 fun x15=>
 p.load h14 3 x15 fun x16=>
 p.bin .eql 3 false true x16 (.int .i64 5) fun x17=>
 p.cond x17
 (fun _=>
  l 1 [x1,x4,x11,(.fn (.func 68) [] [])] h14)
 (fun _=>
  p.faddr 88 x11 0 fun x18=>
  p.load h14 3 x18 fun x19=>
  p.bin .eql 3 false true x19 (.int .i64 7) fun x20=>
  p.cond x20
  (fun _=>
  l 1 [x1,x4,x11,(.fn (.func 69) [] [])] h14)
  (fun _=>
  p.faddr 88 x11 0 fun x21=>
  p.load h14 3 x21 fun x22=>
  p.bin .eql 3 false true x22 (.int .i64 8) fun x23=>
  p.cond x23
  (fun _=>
   l 1 [x1,x4,x11,(.fn (.func 70) [] [])] h14)
  (fun _=>
   p.faddr 88 x11 0 fun x24=>
   p.load h14 3 x24 fun x25=>
   p.bin .gtr 3 false true x25 (.int .i64 8) fun x26=>
   p.cond x26
   (fun _=>
   l 1 [x1,x4,x11,(.fn (.func 71) [] [])] h14)
   (fun _=>
   l 1 [x1,x4,x11,(.fn (.func 67) [] [])] h14))))
theorem q_calc_eval_node_0 (p:Pr) (l:LL) (Q:QQ) (v0 v1:V) (h:Hp):zdE p l Q v0 v1 h=zby.K p EE l Q [] ([v0,v1]++List.replicate 30 zj) h:=by kernel_rfl
theorem a_calc_eval_node {Q:QQ} {v0 v1:V} {h:Hp} (H:zdE (Pu EE) (zby.L EE Q) Q v0 v1 h):Ans EE 37 [v0,v1] h Q:=
 ansL (F:=zby) (by kernel_rfl) (by kernel_rfl) (by kernel_rfl) (by kernel_rfl) (cast (q_calc_eval_node_0 _ _ _ v0 v1 h) H)
noncomputable def zd3 (p:Pr) (l:LL) (Q:QQ) (v2 v4 v5 v6:V) (h:Hp):Prop:=
 p.load h 74 v2 fun x1=>
 p.load h 88 v5 fun x2=>
 p.callv v6 [x1,x2] h fun x3 h4=>
 p.store h4 48 v4 x3 fun h5=>
 p.load h5 48 v4 fun x6=>
 Q x6 h5
theorem q_calc_eval_node_1 (p:Pr) (l:LL) (Q:QQ) (s:List V) (h:Hp):zd3 p l Q (nth s 2) (nth s 4) (nth s 5) (nth s 6) h=zby.K p EE l Q [true,true,true,true] (nths s 32 0) h:=by kernel_rfl
theorem r_calc_eval_node_1 {Q:QQ} {v2 v4 v5 v6:V} {h:Hp} (H:zd3 (Pu EE) (zby.L EE Q) Q v2 v4 v5 v6 h):zgy Q v2 v4 v5 v6 h:=
 labR (path:=[true,true,true,true]) rfl rfl fun s e=>by cases e; exact cast (q_calc_eval_node_1 _ _ _ s h) H
noncomputable def c_calc_eval_leaf:Code:=match Tryz.f67.body with | some c=>c | none=>.skip
noncomputable def zfr:Fl:=⟨Tryz.f67,c_calc_eval_leaf,[]⟩
noncomputable def zdK (p:Pr) (l:LL) (Q:QQ) (v0 v1:V) (h:Hp):Prop:=
 p.box h 74 v0 fun x1 h2 b3=>
 p.box h2 88 v1 fun x4 h5 b6=>
 p.alloc h5 48 fun x7 h8 b9=>
 p.faddr 88 x4 0 fun x10=>
 p.load h8 3 x10 fun x11=>
 p.bin .eql 3 false true x11 (.int .i64 1) fun x12=>
 p.cond x12
 (fun _=>
  p.faddr 88 x4 1 fun x13=>
  p.load h8 3 x13 fun x14=>
  p.call 44 [x14] h8 fun x15 h16=>
  p.store h16 48 x7 x15 fun h17=>
  p.load h17 48 x7 fun x18=>
  Q x18 h17)
 (fun _=>
  p.bin .eql 3 false true x11 (.int .i64 2) fun x19=>
  p.cond x19
  (fun _=>
  p.faddr 88 x4 2 fun x20=>
  p.load h8 9 x20 fun x21=>
  p.call 41 [x21] h8 fun x22 h23=>
  p.store h23 48 x7 x22 fun h24=>
  p.load h24 48 x7 fun x25=>
  Q x25 h24)
  (fun _=>
  p.bin .eql 3 false true x11 (.int .i64 3) fun x26=>
  p.cond x26
  (fun _=>
   p.faddr 88 x4 1 fun x27=>
   p.load h8 3 x27 fun x28=>
   p.bin .eql 3 false true x28 (.int .i64 1) fun x29=>
   p.call 104 [x29] h8 fun x30 h31=>
   p.store h31 48 x7 x30 fun h32=>
   p.load h32 48 x7 fun x33=>
   Q x33 h32)
  (fun _=>
   p.bin .eql 3 false true x11 (.int .i64 4) fun x34=>
   p.cond x34
   (fun _=>
   p.call 18 [(.int .i64 4)] h8 fun x35 h36=>
   p.store h36 48 x7 x35 fun h37=>
   p.load h37 48 x7 fun x38=>
   Q x38 h37)
   (fun _=>
   p.call 18 [(.int .i64 1)] h8 fun x39 h40=>
   p.store h40 48 x7 x39 fun h41=>
   p.load h41 48 x7 fun x42=>
   Q x42 h41))))
theorem q_calc_eval_leaf_0 (p:Pr) (l:LL) (Q:QQ) (v0 v1:V) (h:Hp):zdK p l Q v0 v1 h=zfr.K p EE l Q [] ([v0,v1]++List.replicate 25 zj) h:=by kernel_rfl
theorem a_calc_eval_leaf {Q:QQ} {v0 v1:V} {h:Hp} (H:zdK (Pu EE) (zfr.L EE Q) Q v0 v1 h):Ans EE 67 [v0,v1] h Q:=
 ansL (F:=zfr) (by kernel_rfl) (by kernel_rfl) (by kernel_rfl) (by kernel_rfl) (cast (q_calc_eval_leaf_0 _ _ _ v0 v1 h) H)
noncomputable def c_calc_eval_ref:Code:=match Tryz.f68.body with | some c=>c | none=>.skip
noncomputable def zge:Fl:=⟨Tryz.f68,c_calc_eval_ref,[]⟩
noncomputable def zeu (p:Pr) (l:LL) (Q:QQ) (v0 v1:V) (h:Hp):Prop:=
 p.box h 74 v0 fun x1 h2 b3=>
 p.box h2 88 v1 fun x4 h5 b6=>
 p.alloc h5 48 fun x7 h8 b9=>
 p.load h8 74 x1 fun x10=>
 p.faddr 88 x4 3 fun x11=>
 p.load h8 85 x11 fun x12=>
 p.call 105 [x10,x12] h8 fun x13 h14=>
 p.bin .lss 3 false true x13 (.int .i64 0) fun x15=>
 p.cond x15
 (fun _=>
  p.call 18 [(.int .i64 4)] h14 fun x16 h17=>
  p.store h17 48 x7 x16 fun h18=>
  p.load h18 48 x7 fun x19=>
  Q x19 h18)
 (fun _=>
  p.faddr 74 x1 2 fun x20=>
  p.faddr 26 x20 0 fun x21=>
  p.load h14 24 x21 fun x22=>
  p.iaddr 24 x22 x13 fun x23=>
  p.faddr 38 x23 2 fun x24=>
  p.load h14 36 x24 fun x25=>
  p.faddr 88 x4 3 fun x26=>
  p.faddr 85 x26 2 fun x27=>
  p.load h14 3 x27 fun x28=>
  p.lbui h14 #[36] .len [x25] fun x29=>
  p.bin .geq 3 false false x28 x29 fun x30=>
  p.gval x30 false (fun k31=>
  p.faddr 88 x4 3 fun x32=>
  k31 x32) fun x33=>
  p.gval x30 false (fun k34=>
  p.faddr 85 x33 1 fun x35=>
  k34 x35) fun x36=>
  p.gval x30 false (fun k37=>
  p.load h14 3 x36 fun x38=>
  k37 x38) fun x39=>
  p.gval x30 false (fun k40=>
  k40 x25) fun x41=>
  p.gval x30 false (fun k42=>
  p.faddr 88 x4 3 fun x43=>
  k42 x43) fun x44=>
  p.gval x30 false (fun k45=>
  p.faddr 85 x44 2 fun x46=>
  k45 x46) fun x47=>
  p.gval x30 false (fun k48=>
  p.load h14 3 x47 fun x49=>
  k48 x49) fun x50=>
  p.gval x30 false (fun k51=>
  p.iaddr 36 x41 x50 fun x52=>
  k51 x52) fun x53=>
  p.gval x30 false (fun k54=>
  p.load h14 40 x53 fun x55=>
  k54 x55) fun x56=>
  p.gval x30 false (fun k57=>
  p.lbui h14 #[40] .len [x56] fun x58=>
  k57 x58) fun x59=>
  p.gval x30 false (fun k60=>
  p.bin .geq 3 false false x39 x59 fun x61=>
  k60 x61) fun x62=>
  p.pick x30 (some (.bool true)) (some x62) fun x63=>
  p.cond x63
  (fun _=>
  p.build 48 [] fun x64=>
  p.store h14 48 x7 x64 fun h65=>
  p.load h65 48 x7 fun x66=>
  Q x66 h65)
  (fun _=>
  p.faddr 74 x1 3 fun x67=>
  p.load h14 29 x67 fun x68=>
  p.iaddr 29 x68 x13 fun x69=>
  p.load h14 35 x69 fun x70=>
  p.faddr 88 x4 3 fun x71=>
  p.faddr 85 x71 2 fun x72=>
  p.load h14 3 x72 fun x73=>
  p.iaddr 35 x70 x73 fun x74=>
  p.load h14 39 x74 fun x75=>
  p.faddr 88 x4 3 fun x76=>
  p.faddr 85 x76 1 fun x77=>
  p.load h14 3 x77 fun x78=>
  p.iaddr 39 x75 x78 fun x79=>
  p.load h14 48 x79 fun x80=>
  p.store h14 48 x7 x80 fun h81=>
  p.load h81 48 x7 fun x82=>
  Q x82 h81))
theorem q_calc_eval_ref_0 (p:Pr) (l:LL) (Q:QQ) (v0 v1:V) (h:Hp):zeu p l Q v0 v1 h=zge.K p EE l Q [] ([v0,v1]++List.replicate 54 zj) h:=by kernel_rfl
theorem a_calc_eval_ref {Q:QQ} {v0 v1:V} {h:Hp} (H:zeu (Pu EE) (zge.L EE Q) Q v0 v1 h):Ans EE 68 [v0,v1] h Q:=
 ansL (F:=zge) (by kernel_rfl) (by kernel_rfl) (by kernel_rfl) (by kernel_rfl) (cast (q_calc_eval_ref_0 _ _ _ v0 v1 h) H)
noncomputable def c_calc_eval_span:Code:=match Tryz.f106.body with | some c=>c | none=>.skip
noncomputable def zaN:Fl:=⟨Tryz.f106,c_calc_eval_span,[([false,true,false,true,true,true,true,true,true],[2,3,4,5,6,7,8,9]),([false,true,false,false,true,false,false,true,false,true,true,true,true,true,true],[2,3,4,5,6,7,8,9,10])]⟩
abbrev zbA (Q:QQ) (v2 v3 v4 v5 v6 v7 v8 v9:V) (h:Hp):Prop:=zaN.L EE Q 1 [v2,v3,v4,v5,v6,v7,v8,v9] h
abbrev zb6 (Q:QQ) (v2 v3 v4 v5 v6 v7 v8 v9 v10:V) (h:Hp):Prop:=zaN.L EE Q 2 [v2,v3,v4,v5,v6,v7,v8,v9,v10] h
noncomputable def zdH (p:Pr) (l:LL) (Q:QQ) (v0 v1:V) (h:Hp):Prop:=
 p.box h 74 v0 fun x1 h2 b3=>
 p.box h2 88 v1 fun x4 h5 b6=>
 p.alloc h5 133 fun x7 h8 b9=>
 p.load h8 74 x1 fun x10=>
 p.faddr 88 x4 3 fun x11=>
 p.load h8 85 x11 fun x12=>
 p.call 105 [x10,x12] h8 fun x13 h14=>
 p.bin .lss 3 false true x13 (.int .i64 0) fun x15=>
 p.cond x15
 (fun _=>
  p.call 18 [(.int .i64 4)] h14 fun x16 h17=>
  p.bsl h17 39 1 [(0,x16)] fun x18 h19 b20=>
  p.build 133 [(2,x18)] fun x21=>
  p.store h19 133 x7 x21 fun h22=>
  p.load h22 133 x7 fun x23=>
  Q x23 h22)
 (fun _=>
  p.faddr 74 x1 2 fun x24=>
  p.faddr 26 x24 0 fun x25=>
  p.load h14 24 x25 fun x26=>
  p.iaddr 24 x26 x13 fun x27=>
  p.load h14 38 x27 fun x28=>
  p.alloc h14 38 fun x29 h30 b31=>
  p.store h30 38 x29 x28 fun h32=>
  p.faddr 88 x4 4 fun x33=>
  p.faddr 85 x33 1 fun x34=>
  p.load h32 3 x34 fun x35=>
  p.faddr 38 x29 1 fun x36=>
  p.load h32 3 x36 fun x37=>
  p.bin .sub 3 false true x37 (.int .i64 1) fun x38=>
  p.lbui h32 #[3,3] .min [x35,x38] fun x39=>
  p.faddr 88 x4 3 fun x40=>
  p.faddr 85 x40 1 fun x41=>
  p.load h32 3 x41 fun x42=>
  p.bin .sub 3 false false x39 x42 fun x43=>
  p.bin .add 3 false true x43 (.int .i64 1) fun x44=>
  p.lbui h32 #[3,3] .max [(.int .i64 0),x44] fun x45=>
  p.build 133 [(0,(.bool true)),(1,x45)] fun x46=>
  p.alloc h32 133 fun x47 h48 b49=>
  p.store h48 133 x47 x46 fun h50=>
  p.faddr 88 x4 3 fun x51=>
  p.faddr 85 x51 2 fun x52=>
  p.load h50 3 x52 fun x53=>
  l 1 [x1,x4,x7,x13,x29,x39,x47,x53] h50)
theorem q_calc_eval_span_0 (p:Pr) (l:LL) (Q:QQ) (v0 v1:V) (h:Hp):zdH p l Q v0 v1 h=zaN.K p EE l Q [] ([v0,v1]++List.replicate 79 zj) h:=by kernel_rfl
theorem a_calc_eval_span {Q:QQ} {v0 v1:V} {h:Hp} (H:zdH (Pu EE) (zaN.L EE Q) Q v0 v1 h):Ans EE 106 [v0,v1] h Q:=
 ansL (F:=zaN) (by kernel_rfl) (by kernel_rfl) (by kernel_rfl) (by kernel_rfl) (cast (q_calc_eval_span_0 _ _ _ v0 v1 h) H)
noncomputable def zdG (p:Pr) (l:LL) (Q:QQ) (v2 v3 v4 v5 v6 v7 v8 v9:V) (h:Hp):Prop:=
 p.faddr 88 v3 4 fun x1=>
 p.faddr 85 x1 2 fun x2=>
 p.load h 3 x2 fun x3=>
 p.faddr 38 v6 2 fun x4=>
 p.load h 36 x4 fun x5=>
 p.lbui h #[36] .len [x5] fun x6=>
 p.bin .sub 3 false true x6 (.int .i64 1) fun x7=>
 p.lbui h #[3,3] .min [x3,x7] fun x8=>
 p.bin .leq 3 false false v9 x8 fun x9=>
 p.cond x9
 (fun _=>
  p.faddr 88 v3 3 fun x10=>
  p.faddr 85 x10 1 fun x11=>
  p.load h 3 x11 fun x12=>
  l 2 [v2,v3,v4,v5,v6,v7,v8,v9,x12] h)
 (fun _=>
  p.load h 133 v8 fun x13=>
  p.store h 133 v4 x13 fun h14=>
  p.load h14 133 v4 fun x15=>
  Q x15 h14)
theorem q_calc_eval_span_1 (p:Pr) (l:LL) (Q:QQ) (s:List V) (h:Hp):zdG p l Q (nth s 2) (nth s 3) (nth s 4) (nth s 5) (nth s 6) (nth s 7) (nth s 8) (nth s 9) h=zaN.K p EE l Q [true,true,true,true,true,true,false,true,false] (nths s 81 0) h:=by kernel_rfl
theorem r_calc_eval_span_1 {Q:QQ} {v2 v3 v4 v5 v6 v7 v8 v9:V} {h:Hp} (H:zdG (Pu EE) (zaN.L EE Q) Q v2 v3 v4 v5 v6 v7 v8 v9 h):zbA Q v2 v3 v4 v5 v6 v7 v8 v9 h:=
 labR (path:=[true,true,true,true,true,true,false,true,false]) rfl rfl fun s e=>by cases e; exact cast (q_calc_eval_span_1 _ _ _ s h) H
noncomputable def zb5 (p:Pr) (l:LL) (Q:QQ) (v2 v3 v4 v5 v6 v7 v8 v9 v10:V) (h:Hp):Prop:=
 p.bin .leq 3 false false v10 v7 fun x1=>
 p.cond x1
 (fun _=>
  p.faddr 133 v8 2 fun x2=>
  p.load h 39 x2 fun x3=>
  p.faddr 74 v2 3 fun x4=>
  p.load h 29 x4 fun x5=>
  p.iaddr 29 x5 v5 fun x6=>
  p.load h 35 x6 fun x7=>
  p.iaddr 35 x7 v9 fun x8=>
  p.load h 39 x8 fun x9=>
  p.iaddr 39 x9 v10 fun x10=>
  p.load h 48 x10 fun x11=>
  p.bsl h 39 1 [(0,x11)] fun x12 h13 b14=>
  p.load h13 48 x10 fun x15=>
  p.same x15 x11 (
  p.load h13 39 x8 fun x16=>
  p.same x16 x9 (
  p.load h13 35 x6 fun x17=>
  p.same x17 x7 (
  p.load h13 29 x4 fun x18=>
  p.same x18 x5 (
  p.load h13 39 x2 fun x19=>
  p.same x19 x3 (
  p.ebui h13 #[39,39] .append [x3,x12] fun x20 h21=>
  p.faddr 133 v8 2 fun x22=>
  p.store h21 39 x22 x20 fun h23=>
  p.bin .add 3 false true v10 (.int .i64 1) fun x24=>
  l 2 [v2,v3,v4,v5,v6,v7,v8,v9,x24] h23))))))
 (fun _=>
  p.bin .add 3 false true v9 (.int .i64 1) fun x25=>
  l 1 [v2,v3,v4,v5,v6,v7,v8,x25] h)
theorem q_calc_eval_span_2 (p:Pr) (l:LL) (Q:QQ) (s:List V) (h:Hp):zb5 p l Q (nth s 2) (nth s 3) (nth s 4) (nth s 5) (nth s 6) (nth s 7) (nth s 8) (nth s 9) (nth s 10) h=zaN.K p EE l Q [true,true,true,true,true,true,false,true,false,false,true,false,false,true,false] (nths s 81 0) h:=by kernel_rfl
theorem zgC {Q:QQ} {v2 v3 v4 v5 v6 v7 v8 v9 v10:V} {h:Hp} (H:zb5 (Pu EE) (zaN.L EE Q) Q v2 v3 v4 v5 v6 v7 v8 v9 v10 h):zb6 Q v2 v3 v4 v5 v6 v7 v8 v9 v10 h:=
 labR (path:=[true,true,true,true,true,true,false,true,false,false,true,false,false,true,false]) rfl rfl fun s e=>by cases e; exact cast (q_calc_eval_span_2 _ _ _ s h) H
noncomputable def c_calc_eval_call:Code:=match Tryz.f69.body with | some c=>c | none=>.skip
noncomputable def zbx:Fl:=⟨Tryz.f69,c_calc_eval_call,[([false,true,false,true,true],[2,3,4,5,9,10,11])]⟩
abbrev zaU (Q:QQ) (v2 v3 v4 v5 v9 v10 v11:V) (h:Hp):Prop:=zbx.L EE Q 1 [v2,v3,v4,v5,v9,v10,v11] h
noncomputable def zdy (p:Pr) (l:LL) (Q:QQ) (v0 v1:V) (h:Hp):Prop:=
 p.box h 74 v0 fun x1 h2 b3=>
 p.box h2 88 v1 fun x4 h5 b6=>
 p.alloc h5 48 fun x7 h8 b9=>
 p.faddr 88 x4 5 fun x10=>
 p.load h8 86 x10 fun x11=>
 p.lbui h8 #[86] .len [x11] fun x12=>
 l 1 [x1,x4,x7,.nils,x11,x12,(.int .i64 0)] h8
theorem q_calc_eval_call_0 (p:Pr) (l:LL) (Q:QQ) (v0 v1:V) (h:Hp):zdy p l Q v0 v1 h=zbx.K p EE l Q [] ([v0,v1]++List.replicate 43 zj) h:=by kernel_rfl
theorem a_calc_eval_call {Q:QQ} {v0 v1:V} {h:Hp} (H:zdy (Pu EE) (zbx.L EE Q) Q v0 v1 h):Ans EE 69 [v0,v1] h Q:=
 ansL (F:=zbx) (by kernel_rfl) (by kernel_rfl) (by kernel_rfl) (by kernel_rfl) (cast (q_calc_eval_call_0 _ _ _ v0 v1 h) H)
noncomputable def zbC (p:Pr) (l:LL) (Q:QQ) (v2 v3 v4 v5 v9 v10 v11:V) (h:Hp):Prop:=
 p.bin .lss 3 false false v11 v10 fun x1=>
 p.cond x1
 (fun _=>
  p.iaddr 86 v9 v11 fun x2=>
  p.load h 3 x2 fun x3=>
  p.faddr 74 v2 0 fun x4=>
  p.load h 43 x4 fun x5=>
  p.iaddr 43 x5 x3 fun x6=>
  p.faddr 88 x6 0 fun x7=>
  p.load h 3 x7 fun x8=>
  p.bin .eql 3 false true x8 (.int .i64 6) fun x9=>
  p.cond x9
  (fun _=>
  p.load h 74 v2 fun x10=>
  p.faddr 74 v2 0 fun x11=>
  p.load h 43 x11 fun x12=>
  p.iaddr 43 x12 x3 fun x13=>
  p.load h 88 x13 fun x14=>
  p.call 106 [x10,x14] h fun x15 h16=>
  p.bsl h16 131 1 [(0,x15)] fun x17 h18 b19=>
  p.ebui h18 #[131,131] .append [v5,x17] fun x20 h21=>
  p.bin .add 3 false true v11 (.int .i64 1) fun x22=>
  l 1 [v2,v3,v4,x20,v9,v10,x22] h21)
  (fun _=>
  p.load h 74 v2 fun x23=>
  p.call 37 [x23,x3] h fun x24 h25=>
  p.bsl h25 39 1 [(0,x24)] fun x26 h27 b28=>
  p.build 133 [(2,x26)] fun x29=>
  p.bsl h27 131 1 [(0,x29)] fun x30 h31 b32=>
  p.ebui h31 #[131,131] .append [v5,x30] fun x33 h34=>
  p.bin .add 3 false true v11 (.int .i64 1) fun x35=>
  l 1 [v2,v3,v4,x33,v9,v10,x35] h34))
 (fun _=>
  p.faddr 88 v3 2 fun x36=>
  p.load h 9 x36 fun x37=>
  p.call 107 [x37,v5] h fun x38 h39=>
  p.store h39 48 v4 x38 fun h40=>
  p.load h40 48 v4 fun x41=>
  Q x41 h40)
theorem q_calc_eval_call_1 (p:Pr) (l:LL) (Q:QQ) (s:List V) (h:Hp):zbC p l Q (nth s 2) (nth s 3) (nth s 4) (nth s 5) (nth s 9) (nth s 10) (nth s 11) h=zbx.K p EE l Q [true,true,false,true,false] (nths s 45 0) h:=by kernel_rfl
theorem zd1 {Q:QQ} {v2 v3 v4 v5 v9 v10 v11:V} {h:Hp} (H:zbC (Pu EE) (zbx.L EE Q) Q v2 v3 v4 v5 v9 v10 v11 h):zaU Q v2 v3 v4 v5 v9 v10 v11 h:=
 labR (path:=[true,true,false,true,false]) rfl rfl fun s e=>by cases e; exact cast (q_calc_eval_call_1 _ _ _ s h) H
noncomputable def c_calc_eval_two:Code:=match Tryz.f71.body with | some c=>c | none=>.skip
noncomputable def zf1:Fl:=⟨Tryz.f71,c_calc_eval_two,[]⟩
noncomputable def zeI (p:Pr) (l:LL) (Q:QQ) (v0 v1:V) (h:Hp):Prop:=
 p.box h 74 v0 fun x1 h2 b3=>
 p.box h2 88 v1 fun x4 h5 b6=>
 p.alloc h5 48 fun x7 h8 b9=>
 p.load h8 74 x1 fun x10=>
 p.faddr 88 x4 5 fun x11=>
 p.load h8 86 x11 fun x12=>
 p.iaddr 86 x12 (.int .i64 0) fun x13=>
 p.load h8 3 x13 fun x14=>
 p.alloc h8 48 fun x15 h16 b17=>
 p.load h16 3 x13 fun x18=>
 p.same x18 x14 (
 p.load h16 86 x11 fun x19=>
 p.same x19 x12 (
 p.load h16 74 x1 fun x20=>
 p.same x20 x10 (
 p.call 37 [x10,x14] h16 fun x21 h22=>
 p.sameb h22 h8.n b17 (
 p.store h22 48 x15 x21 fun h23=>
 p.faddr 88 x4 0 fun x24=>
 p.load h23 3 x24 fun x25=>
 p.load h23 48 x15 fun x26=>
 p.load h23 74 x1 fun x27=>
 p.faddr 88 x4 5 fun x28=>
 p.load h23 86 x28 fun x29=>
 p.iaddr 86 x29 (.int .i64 1) fun x30=>
 p.load h23 3 x30 fun x31=>
 p.call 37 [x27,x31] h23 fun x32 h33=>
 p.load h33 48 x15 fun x34=>
 p.same x34 x26 (
 p.load h33 3 x24 fun x35=>
 p.same x35 x25 (
 p.call 109 [x25,x26,x32] h33 fun x36 h37=>
 p.store h37 48 x7 x36 fun h38=>
 p.load h38 48 x7 fun x39=>
 Q x39 h38))))))
theorem q_calc_eval_two_0 (p:Pr) (l:LL) (Q:QQ) (v0 v1:V) (h:Hp):zeI p l Q v0 v1 h=zf1.K p EE l Q [] ([v0,v1]++List.replicate 20 zj) h:=by kernel_rfl
theorem a_calc_eval_two {Q:QQ} {v0 v1:V} {h:Hp} (H:zeI (Pu EE) (zf1.L EE Q) Q v0 v1 h):Ans EE 71 [v0,v1] h Q:=
 ansL (F:=zf1) (by kernel_rfl) (by kernel_rfl) (by kernel_rfl) (by kernel_rfl) (cast (q_calc_eval_two_0 _ _ _ v0 v1 h) H)
noncomputable def c_calc_eval_sheet:Code:=match Tryz.f105.body with | some c=>c | none=>.skip
noncomputable def zem:Fl:=⟨Tryz.f105,c_calc_eval_sheet,[]⟩
noncomputable def zda (p:Pr) (l:LL) (Q:QQ) (v0 v1:V) (h:Hp):Prop:=
 p.box h 74 v0 fun x1 h2 b3=>
 p.box h2 85 v1 fun x4 h5 b6=>
 p.faddr 85 x4 0 fun x7=>
 p.load h5 9 x7 fun x8=>
 p.bin .eql 9 false true x8 (.str []) fun x9=>
 p.cond x9
 (fun _=>
  p.faddr 74 x1 2 fun x10=>
  p.load h5 26 x10 fun x11=>
  p.faddr 74 x1 1 fun x12=>
  p.load h5 9 x12 fun x13=>
  p.call 19 [x11,x13] h5 fun x14 h15=>
  Q x14 h15)
 (fun _=>
  p.faddr 74 x1 2 fun x16=>
  p.load h5 26 x16 fun x17=>
  p.faddr 85 x4 0 fun x18=>
  p.load h5 9 x18 fun x19=>
  p.call 19 [x17,x19] h5 fun x20 h21=>
  Q x20 h21)
theorem zlt (p:Pr) (l:LL) (Q:QQ) (v0 v1:V) (h:Hp):zda p l Q v0 v1 h=zem.K p EE l Q [] ([v0,v1]++List.replicate 16 zj) h:=by kernel_rfl
theorem a_calc_eval_sheet {Q:QQ} {v0 v1:V} {h:Hp} (H:zda (Pu EE) (zem.L EE Q) Q v0 v1 h):Ans EE 105 [v0,v1] h Q:=
 ansL (F:=zem) (by kernel_rfl) (by kernel_rfl) (by kernel_rfl) (by kernel_rfl) (cast (zlt _ _ _ v0 v1 h) H)
end
end Go.Proofs.YtbchdlelmkmagaaGreatDoor.VM
namespace Go.Proofs.YtbchdlelmkmagaaGreatDoor.VM
open Go
set_option linter.unusedVariables false
set_option linter.unusedSectionVars false
set_option linter.unusedSimpArgs false
set_option maxRecDepth 20000
noncomputable section
attribute [local instance] syZ
def zen (F:List Spt) (c:Spt→Nat):Spt→Option V:=fun s=>if s ∈ F then some (.int .i64 (c s:Int)) else none
def cI (nd:Spt→List Spt) (F:List Spt) (i:Nat):Spt→Nat:=fun y=>if y ∈ F.take i then zgu (nd y) F else 0
def uI (nd:Spt→List Spt) (F:List Spt) (i:Nat):Spt→List Spt:=fun n=>if n ∈ F then (F.take i).filter (fun s=>(nd s).contains n) else []
def cK (nd:Spt→List Spt) (F:List Spt) (i:Nat) (s:Spt) (k:Nat):Spt→Nat:=fun y=>if y=s then zgu ((nd s).take k) F else cI nd F i y
def uK (nd:Spt→List Spt) (F:List Spt) (i:Nat) (s:Spt) (k:Nat):Spt→List Spt:=fun n=>if n ∈ F∧n ∈ (nd s).take k then uI nd F i n++[s] else uI nd F i n
section
variable {nd:Spt→List Spt} {F:List Spt} {i:Nat} {s:Spt}
theorem zbI {α:Type} {l:List α} {k:Nat} {x:α} (h:l[k]? = some x):l.take (k+1)=l.take k++[x]:=by
 obtain ⟨hk,e⟩:=List.getElem?_eq_some_iff.1 h
 rw [List.take_succ_eq_append_getElem hk,e]
theorem not_take {α:Type} {l:List α} (hd:l.Nodup) {k:Nat} {x:α} (h:l[k]? = some x):x ∉ l.take k:=by
 intro hx
 rw [← List.take_append_drop k l] at hd
 refine (List.nodup_append.1 hd).2.2 x hx x ?_ rfl
 exact List.mem_of_getElem? (i:=0) (by rw [List.getElem?_drop]; exact h)
theorem want_snoc {l:List Spt} {k:Nat} {x:Spt} (h:l[k]? = some x) (F:List Spt):zgu (l.take (k+1)) F=zgu (l.take k) F+(if x ∈ F then 1 else 0):=by
 unfold zgu
 rw [zbI h,List.filter_append,List.length_append]
 by_cases hx:x ∈ F <;> simp [hx]
theorem want_le (l F:List Spt):zgu l F≤l.length:=List.length_filter_le _ _
theorem cK_0 (hF:F.Nodup) (h:F[i]? = some s):∀ y,cI nd F i y=cK nd F i s 0 y:=fun y=>by
 unfold cK
 split
 ·rename_i e
  subst e
  unfold cI
  rw [if_neg (not_take hF h)]
  simp [zgu]
 ·rfl
theorem uK_0:∀ n,uI nd F i n=uK nd F i s 0 n:=fun n=>by unfold uK; simp
theorem cK_end (h:F[i]? = some s):∀ y,cK nd F i s (nd s).length y=cI nd F (i+1) y:=fun y=>by
 unfold cK cI
 rw [List.take_length,zbI h]
 by_cases e:y=s
 ·subst e; simp
 ·simp [e]
theorem uK_end (h:F[i]? = some s):∀ n,uK nd F i s (nd s).length n=uI nd F (i+1) n:=fun n=>by
 unfold uK uI
 rw [List.take_length,zbI h,List.filter_append]
 by_cases e:n ∈ F
 ·by_cases e2:n ∈ nd s <;> simp [e,e2]
 ·simp [e]
theorem zlw {c c':Spt→Nat} (h:∀ y,c y=c' y):∀ y,zen F c y=zen F c' y:=fun y=>by unfold zen; rw [h]
theorem cK_y {k:Nat} {n:Spt} (hs:s ∈ F) (h:(nd s)[k]? = some n) (hn:n ∈ F):∀ y,updF (zen F (cK nd F i s k)) s (.int .i64 ((cK nd F i s k s+1:Nat):Int)) y=zen F (cK nd F i s (k+1)) y:=fun y=>by
 unfold updF zen cK
 by_cases e:y=s
 ·subst e
  rw [if_pos rfl,if_pos hs,if_pos rfl,if_pos rfl,want_snoc h,if_pos hn]
 ·simp [e]
theorem cK_n {k:Nat} {n:Spt} (h:(nd s)[k]? = some n) (hn:n ∉ F):∀ y,zen F (cK nd F i s k) y=zen F (cK nd F i s (k+1)) y:=fun y=>by
 unfold zen cK
 rw [want_snoc h,if_neg hn]
 rfl
theorem uK_y {k:Nat} {n:Spt} (hd:(nd s).Nodup) (h:(nd s)[k]? = some n) (hn:n ∈ F):∀ m,addU (uK nd F i s k) n s m=uK nd F i s (k+1) m:=fun m=>by
 unfold addU uK
 rw [zbI h]
 by_cases e:m=n
 ·subst e
  rw [if_pos rfl,if_neg (fun q=>not_take hd h q.2),if_pos ⟨hn,by simp⟩]
 ·rw [if_neg e]
  simp [e]
theorem uK_n {k:Nat} {n:Spt} (h:(nd s)[k]? = some n) (hn:n ∉ F):∀ m,uK nd F i s k m=uK nd F i s (k+1) m:=fun m=>by
 unfold uK
 rw [zbI h]
 by_cases e:m=n
 ·subst e; simp [hn]
 ·simp [e]
theorem uK_len (k:Nat) (n:Spt):(uK nd F i s k n).length≤F.length+1:=by
 have:(uI nd F i n).length≤F.length:=by
  unfold uI
  split
  ·exact Nat.le_trans (List.length_filter_le _ _) (by rw [List.length_take]; omega)
  ·simp
 unfold uK
 split
 ·rw [List.length_append]; simpa using this
 ·omega
end
structure OS (bk:Bok) (M N N2 bL bU b1:Nat) (g:Hp) (sv v4:V):Prop where
 good:Good bk
 MN:M≤N
 gn:g.n=N
 lN:N≤bL
 uN:N≤bU
 ne:bL ≠ bU
 l2:bL < N2
 u2:bU < N2
 b1N:b1 < N
 box:g.t.get b1=some (.cells [sv] 26 false)
 shs:zdB M g sv bk
 all:Sps g v4 (zt bk)
 in4:In N v4
 few:∀ s ∈ zt bk,Few bk s
theorem zg4 {F:List Spt} {c:Spt→Nat} {n:Spt} (h:n ∈ F):zen F c n=some (.int .i64 (c n:Int)):=if_pos h
theorem leftF_n {F:List Spt} {c:Spt→Nat} {n:Spt} (h:n ∉ F):zen F c n=none:=if_neg h
theorem needs_loop3 (Q:V→Hp→Prop) {bk:Bok} {M N N2 bL bU b1:Nat} {g:Hp} {sv v4:V} (S:OS bk M N N2 bL bU b1 g sv v4) {i:Nat} {s:Spt} (hs:(zt bk)[i]? = some s)
  (hS:Hp) (f0:Spt→Option V) (t:Nat) (nv:V) (ht:hS.t.get t=some (.cells (spC s) 42 false)) (t1:t < hS.n) (tl:t ≠ bL) (tu:t ≠ bU) (tf:∀ m v,f0 m=some v→zI v ≠ some t) (tN:N2≤t)
  (hnv:Sps hS nv (ndR bk s)) (nin:In hS.n nv) (nout:∀ c,zI nv=some c→c ≠ bL∧c ≠ bU∧∀ m v,f0 m=some v→zI v ≠ some c) (hn2:N2≤hS.n) (a40 a41 a42:V) 
  (hq:∀ h fU,zbP spV h bL (zen (zt bk) (cI (ndR bk) (zt bk) (i+1)))→UMap N2 h bU fU (uI (ndR bk) (zt bk) (i+1))→N2≤h.n→Ext N hS h→zgU Q (.ptr b1 0) .nils .nils v4 (.mp bL) (.mp bU) (.ptr t 0) a40 a41 a42 nv (.int .i64 (ndR bk s).length) (.int .i64 (ndR bk s).length) h):
  ∀ (j k:Nat),(ndR bk s).length - k=j→k≤(ndR bk s).length→∀ (h:Hp) (fU:Spt→Option V),zbP spV h bL (zen (zt bk) (cK (ndR bk) (zt bk) i s k))→UMap N2 h bU fU (uK (ndR bk) (zt bk) i s k)→UF bL bU f0 fU hS h→Ext N hS h →
   zgU Q (.ptr b1 0) .nils .nils v4 (.mp bL) (.mp bU) (.ptr t 0) a40 a41 a42 nv (.int .i64 (ndR bk s).length) (.int .i64 k) h:=by
 have hlN:=S.lN
 have huN:=S.uN
 have hne:=S.ne
 have hl2:=S.l2
 have hu2:=S.u2
 have hlen:=ndR_len S.good s
 have hFl:=zcE S.good
 have hsF:s ∈ zt bk:=List.mem_of_getElem? hs
 intro j
 induction j with
 | zero=>
  intro k hj hk h fU mL U x e
  have hke:k=(ndR bk s).length:=by omega
  subst hke
  exact hq h fU (mL.congr (zlw (cK_end hs))) (U.congr (uK_end hs)) (Nat.le_trans hn2 x.n) e
 | succ j ih=>
  intro k hj hk h fU mL U x e
  have xn:=x.n
  apply zkD
  unfold zeO
  rw [zr,decide_eq_true (by omega:k < (ndR bk s).length),zc]
  have hkk:k < (ndR bk s).length:=by omega
  obtain ⟨n,hn⟩:∃ n,(ndR bk s)[k]? = some n:=⟨_,List.getElem?_eq_getElem hkk⟩
  have hnvh:Sps h nv (ndR bk s):=by
   refine ⟨hnv.sized,hnv.at_.imp id ?_⟩
   rintro ⟨b,off,vs,h1,h2,h3⟩
   have hb:zI nv=some b:=by rcases h3 with ⟨c,rfl⟩ | ⟨lo,z,rfl⟩ <;> rfl
   obtain ⟨o1,o2,o3⟩:=nout b hb
   refine ⟨b,off,vs,?_,h2,h3⟩
   unfold zas at h1 ⊢
   rw [x.keep b (nin b hb) o1 o2 o3]
   exact h1
  have hth:h.t.get t=some (.cells (spC s) 42 false):=by rw [x.keep t t1 tl tu tf]; exact ht
  obtain ⟨b2,o2,m1,m2,_⟩:=zaT hnvh zg zf hn
  rw [m1,m2]
  refine zq zf fun h1 t4 w1=>?_
  refine zC zf w1.at_ (x:=spV n) rfl rfl (r:=spC n) rfl fun h2 w2=>?_
  have n1:=w1.n
  have n2:=w2.n
  have e1:=w1.b
  have old2:∀ c,c < h.n→h2.t.get c=h.t.get c:=fun c hc=>by rw [w2.other c (by omega),w1.old c hc]
  rw [zd zf w2.at_ (l:=spC n) rfl]
  show (Pu EE).look h2 _ (.mp bL) (spV n) true _
  have mL2:zbP spV h2 bL (zen (zt bk) (cK (ndR bk) (zt bk) i s k)):=mL.keep (old2 bL (by omega))
  have U2:UMap N2 h2 bU fU (uK (ndR bk) (zt bk) i s k):=U.keep (by omega) (old2 bU (by omega)) fun m v c hm hc=>old2 c ((U.ats m v hm).in_ c hc)
  have x2:UF bL bU fU fU h h2:=⟨by omega,fun c hc _ _ _=>old2 c hc,fun m v c hm hc=>.inl ⟨m,v,hm,hc⟩⟩
  have hth2:h2.t.get t=some (.cells (spC s) 42 false):=by rw [old2 t (by omega)]; exact hth
  by_cases hnF:n ∈ zt bk
  ·rw [pu_lookok m_int zfU mL2 n (zg4 hnF),zao,zam,zc,zd zf hth2 (l:=spC s) rfl]
   show (Pu EE).look h2 _ (.mp bL) (spV s) false _
   have hcs:cK (ndR bk) (zt bk) i s k s≤100000:=by
    unfold cK
    rw [if_pos rfl]
    exact Nat.le_trans (want_le _ _) (by rw [List.length_take]; omega)
   rw [zgj m_int zfU mL2 s (zg4 hsF),zK _ _ _ _ (by omega)]
   show (Pu EE).mape h2 _ (.mp bL) (spV s) _
   obtain ⟨nb,k1,k2⟩:=pu_mape m_int zfU mL2 s (zg4 hsF)
   rw [k1]
   show (Pu EE).look h2 _ (.mp bL) (spV s) false _
   rw [zgj m_int zfU mL2 s (zg4 hsF),zab,zam]
   refine k2 _ _ _ fun h3 bl w3 mL3=>?_
   have n3:=w3.n
   have mL3:=mL3.congr (cK_y hsF hn hnF)
   have U3:UMap N2 h3 bU fU (uK (ndR bk) (zt bk) i s k):=U2.keep (by omega) (w3.other bU (by omega)) fun m v c hm hc=>w3.other c (by have:=(U2.ats m v hm).ge c hc; omega)
   have x3:UF bL bU fU fU h2 h3:=⟨by omega,fun c hc q _ _=>w3.other c q,fun m v c hm hc=>.inl ⟨m,v,hm,hc⟩⟩
   have ht4:h3.t.get t4=some (.cells (spC n) 42 false):=by rw [w3.other t4 (by omega)]; exact w2.at_
   have ht3:h3.t.get t=some (.cells (spC s) 42 false):=by rw [w3.other t tl]; exact hth2
   rw [zd zf ht4 (l:=spC n) rfl,zd zf ht3 (l:=spC s) rfl]
   refine users_add (bL:=bL) U3 hu2 (by omega) n s (by have:=uK_len (nd:=ndR bk) (F:=zt bk) (i:=i) (s:=s) k n; omega) fun h4 f4 U4 x4 y4 z4=>?_
   rw [zK _ _ _ _ (by omega)]
   have xx:=((x.trans x2).trans x3).trans x4
   refine ih (k+1) (by omega) (by omega) h4 f4 (mL3.keep (z4 bL hl2 hne)) (U4.congr (uK_y ((needsR_nodup S.good.ris _)) hn hnF)) xx ?_
   refine e.trans ⟨?_,fun c hc=>?_⟩
   ·have:=x4.n; omega
   ·rw [z4 c (by omega) (by omega),w3.other c (by omega),old2 c (by have:=hn2; omega)]
  ·rw [pu_lookok_none m_int zfU mL2 n (leftF_n hnF) z_int,zao,zam,zb,zK _ _ _ _ (by omega)]
   refine ih (k+1) (by omega) (by omega) h2 fU (mL2.congr (cK_n hn hnF)) (U2.congr (uK_n hn hnF)) (x.trans x2) (e.trans ⟨by omega,fun c hc=>old2 c (by omega)⟩)
end
end Go.Proofs.YtbchdlelmkmagaaGreatDoor.VM
namespace Go.Proofs.YtbchdlelmkmagaaGreatDoor.VM
open Go
set_option linter.unusedVariables false
set_option linter.unusedSectionVars false
set_option linter.unusedSimpArgs false
set_option maxRecDepth 20000
noncomputable section
attribute [local instance] syZ
theorem users_loop2 (Q:V→Hp→Prop) {bk:Bok} {M N N2 bL bU b1:Nat} {g:Hp} {sv v4:V} (S:OS bk M N N2 bL bU b1 g sv v4)
  (hq:∀ h fU,zbP spV h bL (zen (zt bk) (cI (ndR bk) (zt bk) (zt bk).length))→UMap N2 h bU fU (uI (ndR bk) (zt bk) (zt bk).length)→N2≤h.n→Ext N g h →
   zg8 Q (.ptr b1 0) .nils .nils v4 (.mp bL) (.mp bU) v4 (.int .i64 (zt bk).length) (.int .i64 (zt bk).length) h):
  ∀ (j i:Nat),(zt bk).length - i=j→i≤(zt bk).length→∀ (h:Hp) (fU:Spt→Option V),zbP spV h bL (zen (zt bk) (cI (ndR bk) (zt bk) i))→UMap N2 h bU fU (uI (ndR bk) (zt bk) i)→N2≤h.n→Ext N g h →
   zg8 Q (.ptr b1 0) .nils .nils v4 (.mp bL) (.mp bU) v4 (.int .i64 (zt bk).length) (.int .i64 i) h:=by
 have hlN:=S.lN
 have huN:=S.uN
 have hne:=S.ne
 have hl2:=S.l2
 have hu2:=S.u2
 have hgn:=S.gn
 have hFl:=zcE S.good
 have hFn:=(fCells_ris S.good).nodup
 intro j
 induction j with
 | zero=>
  intro i hj hi h fU mL U hn e
  have:i=(zt bk).length:=by omega
  subst this
  exact hq h fU mL U hn e
 | succ j ih=>
  intro i hj hi h fU mL U hn e
  have en:=e.n
  apply zkL
  unfold zeY
  rw [zr,decide_eq_true (by omega:i < (zt bk).length),zc]
  have hii:i < (zt bk).length:=by omega
  obtain ⟨s,hs⟩:∃ s,(zt bk)[i]? = some s:=⟨_,List.getElem?_eq_getElem hii⟩
  obtain ⟨b2,o2,m1,m2,_⟩:=zaT (S.all.ext e S.in4) zg zf hs
  rw [m1,m2]
  refine zq zf fun h1 t w1=>?_
  refine zC zf w1.at_ (x:=spV s) rfl rfl (r:=spC s) rfl fun h2 w2=>?_
  have n1:=w1.n
  have n2:=w2.n
  have e1:=w1.b
  have old2:∀ c,c < h.n→h2.t.get c=h.t.get c:=fun c hc=>by rw [w2.other c (by omega),w1.old c hc]
  have x2:Ext N g h2:=e.trans ⟨by omega,fun c hc=>old2 c (by omega)⟩
  have hbox:h2.t.get b1=some (.cells [sv] 26 false):=by rw [x2.old b1 S.b1N]; exact S.box
  rw [zd zy hbox (l:=[sv]) rfl,zd zf w2.at_ (l:=spC s) rfl]
  have hMN:=S.MN
  refine (dneeds_ok M h2 _ bk s ⟨sv,rfl,S.shs.ext (x2.mono S.MN)⟩ (by omega) S.good (S.few s (List.mem_of_getElem? hs))).mono ?_
  rintro nv h3 ⟨o3,x3⟩
  have n3:=x3.n
  rw [zp o3.sps zg]
  have U3:UMap N2 h3 bU fU (uI (ndR bk) (zt bk) i):=U.keep (by omega) (by rw [x3.old bU (by omega),old2 bU (by omega)]) fun m v c hm hc=>by
   have:=(U.ats m v hm).in_ c hc
   rw [x3.old c (by omega),old2 c this]
  have mL3:zbP spV h3 bL (zen (zt bk) (cI (ndR bk) (zt bk) i)):=mL.keep (by rw [x3.old bL (by omega),old2 bL (by omega)])
  refine needs_loop3 Q S hs h3 fU t nv (by rw [x3.old t (by omega)]; exact w2.at_) (by omega) (by omega) (by omega) (fun m v hm hc=>by have:=(U.ats m v hm).in_ t hc; omega) (by omega) o3.sps o3.in_ (fun c hc=>?_) (by omega) _ _ _ (fun h4 f4 mL4 U4 hn4 x4=>?_)
   (ndR bk s).length 0 (by omega) (Nat.zero_le _) h3 fU (mL3.congr (zlw (cK_0 hFn hs))) (U3.congr uK_0) (UF.refl _ _ _ _) (Ext.refl _ _)
  ·have h1:=o3.ge c hc
   exact ⟨by omega,by omega,fun m v hm hv=>by have:=(U.ats m v hm).in_ c hv; omega⟩
  ·apply zkD
   unfold zeO
   rw [zr,decide_eq_false (by omega:¬ (ndR bk s).length < (ndR bk s).length),zb,zK _ _ _ _ (by omega)]
   exact ih (i+1) (by omega) (by omega) h4 f4 mL4 U4 hn4 ((x2.trans (x3.mono (by omega))).trans x4)
theorem left_loop1 (Q:V→Hp→Prop) {bk:Bok} {b1 bL N:Nat} {g:Hp} {v4:V} (hgn:g.n=N) (hN:N≤bL) (gd:Good bk) (all:Sps g v4 (zt bk)) (in4:In N v4)
  (hq:∀ h,zbP spV h bL (zen (zt bk) (cI (ndR bk) (zt bk) 0))→Ext N g h→bL < h.n→zhh Q (.ptr b1 0) .nils .nils v4 (.mp bL) v4 (.int .i64 (zt bk).length) (.int .i64 (zt bk).length) h):
  ∀ (j i:Nat),(zt bk).length - i=j→i≤(zt bk).length→∀ (h:Hp),zbP spV h bL (zen ((zt bk).take i) fun _=>0)→Ext N g h→bL < h.n →
   zhh Q (.ptr b1 0) .nils .nils v4 (.mp bL) v4 (.int .i64 (zt bk).length) (.int .i64 i) h:=by
 have hFl:=zcE gd
 intro j
 induction j with
 | zero=>
  intro i hj hi h mL e hb
  have:i=(zt bk).length:=by omega
  subst this
  rw [List.take_length] at mL
  exact hq h (mL.congr (zlw fun y=>by unfold cI; simp)) e hb
 | succ j ih=>
  intro i hj hi h mL e hb
  have en:=e.n
  apply zky
  unfold ze1
  rw [zr,decide_eq_true (by omega:i < (zt bk).length),zc]
  have hii:i < (zt bk).length:=by omega
  obtain ⟨s,hs⟩:∃ s,(zt bk)[i]? = some s:=⟨_,List.getElem?_eq_getElem hii⟩
  obtain ⟨b2,o2,m1,m2,_⟩:=zaT (all.ext e in4) zg zf hs
  rw [m1,m2]
  refine zq zf fun h1 t w1=>?_
  refine zC zf w1.at_ (x:=spV s) rfl rfl (r:=spC s) rfl fun h2 w2=>?_
  have n1:=w1.n
  have n2:=w2.n
  have e1:=w1.b
  have old2:∀ c,c < h.n→h2.t.get c=h.t.get c:=fun c hc=>by rw [w2.other c (by omega),w1.old c hc]
  rw [zd zf w2.at_ (l:=spC s) rfl]
  show (Pu EE).mapu h2 _ (.mp bL) (spV s) _ _
  refine pu_mapu m_int zfU (mL.keep (old2 bL hb)) s _ fun h3 bl w3 mL3=>?_
  have n3:=w3.n
  rw [zK _ _ _ _ (by omega)]
  refine ih (i+1) (by omega) (by omega) h3 (mL3.congr fun y=>?_) (e.trans ⟨by omega,fun c hc=>by rw [w3.other c (by omega),old2 c (by omega)]⟩) (by omega)
  unfold updF zen
  rw [zbI hs]
  by_cases ey:y=s
  ·subst ey; simp
  ·simp [ey]
end
end Go.Proofs.YtbchdlelmkmagaaGreatDoor.VM
namespace Go.Proofs.YtbchdlelmkmagaaGreatDoor.VM
open Go
set_option linter.unusedVariables false
set_option linter.unusedSectionVars false
set_option linter.unusedSimpArgs false
set_option maxRecDepth 20000
noncomputable section
attribute [local instance] syZ
theorem eql0 (a:Nat) (t:Nat) (cx cy:Bool) (q:V→Prop):(Pu EE).bin .eql t cx cy (.int .i64 a) (.int .i64 0) q↔q (.bool (decide (a=0))):=eqlN a 0 t cx cy q
theorem gtr0 (a:Nat) (t:Nat) (cx cy:Bool) (q:V→Prop):(Pu EE).bin .gtr t cx cy (.int .i64 a) (.int .i64 0) q↔q (.bool (decide (0 < a))):=by
 rw [zgc]
 have:decide ((0:Int) < (a:Int))=decide (0 < a):=by rw [decide_eq_decide]; omega
 rw [this]
theorem sub1 {a:Nat} (h:1≤a) (hl:a≤1000000) (t:Nat) (cx cy:Bool) (q:V→Prop):(Pu EE).bin .sub t cx cy (.int .i64 a) (.int .i64 1) q↔q (.int .i64 ((a - 1:Nat):Int)):=by
 rw [zdf,show (a:Int) - 1=((a - 1:Nat):Int) by omega,w64 _ (by omega)]
theorem pu_ifaceQ (b:Nat) (q:V→Prop):(Pu EE).iface 60 (.ptr b 0) q↔q (qV b):=by
 show (∃ v,((EE.ty.get 60).bind fun i=>ifaceV 60 (.ptr b 0) i)=some v∧q v)↔_
 have:((EE.ty.get 60).bind fun i=>ifaceV 60 (.ptr b 0) i)=some (qV b):=by kernel_rfl
 rw [this,zT]
structure QSt (N2 N3 bL b:Nat) (F:List Spt) (g:Hp) (h:Hp) (c:Spt→Nat) (q:List Spt) (qb:Nat) (v2:V) (done:List Spt):Prop where
 mL:zbP spV h bL (zen F c)
 qa:QAt N3 h b qb q
 old:∀ x,x < N3→x ≠ bL→h.t.get x=g.t.get x
 n3:N3≤h.n
 out:OwnS N3 h v2 done
 sep:∀ x,zI v2=some x→x ≠ b∧x ≠ qb
 cl:∀ s ∈ F,c s≤100000
section
variable {N2 N3 bL b:Nat} {F:List Spt} {g:Hp}
theorem QSt.keep {h h':Hp} {c:Spt→Nat} {q:List Spt} {qb:Nat} {v2:V} {done:List Spt} (S:QSt N2 N3 bL b F g h c q qb v2 done) (hb:bL < N3) (x:Ext h.n h h'):QSt N2 N3 bL b F g h' c q qb v2 done:=by
 have:=x.n
 have:=S.n3
 exact ⟨S.mL.keep (x.old bL (by omega)),S.qa.ext x,fun y hy hn=>by rw [x.old y (by omega),S.old y hy hn],by omega,S.out.keep x.n fun y hy=>x.old y (S.out.in_ y hy),S.sep,S.cl⟩
theorem QSt.push {h h':Hp} {c:Spt→Nat} {q q':List Spt} {qb qb':Nat} {v2:V} {done:List Spt} (S:QSt N2 N3 bL b F g h c q qb v2 done) (hb:bL < N3) (a:QAt N3 h' b qb' q') (f:QF b qb qb' h h'):QSt N2 N3 bL b F g h' c q' qb' v2 done:=by
 have:=f.n
 have h3:=S.n3
 have e1:=S.qa.nb
 have e2:=S.qa.nq
 refine ⟨S.mL.keep (f.keep bL (by omega) (by omega) (by omega)),a,fun y hy hn=>by rw [f.keep y (by omega) (by omega) (by omega),S.old y hy hn],by omega,S.out.keep f.n fun y hy=>f.keep y (S.out.in_ y hy) (S.sep y hy).1 (S.sep y hy).2,fun y hy=>⟨(S.sep y hy).1,fun e=>?_⟩,S.cl⟩
 rcases f.new with k | k
 ·exact (S.sep y hy).2 (e.trans k)
 ·have:=S.out.in_ y hy; omega
theorem QSt.left {h h':Hp} {c c':Spt→Nat} {q:List Spt} {qb:Nat} {v2:V} {done:List Spt} (S:QSt N2 N3 bL b F g h c q qb v2 done) (hb:bL < N3) {bl:Blk} (w:Wr h h' bL bl) (m:zbP spV h' bL (zen F c')) (hc:∀ s ∈ F,c' s≤100000):QSt N2 N3 bL b F g h' c' q qb v2 done:=by
 have:=w.n
 have h3:=S.n3
 have e1:=S.qa.nb
 have e2:=S.qa.nq
 exact ⟨m,S.qa.keep (by omega) (w.other b (by omega)) (w.other qb (by omega)),fun y hy hn=>by rw [w.other y hn,S.old y hy hn],by omega,S.out.keep (by omega) fun y hy=>w.other y (by have:=S.out.ge y hy; omega),S.sep,hc⟩
end
theorem relax_len (us:List Spt):∀ (c:Spt→Nat) (q:List Spt),Up q q.length→us.Nodup→(zez us c q).2.length≤q.length+us.length:=fun c q hu hn=>by
 have:=(relax_ok us c q hn hu).2.2.length_eq
 rw [this,List.length_append]
 have:=List.length_filter_le (fun u=>decide (c u - 1=0)) us
 omega
theorem relax_loop6 (Q:V→Hp→Prop) {N2 N3 bL bU b:Nat} {F:List Spt} {g:Hp} {v4 v2 uv:V} {done us:List Spt} (hb:bL < N3) (hb2:bL < N2) (hF:F.length≤100000) (huF:∀ u ∈ us,u ∈ F) (hun:us.Nodup) (huv:Sps g uv us) (hui:∀ c,zI uv=some c→N2≤c∧c < N3) (hul:us.length≤100000)
  {c0:Spt→Nat} {q0:List Spt} (hpos:∀ u ∈ us,1≤c0 u) (hup:Up q0 q0.length) (hql:q0.length≤100000)
  (hq:∀ h qb,QSt N2 N3 bL b F g h (zez us c0 q0).1 (zez us c0 q0).2 qb v2 done→zbX Q v2 .nils v4 (.mp bL) (.mp bU) (.ptr b 0) h):
  ∀ (j k:Nat),us.length - k=j→k≤us.length→∀ (h:Hp) (qb:Nat),QSt N2 N3 bL b F g h (zez (us.take k) c0 q0).1 (zez (us.take k) c0 q0).2 qb v2 done →
   zgT Q v2 .nils v4 (.mp bL) (.mp bU) (.ptr b 0) uv (.int .i64 us.length) (.int .i64 k) h:=by
 intro j
 induction j with
 | zero=>
  intro k hj hk h qb S
  apply zkN
  unfold ze5
  rw [zr,decide_eq_false (by omega:¬ k < us.length),zb]
  rw [List.take_of_length_le (by omega)] at S
  exact hq h qb S
 | succ j ih=>
  intro k hj hk h qb S
  have hkk:k < us.length:=by omega
  obtain ⟨u,hu⟩:∃ u,us[k]? = some u:=⟨_,List.getElem?_eq_getElem hkk⟩
  have hum:u ∈ us:=List.mem_of_getElem? hu
  have huF:=huF u hum
  have hn3:=S.n3
  apply zkN
  unfold ze5
  rw [zr,decide_eq_true hkk,zc]
  have huvh:Sps h uv us:=by
   refine ⟨huv.sized,huv.at_.imp id ?_⟩
   rintro ⟨y,off,vs,h1,h2,h3⟩
   have hy:zI uv=some y:=by rcases h3 with ⟨c,rfl⟩ | ⟨lo,z,rfl⟩ <;> rfl
   obtain ⟨o1,o2⟩:=hui y hy
   refine ⟨y,off,vs,?_,h2,h3⟩
   unfold zas at h1 ⊢
   rw [S.old y o2 (by omega)]
   exact h1
  obtain ⟨b2,o2,m1,m2,_⟩:=zaT huvh zg zf hu
  rw [m1,m2]
  refine zq zf fun h1 t w1=>?_
  refine zC zf w1.at_ (x:=spV u) rfl rfl (r:=spC u) rfl fun h2 w2=>?_
  have n1:=w1.n
  have n2:=w2.n
  have e1:=w1.b
  have x2:Ext h.n h h2:=⟨by omega,fun c hc=>by rw [w2.other c (by omega),w1.old c hc]⟩
  have S2:=S.keep hb x2
  rw [zd zf w2.at_ (l:=spC u) rfl]
  show (Pu EE).look h2 _ (.mp bL) (spV u) false _
  obtain ⟨c,hc⟩:∃ c,c=(zez (us.take k) c0 q0).1:=⟨_,rfl⟩
  obtain ⟨q,hqq⟩:∃ q,q=(zez (us.take k) c0 q0).2:=⟨_,rfl⟩
  have hrel:=relax_ok (us.take k) c0 q0 (hun.sublist (List.take_sublist _ _)) hup
  have hql2:=relax_len (us.take k) c0 q0 hup (hun.sublist (List.take_sublist _ _))
  have hsn:zez (us.take (k+1)) c0 q0=(decC c u,if decC c u u=0 then ziW q u else q):=by rw [zbI hu,relax_snoc,hc,hqq]
  rw [← hc,← hqq] at S S2
  rw [← hqq] at hql2
  have hcu:c u=c0 u:=by rw [hc,hrel.1,if_neg (not_take hun hu)]
  have hcu1:1≤c u:=by rw [hcu]; exact hpos u hum
  have hcl:=S.cl u huF
  have htl:(us.take k).length≤us.length:=by rw [List.length_take]; omega
  rw [zgj m_int zfU S2.mL u (zg4 huF),sub1 hcu1 (by omega)]
  show (Pu EE).mape h2 _ (.mp bL) (spV u) _
  obtain ⟨nb,k1,k2⟩:=pu_mape m_int zfU S2.mL u (zg4 huF)
  rw [k1]
  show (Pu EE).look h2 _ (.mp bL) (spV u) false _
  rw [zgj m_int zfU S2.mL u (zg4 huF),zab,zam]
  refine k2 _ _ _ fun h3 bl w3 mL3=>?_
  have n3:=w3.n
  have hdec:decC c u u=c u - 1:=by unfold decC; rw [if_pos rfl]
  have mL3:=mL3.congr (g:=zen F (decC c u)) fun y=>by
   unfold updF zen decC
   by_cases e:y=u
   ·subst e; simp [huF]
   ·simp [e]
  have S3:=S2.left hb w3 mL3 fun s hs=>by
   have:=S.cl s hs
   unfold decC
   split <;> omega
  have ht3:h3.t.get t=some (.cells (spC u) 42 false):=by rw [w3.other t (by omega)]; exact w2.at_
  rw [zd zf ht3 (l:=spC u) rfl]
  show (Pu EE).look h3 _ (.mp bL) (spV u) false _
  rw [zgj m_int zfU mL3 u (zg4 huF),eql0]
  by_cases hz:decC c u u=0
  ·rw [decide_eq_true hz,zc,pu_ifaceQ,zd zf ht3 (l:=spC u) rfl]
   show (Pu EE).iface _ (spV u) _
   rw [pu_ifaceS]
   refine (hpush_ok S3.qa u (by omega) S3.n3).mono ?_
   rintro y h4 ⟨qb',a4,f4⟩
   rw [zK _ _ _ _ (by omega)]
   refine ih (k+1) (by omega) (by omega) h4 qb' ?_
   rw [hsn,if_pos hz]
   exact S3.push hb a4 f4
  ·rw [decide_eq_false hz,zb,zK _ _ _ _ (by omega)]
   refine ih (k+1) (by omega) (by omega) h3 qb ?_
   rw [hsn,if_neg hz]
   exact S3
end
end Go.Proofs.YtbchdlelmkmagaaGreatDoor.VM
namespace Go.Proofs.YtbchdlelmkmagaaGreatDoor.VM
open Go
set_option linter.unusedVariables false
set_option linter.unusedSectionVars false
set_option linter.unusedSimpArgs false
set_option maxRecDepth 20000
noncomputable section
attribute [local instance] syZ
theorem uI_users (nd:Spt→List Spt) {F:List Spt} {x:Spt} (hx:x ∈ F):uI nd F F.length x=zdi nd F x:=by
 unfold uI zdi
 rw [if_pos hx,List.take_length]
theorem order_loop5 (Q:V→Hp→Prop) {nd:Spt→List Spt} {N2 N3 bL bU b:Nat} {F:List Spt} {g:Hp} {v4:V} {fU:Spt→Option V} (hb:bL < N3) (hb2:bL < N2) (hbU:bU < N3) (hbne:bU ≠ bL) (hF:F.length≤100000) (hgn:g.n=N3) (U:UMap N2 g bU fU (uI nd F F.length)) (hall:Sps g v4 F) (hin:∀ x,zI v4=some x→x < bL)
  (hq:∀ h c q qb v2 done R,(F.filter fun s=>decide (0 < c s))=R→zbp nd F.length F=(done,R)→QSt N2 N3 bL b F g h c q qb v2 done→zg9 Q v2 .nils (.mp bL) v4 (.int .i64 F.length) (.int .i64 (0:Nat)) h):
  ∀ (n:Nat) (R:List Spt),R.length=n→∀ (h:Hp) (c:Spt→Nat) (q:List Spt) (qb:Nat) (v2:V) (done:List Spt),OInv nd F R c q→QSt N2 N3 bL b F g h c q qb v2 done →
   zbp nd F.length F=(done++(zbp nd R.length R).1,(zbp nd R.length R).2)→done.length+R.length=F.length→zbX Q v2 .nils v4 (.mp bL) (.mp bU) (.ptr b 0) h:=by
 have stop:∀ (R:List Spt) (h:Hp) (c:Spt→Nat) (qb:Nat) (v2:V) (done:List Spt),OInv nd F R c []→QSt N2 N3 bL b F g h c [] qb v2 done →
   zbp nd F.length F=(done++(zbp nd R.length R).1,(zbp nd R.length R).2)→zbX Q v2 .nils v4 (.mp bL) (.mp bU) (.ptr b 0) h:=by
  intro R h c qb v2 done I S ho
  apply zkM
  unfold zeN
  refine (qlen_ok S.qa).mono ?_
  rintro y h1 ⟨rfl,rfl⟩
  rw [show (([]:List Spt).length:Int)=((0:Nat):Int) from rfl,gtr0,decide_eq_false (by omega:¬ 0 < 0),zb]
  obtain ⟨s1,s2⟩:=I.stop
  rw [zc8 s1] at ho
  have hv4:Sps h1 v4 F:=by
   refine Rd.ext hall (N:=bL) ⟨by rw [hgn]; exact S.n3,fun x hx=>S.old x (by omega) (by omega)⟩ hin
  rw [zp hv4 zg]
  exact hq h1 c [] qb v2 done R s2 (by simpa using ho) S
 intro n
 induction n with
 | zero=>
  intro R hR h c q qb v2 done I S ho hdl
  have hR0:R=[]:=List.length_eq_zero_iff.1 hR
  subst hR0
  have hq0:q=[]:=List.Perm.eq_nil (by have:=I.perm; simpa using this)
  subst hq0
  exact stop _ h c qb v2 done I S ho
 | succ n ih=>
  intro R hR h c q qb v2 done I S ho hdl
  cases hqq:q with
  | nil=>subst hqq; exact stop _ h c qb v2 done I S ho
  | cons x q1=>
   have hx:q[0]? = some x:=by rw [hqq]; rfl
   obtain ⟨p1,p2,p3⟩:=I.pick hx
   have hxF:x ∈ F:=I.sub.mem p2
   have hql:q.length≤F.length:=by
    rw [I.perm.length_eq]
    exact Nat.le_trans (List.length_filter_le _ _) I.sub.length_le
   have hq0:0 < q.length:=by rw [hqq]; simp
   have hn3:=S.n3
   apply zkM
   unfold zeN
   refine (qlen_ok S.qa).mono ?_
   rintro y h1 ⟨rfl,rfl⟩
   rw [gtr0,decide_eq_true hq0,zc,pu_ifaceQ]
   refine (hpop_ok S.qa hx (by omega) hn3).mono ?_
   rintro y h2 ⟨rfl,a2,f2⟩
   have S2:=S.push hb a2 f2
   rw [pu_assertS,zao,zam]
   refine zq zf fun h3 t w3=>?_
   refine zC zf w3.at_ (x:=spV x) rfl rfl (r:=spC x) rfl fun h4 w4=>?_
   have n3:=w3.n
   have n4:=w4.n
   have e3:=w3.b
   have x4:Ext h2.n h2 h4:=⟨by omega,fun c hc=>by rw [w4.other c (by omega),w3.old c hc]⟩
   have S4:=S2.keep hb x4
   have hn2:=S2.n3
   have hn4:=S4.n3
   rw [zd zf w4.at_ (l:=spC x) rfl]
   show (Pu EE).bsl h4 _ 1 [(0,spV x)] _
   refine zcg S4.out x (by omega) hn4 _ fun v5 h5 o5 x5 k5 m5=>?_
   have n5:=x5.n
   have ht5:h5.t.get t=some (.cells (spC x) 42 false):=by
    rw [k5 t (by omega) (fun e=>by have:=S2.out.in_ t e; omega)]; exact w4.at_
   have S5:QSt N2 N3 bL b F g h5 c (zfV q) qb v5 (done++[x]):=by
    have e1:=S4.qa.nb
    have e2:=S4.qa.nq
    refine ⟨S4.mL.keep (x5.old bL hb),S4.qa.keep n5 (k5 b S4.qa.bn fun e=>(S4.sep b e).1 rfl) (k5 qb S4.qa.qn fun e=>(S4.sep qb e).2 rfl),fun y hy hn=>by rw [x5.old y hy,S4.old y hy hn],by omega,o5,fun y hy=>?_,S4.cl⟩
    rcases m5 y hy with k | k
    ·exact S4.sep y k
    ·have:=S4.qa.bn
     have:=S4.qa.qn
     exact ⟨by omega,by omega⟩
   rw [zd zf ht5 (l:=spC x) rfl]
   show (Pu EE).look h5 _ (.mp bU) (spV x) false _
   have mU:zbP spV h5 bU fU:=U.map.keep (S5.old bU hbU hbne)
   have hus:=uI_users nd hxF
   have hnext:∀ h' qb',QSt N2 N3 bL b F g h' (zez (zdi nd F x) c (zfV q)).1 (zez (zdi nd F x) c (zfV q)).2 qb' v5 (done++[x])→zbX Q v5 .nils v4 (.mp bL) (.mp bU) (.ptr b 0) h':=by
    intro h' qb' S'
    have hl:=List.length_erase_of_mem p2
    refine ih (R.erase x) (by omega) h' _ _ qb' v5 (done++[x]) (I.step hx) S' ?_ ?_
    ·rw [ho,hR,zf3 p1,orderR_more n (R.erase x).length (R.erase x) (by omega) (by omega)]
     simp
    ·rw [List.length_append,hl]; simp; omega
   have hun:(zdi nd F x).Nodup:=I.ris.nodup.filter _
   have huF:∀ u ∈ zdi nd F x,u ∈ F:=fun u hu=>(List.mem_filter.1 hu).1
   have hpos:∀ u ∈ zdi nd F x,1≤c u:=fun u hu=>by
    obtain ⟨k1,k2⟩:=List.mem_filter.1 hu
    rw [I.cnt u k1]
    unfold zgu
    have:x ∈ (nd u).filter fun n=>R.contains n:=by
     rw [List.mem_filter]
     exact ⟨by simpa using k2,by simpa using p2⟩
    exact List.length_pos_of_mem this
   have hul:(zdi nd F x).length≤100000:=Nat.le_trans (List.length_filter_le _ _) hF
   obtain ⟨hup,hpp,_⟩:=hpop_heap I.up hx
   have hpl:(zfV q).length≤100000:=by have:=hpp.length_eq; simp at this; omega
   have fin:∀ uv,Sps g uv (zdi nd F x)→(∀ y,zI uv=some y→N2≤y∧y < N3)→(Pu EE).lbui h5 #[32] .len [uv] fun x22=>zgT Q v5 .nils v4 (.mp bL) (.mp bU) (.ptr b 0) uv x22 (.int .i64 0) h5:=by
    intro uv huv hui
    have huvh:Sps h5 uv (zdi nd F x):=by
     refine ⟨huv.sized,huv.at_.imp id ?_⟩
     rintro ⟨y,off,vs,h1,h2,h3⟩
     have hy:zI uv=some y:=by rcases h3 with ⟨c,rfl⟩ | ⟨lo,z,rfl⟩ <;> rfl
     obtain ⟨o1,o2⟩:=hui y hy
     refine ⟨y,off,vs,?_,h2,h3⟩
     unfold zas at h1 ⊢
     rw [S5.old y o2 (by omega)]
     exact h1
    rw [zp huvh zg]
    exact relax_loop6 Q hb hb2 hF huF hun huv hui hul hpos hup hpl hnext (zdi nd F x).length 0 (by omega) (Nat.zero_le _) h5 qb S5
   cases hfx:fU x with
   | none=>
    rw [pu_look_none m_users zfU mU x hfx z_users]
    have:=U.nones x hfx
    rw [hus] at this
    refine fin .nils (by rw [this]; exact Rd.nil _ _) fun y hy=>(by cases hy)
   | some uv=>
    rw [zgj m_users zfU mU x hfx]
    have o:=U.ats x uv hfx
    rw [hus] at o
    exact fin uv o.sps fun y hy=>⟨o.ge y hy,by have:=o.in_ y hy; omega⟩
theorem cyc_loop7 (Q:V→Hp→Prop) {N N3 bL:Nat} {F:List Spt} {g:Hp} {v4 v2:V} {c:Spt→Nat} {done:List Spt} (hb:bL < N3) (hF:F.length≤100000) (hgn:N3≤g.n) (hall:Sps g v4 F) (hin:In N3 v4) (m:zbP spV g bL (zen F c)) (hcl:∀ s ∈ F,c s≤100000) (hout:Sps g v2 done) (hi2:In g.n v2)
  (hq:∀ h v3,OwnS g.n h v3 (F.filter fun s=>decide (0 < c s))→Ext g.n g h→Q (.tup [v2,v3]) h):
  ∀ (j i:Nat),F.length - i=j→i≤F.length→∀ (h:Hp) (v3:V),OwnS g.n h v3 ((F.take i).filter fun s=>decide (0 < c s))→Ext g.n g h →
   zg9 Q v2 v3 (.mp bL) v4 (.int .i64 F.length) (.int .i64 i) h:=by
 intro j
 induction j with
 | zero=>
  intro i hj hi h v3 o e
  apply zkP
  unfold zeU
  rw [zr,decide_eq_false (by omega:¬ i < F.length),zb]
  rw [List.take_of_length_le (by omega)] at o
  exact hq h v3 o e
 | succ j ih=>
  intro i hj hi h v3 o e
  have hii:i < F.length:=by omega
  have en:=e.n
  obtain ⟨s,hs⟩:∃ s,F[i]? = some s:=⟨_,List.getElem?_eq_getElem hii⟩
  have hsF:s ∈ F:=List.mem_of_getElem? hs
  apply zkP
  unfold zeU
  rw [zr,decide_eq_true hii,zc]
  obtain ⟨b2,o2,m1,m2,_⟩:=zaT (hall.ext (e.mono hgn) hin) zg zf hs
  rw [m1,m2]
  refine zq zf fun h1 t w1=>?_
  refine zC zf w1.at_ (x:=spV s) rfl rfl (r:=spC s) rfl fun h2 w2=>?_
  have n1:=w1.n
  have n2:=w2.n
  have e1:=w1.b
  have x2:Ext h.n h h2:=⟨by omega,fun c hc=>by rw [w2.other c (by omega),w1.old c hc]⟩
  rw [zd zf w2.at_ (l:=spC s) rfl]
  show (Pu EE).look h2 _ (.mp bL) (spV s) false _
  have m2':zbP spV h2 bL (zen F c):=m.keep (by rw [x2.old bL (by omega),e.old bL (by omega)])
  have hcs:=hcl s hsF
  rw [zgj m_int zfU m2' s (zg4 hsF),gtr0]
  have o2:=o.keep x2.n fun y hy=>x2.old y (o.in_ y hy)
  by_cases hz:0 < c s
  ·rw [decide_eq_true hz,zc,zd zf w2.at_ (l:=spC s) rfl]
   show (Pu EE).bsl h2 _ 1 [(0,spV s)] _
   refine zcg o2 s ?_ (by omega) _ fun v5 h5 o5 x5 k5 m5=>?_
   ·have:=List.length_filter_le (fun s=>decide (0 < c s)) (F.take i)
    have:(F.take i).length≤F.length:=by rw [List.length_take]; omega
    omega
   ·rw [zK _ _ _ _ (by omega)]
    refine ih (i+1) (by omega) (by omega) h5 v5 ?_ ((e.trans (x2.mono en)).trans x5)
    rw [zbI hs,List.filter_append,List.filter_cons_of_pos (by simpa using hz)]
    exact o5
  ·rw [decide_eq_false hz,zb,zK _ _ _ _ (by omega)]
   refine ih (i+1) (by omega) (by omega) h2 v3 ?_ (e.trans (x2.mono en))
   rw [zbI hs,List.filter_append,List.filter_cons_of_neg (by simpa using hz)]
   simpa using o2
end
end Go.Proofs.YtbchdlelmkmagaaGreatDoor.VM
namespace Go.Proofs.YtbchdlelmkmagaaGreatDoor.VM
open Go
set_option linter.unusedVariables false
set_option linter.unusedSectionVars false
set_option linter.unusedSimpArgs false
set_option maxRecDepth 20000
noncomputable section
attribute [local instance] syZ
theorem push_loop4 (Q:V→Hp→Prop) {N2 N3 bL bU b:Nat} {F:List Spt} {g:Hp} {v4:V} {c:Spt→Nat} (hb:bL < N3) (hF:F.length≤100000) (hgn:g.n=N3) (hall:Sps g v4 F) (hin:∀ x,zI v4=some x→x < bL)
  (hq:∀ h q qb,QSt N2 N3 bL b F g h c q qb .nils []→Up q q.length→q.Perm (F.filter fun s=>decide (c s=0))→zbX Q .nils .nils v4 (.mp bL) (.mp bU) (.ptr b 0) h):
  ∀ (j i:Nat),F.length - i=j→i≤F.length→∀ (h:Hp) (q:List Spt) (qb:Nat),QSt N2 N3 bL b F g h c q qb .nils []→Up q q.length→q.Perm ((F.take i).filter fun s=>decide (c s=0)) →
   zkK Q .nils .nils v4 (.mp bL) (.mp bU) (.ptr b 0) v4 (.int .i64 F.length) (.int .i64 i) h:=by
 intro j
 induction j with
 | zero=>
  intro i hj hi h q qb S hu hp
  apply zkz
  unfold zeQ
  rw [zr,decide_eq_false (by omega:¬ i < F.length),zb]
  rw [List.take_of_length_le (by omega)] at hp
  exact hq h q qb S hu hp
 | succ j ih=>
  intro i hj hi h q qb S hu hp
  have hii:i < F.length:=by omega
  have hn3:=S.n3
  obtain ⟨s,hs⟩:∃ s,F[i]? = some s:=⟨_,List.getElem?_eq_getElem hii⟩
  have hsF:s ∈ F:=List.mem_of_getElem? hs
  apply zkz
  unfold zeQ
  rw [zr,decide_eq_true hii,zc]
  have hv4:Sps h v4 F:=Rd.ext hall (N:=bL) ⟨by omega,fun x hx=>S.old x (by omega) (by omega)⟩ hin
  obtain ⟨b2,o2,m1,m2,_⟩:=zaT hv4 zg zf hs
  rw [m1,m2]
  refine zq zf fun h1 t w1=>?_
  refine zC zf w1.at_ (x:=spV s) rfl rfl (r:=spC s) rfl fun h2 w2=>?_
  have n1:=w1.n
  have n2:=w2.n
  have e1:=w1.b
  have x2:Ext h.n h h2:=⟨by omega,fun c hc=>by rw [w2.other c (by omega),w1.old c hc]⟩
  have S2:=S.keep hb x2
  rw [zd zf w2.at_ (l:=spC s) rfl]
  show (Pu EE).look h2 _ (.mp bL) (spV s) false _
  have hql:q.length≤F.length:=by
   rw [hp.length_eq]
   exact Nat.le_trans (List.length_filter_le _ _) (by rw [List.length_take]; omega)
  rw [zgj m_int zfU S2.mL s (zg4 hsF),eql0]
  by_cases hz:c s=0
  ·rw [decide_eq_true hz,zc,pu_ifaceQ,zd zf w2.at_ (l:=spC s) rfl]
   show (Pu EE).iface _ (spV s) _
   rw [pu_ifaceS]
   refine (hpush_ok S2.qa s (by omega) S2.n3).mono ?_
   rintro y h4 ⟨qb',a4,f4⟩
   rw [zK _ _ _ _ (by omega)]
   obtain ⟨u1,u2⟩:=hpush_heap hu s
   refine ih (i+1) (by omega) (by omega) h4 _ qb' (S2.push hb a4 f4) u1 ?_
   rw [zbI hs,List.filter_append,List.filter_cons_of_pos (by simpa using hz)]
   exact u2.trans (hp.append_right _)
  ·rw [decide_eq_false hz,zb,zK _ _ _ _ (by omega)]
   refine ih (i+1) (by omega) (by omega) h2 q qb S2 hu ?_
   rw [zbI hs,List.filter_append,List.filter_cons_of_neg (by simpa using hz)]
   simpa using hp
theorem q_new (h:Hp):zbk EE 61 0 []=some (.sl 0 0,.cells [] 42 false):=by kernel_rfl
theorem cI_all {nd:Spt→List Spt} {F:List Spt}:∀ s ∈ F,cI nd F F.length s=zgu (nd s) F:=fun s hs=>by unfold cI; rw [List.take_length,if_pos hs]
theorem dorder_own (M:Nat) (h:Hp) (v:V) (bk:Bok) (hv:zir M h v bk) (hM:M≤h.n) (gd:Good bk) (my:Mays bk) (few:∀ s ∈ zt bk,Few bk s):
  Ans EE 10 [v] h fun x h'=>∃ ov cv,x=.tup [ov,cv]∧OwnS 0 h' ov (zbp (ndR bk) (zt bk).length (zt bk)).1∧OwnS 0 h' cv (zbp (ndR bk) (zt bk).length (zt bk)).2∧Ext h.n h h':=by
 have hv0:=hv
 obtain ⟨sv,rfl,hs⟩:=hv
 obtain ⟨cs,hrd⟩:=hs.rd
 have hcell:zh [sv]=true:=by have:=hrd.c1; simp [zh,this.2]
 have hFl:=zcE gd
 have hris:=fCells_ris gd
 apply a_deps_Order
 unfold zg7
 refine zW (cs:=[sv]) hcell fun h1 b1 w1=>?_
 have n1:=w1.n
 have e1:=w1.b
 rw [zd zy w1.at_ (l:=[sv]) rfl]
 have hs1:zdB M h1 sv bk:=hs.ext (w1.ext hM)
 refine (pmay_ok M h1 _ bk ⟨sv,rfl,hs1⟩ (by omega) my).mono ?_
 rintro y h2 ⟨rfl,x2⟩
 have n2:=x2.n
 have hb2:h2.t.get b1=some (.cells [sv] 26 false):=by rw [x2.old b1 (by omega)]; exact w1.at_
 rw [zaE,Bool.not_true,zb,zd zy hb2 (l:=[sv]) rfl]
 have hs2:zdB M h2 sv bk:=hs1.ext (x2.mono (by omega))
 refine (formulas_ok M h2 _ bk ⟨sv,rfl,hs2⟩ (by omega) gd).mono ?_
 rintro v4 h3 ⟨o3,x3⟩
 have n3:=x3.n
 refine pu_mkmapX fun h4 bL w4=>?_
 have n4:=w4.n
 have e4:=w4.b
 have X4:Ext h3.n h3 h4:=w4.ext (Nat.le_refl _)
 rw [zp (Sps.ext o3.sps X4 o3.in_) zg]
 have X3:Ext h.n h h3:=((w1.ext (Nat.le_refl _)).trans (x2.mono (by omega))).trans (x3.mono (by omega))
 refine left_loop1 _ rfl (by omega) gd o3.sps o3.in_ (fun h5 mL5 x5 hb5=>?_) (zt bk).length 0 (by omega) (Nat.zero_le _) h4 ((zbP.empty w4.at_).congr fun y=>by simp [zen]) X4 (by omega)
 have n5:=x5.n
 apply zky
 unfold ze1
 rw [zr,decide_eq_false (by omega:¬ (zt bk).length < (zt bk).length),zb]
 refine pu_mkmapX fun h6 bU w6=>?_
 have n6:=w6.n
 have e6:=w6.b
 have X6:Ext h3.n h3 h6:=x5.trans (w6.ext n5)
 rw [zp (Sps.ext o3.sps X6 o3.in_) zg]
 have S:OS bk M h3.n h6.n bL bU b1 h3 sv v4:=⟨gd,by omega,rfl,by omega,by omega,by omega,by omega,by omega,by omega,by rw [x3.old b1 (by omega)]; exact hb2,hs2.ext (x3.mono (by omega)),o3.sps,o3.in_,few⟩
 have U6:UMap h6.n h6 bU (fun _=>none) (uI (ndR bk) (zt bk) 0):=⟨zbP.empty w6.at_,fun n _=>by unfold uI; simp,fun n v hm=>(by cases hm),fun m n v w c hm=>(by cases hm)⟩
 refine users_loop2 _ S (fun h7 fU mL7 U7 hn7 x7=>?_) (zt bk).length 0 (by omega) (Nat.zero_le _) h6 _ (mL5.keep (w6.old bL hb5)) U6 (Nat.le_refl _) X6
 have n7:=x7.n
 apply zkL
 unfold zeY
 rw [zr,decide_eq_false (by omega:¬ (zt bk).length < (zt bk).length),zb]
 refine ⟨_,q_new h7,?_⟩
 obtain ⟨h8,hh8⟩:∃ h8,h8=h7.new (.cells [] 42 false):=⟨_,rfl⟩
 have w8:New h7 h8 h7.n (.cells [] 42 false):=by rw [hh8]; exact New.mk' _ _
 have n8:=w8.n
 show (Pu EE).box (h7.new (.cells [] 42 false)) 61 (.sl h7.n 0 0 0) _
 rw [← hh8,pu_box (x:=.sl h7.n 0 0 0) rfl]
 obtain ⟨h9,hh9⟩:∃ h9,h9=h8.new (.cells [.sl h7.n 0 0 0] 61 false):=⟨_,rfl⟩
 have w9:New h8 h9 h8.n (.cells [.sl h7.n 0 0 0] 61 false):=by rw [hh9]; exact New.mk' _ _
 have n9:=w9.n
 have e9:h8.new (.cells (V.sl h7.n 0 0 0).cells 61 false)=h9:=hh9.symm
 rw [e9]
 have X9:Ext h7.n h7 h9:=⟨by omega,fun c hc=>by rw [w9.old c (by omega),w8.old c hc]⟩
 have hall7:Sps h7 v4 (zt bk):=Sps.ext o3.sps x7 o3.in_
 rw [zp (Sps.ext hall7 X9 (o3.in_.mono n7)) zg]
 have hbL:bL < h7.n:=by have:=S.l2; omega
 have hbU:bU < h7.n:=by have:=S.u2; omega
 have qa:QAt h7.n h9 h8.n h7.n []:=by
  refine ⟨⟨.sl h7.n 0 0 0,[],0,?_,?_,rfl,Nat.le_refl _,rfl,.inr ⟨rfl,rfl⟩⟩,by omega,by omega,Nat.le_refl _,by omega,by omega⟩
  ·exact w9.at_
  ·rw [w9.old h7.n (by omega)]; exact w8.at_
 have hcl:∀ s ∈ zt bk,cI (ndR bk) (zt bk) (zt bk).length s≤100000:=fun s hs=>by
  rw [cI_all s hs]
  exact Nat.le_trans (want_le _ _) (ndR_len gd s)
 have S9:QSt h6.n h7.n bL h8.n (zt bk) h7 h9 (cI (ndR bk) (zt bk) (zt bk).length) [] h7.n .nils []:=
  ⟨mL7.keep (X9.old bL hbL),qa,fun x hx _=>X9.old x hx,by omega,OwnS.nil _ _,fun x hx=>(by cases hx),hcl⟩
 have hinb:∀ x,zI v4=some x→x < bL:=fun x hx=>by have:=o3.in_ x hx; omega
 refine push_loop4 (N2:=h6.n) (c:=cI (ndR bk) (zt bk) (zt bk).length) _ hbL hFl rfl hall7 hinb (fun h10 q qb S10 hup hpm=>?_) (zt bk).length 0 (by omega) (Nat.zero_le _) h9 [] h7.n S9 (fun k h1 h2=>absurd h2 (by simp)) (by simp)
 have hpm2:q.Perm ((zt bk).filter fun s=>decide (zgu (ndR bk s) (zt bk)=0)):=by
  have e:((zt bk).filter fun s=>decide (cI (ndR bk) (zt bk) (zt bk).length s=0))=(zt bk).filter fun s=>decide (zgu (ndR bk s) (zt bk)=0):=by
   apply List.filter_congr
   intro s hs
   rw [cI_all s hs]
  rw [← e]; exact hpm
 have I0:=OInv.start (nd:=ndR bk) hris (fun s _=>needsR_nodup gd.ris _) hup hpm2
 have I:OInv (ndR bk) (zt bk) (zt bk) (cI (ndR bk) (zt bk) (zt bk).length) q:=
  ⟨I0.sub,I0.ris,I0.nod,fun s hs=>cI_all s hs,fun s hs hn=>absurd hs hn,I0.up,hpm⟩
 refine order_loop5 _ hbL (by have:=S.l2; omega) hbU (by omega) hFl rfl U7 hall7 hinb (fun h11 c q qb v2 done R hR ho S11=>?_) (zt bk).length (zt bk) rfl h10 _ q qb .nils [] I S10 (by simp) (by simp)
 have n11:=S11.n3
 have X11:Ext bL h7 h11:=⟨by omega,fun x hx=>S11.old x (by omega) (by omega)⟩
 refine cyc_loop7 (N:=h3.n) _ hbL hFl n11 (Rd.ext hall7 X11 hinb) (o3.in_.mono n7) S11.mL S11.cl S11.out.sps S11.out.in_ (fun h12 v3 o12 x12=>?_) (zt bk).length 0 (by omega) (Nat.zero_le _) h11 .nils (OwnS.nil _ _) (Ext.refl _ _)
 refine ⟨v2,v3,rfl,?_,?_,?_⟩
 ·rw [ho]
  exact (S11.out.keep x12.n fun x hx=>x12.old x (S11.out.in_ x hx)).mono (Nat.zero_le _)
 ·rw [ho,← hR]
  exact o12.mono (Nat.zero_le _)
 ·refine X3.trans ?_
  refine Ext.trans (x7.mono (by omega)) ?_
  exact Ext.trans (X11.mono (by omega)) (x12.mono (by omega))
end
end Go.Proofs.YtbchdlelmkmagaaGreatDoor.VM
namespace Go.Proofs.YtbchdlelmkmagaaGreatDoor.VM
open Go
set_option linter.unusedVariables false
set_option linter.unusedSectionVars false
set_option linter.unusedSimpArgs false
set_option maxRecDepth 20000
noncomputable section
attribute [local instance] syZ
structure EvC (M:Nat) (h:Hp) (sv:V) (bk:Bok) (gv:V) (g:Grd):Prop where
 sh:zdB M h sv bk
 gr:∃ N B sp,GridG N h gv g B sp
 mM:M≤h.n
 fit:bk.length < 1000000
 agree:∀ (i:Nat) (s:Sht),bk[i]? = some s→∃ rows,g[i]? = some rows∧rows.length=s.rows.length∧∀ (r:Nat) (row:List (List Nat)),s.rows[r]? = some row→∃ vr,rows[r]? = some vr∧vr.length=row.length
 may:∀ i r row,At2 g i r row→∀ v ∈ row,MayV v
theorem EvC.ext {M:Nat} {h h':Hp} {sv gv:V} {bk:Bok} {g:Grd} (a:EvC M h sv bk gv g) (x:Ext h.n h h'):EvC M h' sv bk gv g:=by
 obtain ⟨N,B,sp,G⟩:=a.gr
 exact ⟨a.sh.ext (x.mono a.mM),⟨N,B,sp,G.keep x⟩,by have:=a.mM; have:=x.n; omega,a.fit,a.agree,a.may⟩
theorem EvC.c1s {M:Nat} {h:Hp} {sv gv:V} {bk:Bok} {g:Grd} (a:EvC M h sv bk gv g):C1 sv:=by obtain ⟨cs,h1⟩:=a.sh.rd; exact h1.c1
theorem EvC.c1g {M:Nat} {h:Hp} {sv gv:V} {bk:Bok} {g:Grd} (a:EvC M h sv bk gv g):C1 gv:=by obtain ⟨N,B,sp,G⟩:=a.gr; exact G.c1
def evC (lv:V) (own:List Nat) (sv gv:V):List V:=[lv,.str own,sv,gv]
theorem zf5 {lv sv gv:V} {own:List Nat} (hl:C1 lv) (hs:C1 sv) (hg:C1 gv):zh (evC lv own sv gv)=true:=by
 simp [evC,zh,hl.2,hs.2,hg.2]; rfl
def refC (d:Nk):List V:=[.str d.s,.int .i64 (.ofNat d.c),.int .i64 (.ofNat d.r),.bool d.ab,.bool d.ab]
theorem sheet_ok {M:Nat} {h:Hp} {sv gv lv:V} {bk:Bok} {g:Grd} (a:EvC M h sv bk gv g) (hl:C1 lv) (own:List Nat) (d:Nk):Ans EE 105 [.agg (evC lv own sv gv),.agg (refC d)] h fun x h'=>x=.int .i64 (zkn bk (ownS own d.s))∧Ext h.n h h':=by
 apply a_calc_eval_sheet
 unfold zda
 refine zW (cs:=evC lv own sv gv) (zf5 hl a.c1s a.c1g) fun h1 b1 w1=>?_
 refine zW (cs:=refC d) rfl fun h2 b2 w2=>?_
 have n1:=w1.n
 have e1:=w1.b
 have n2:=w2.n
 have e2:=w2.b
 have hb1:h2.t.get b1=some (.cells (evC lv own sv gv) 74 false):=by rw [w2.old b1 (by omega)]; exact w1.at_
 have X2:Ext h.n h h2:=(w1.ext (Nat.le_refl _)).trans (w2.ext (by omega))
 have a2:=a.ext X2
 have hM:=a2.mM
 rw [zdk,za zL w2.at_ rfl,zbj]
 unfold ownS
 by_cases hs:d.s=[]
 ·rw [if_pos hs,decide_eq_true hs,zc,zeX,zd zy hb1 (l:=[sv]) rfl,fa_calc_eval_1,za zL hb1 rfl]
  refine (zkc M h2 _ bk own ⟨sv,rfl,a2.sh⟩ hM a.fit).mono ?_
  rintro x h3 ⟨rfl,x3⟩
  exact ⟨rfl,X2.trans (x3.mono X2.n)⟩
 ·rw [if_neg hs,decide_eq_false hs,zb,zeX,zd zy hb1 (l:=[sv]) rfl,zdk,za zL w2.at_ rfl]
  refine (zkc M h2 _ bk d.s ⟨sv,rfl,a2.sh⟩ hM a.fit).mono ?_
  rintro x h3 ⟨rfl,x3⟩
  exact ⟨rfl,X2.trans (x3.mono X2.n)⟩
theorem ref_ok {M:Nat} {h:Hp} {sv gv lv:V} {bk:Bok} {g:Grd} (a:EvC M h sv bk gv g) (hl:C1 lv) (own:List Nat) (kb:Nat) (d:Nk):Ans EE 68 [.agg (evC lv own sv gv),.agg (nkC kb d)] h fun x h'=>x=valV (refS bk g own d)∧Ext h.n h h':=by
 apply a_calc_eval_ref
 unfold zeu
 refine zW (cs:=evC lv own sv gv) (zf5 hl a.c1s a.c1g) fun h1 b1 w1=>?_
 refine zW (cs:=nkC kb d) (zbH kb d) fun h2 b2 w2=>?_
 refine zq ze fun h3 b3 w3=>?_
 have n1:=w1.n
 have e1:=w1.b
 have n2:=w2.n
 have e2:=w2.b
 have n3:=w3.n
 have e3:=w3.b
 have hb1:h3.t.get b1=some (.cells (evC lv own sv gv) 74 false):=by rw [w3.old b1 (by omega),w2.old b1 (by omega)]; exact w1.at_
 have hb2:h3.t.get b2=some (.cells (nkC kb d) 88 false):=by rw [w3.old b2 (by omega)]; exact w2.at_
 have X3:Ext h.n h h3:=⟨by omega,fun c hc=>by rw [w3.old c (by omega),w2.old c (by omega),w1.old c (by omega)]⟩
 rw [zd zcf hb1 (l:=evC lv own sv gv) rfl,zA,zd zck hb2 (l:=refC d) rfl]
 refine (sheet_ok (a.ext X3) hl own d).mono ?_
 rintro x h4 ⟨rfl,x4⟩
 have n4:=x4.n
 have X4:Ext h.n h h4:=X3.trans (x4.mono (by omega))
 have a4:=a.ext X4
 have hb1':h4.t.get b1=some (.cells (evC lv own sv gv) 74 false):=by rw [x4.old b1 (by omega)]; exact hb1
 have hb2':h4.t.get b2=some (.cells (nkC kb d) 88 false):=by rw [x4.old b2 (by omega)]; exact hb2
 have hb3:h4.t.get b3=some (.cells [.int .i64 0,.int .i64 0,.str []] 48 false):=by rw [x4.old b3 (by omega)]; exact w3.at_
 have fin:∀ (h':Hp) (v:Vl),v=refS bk g own d→Ext h4.n h4 h'→(Pu EE).store h' 48 (.ptr b3 0) (valV v) fun h58=>(Pu EE).load h58 48 (.ptr b3 0) fun x59=>x59=valV (refS bk g own d)∧Ext h.n h h58:=by
  intro h' v e x'
  subst e
  have n':=x'.n
  refine retV ((x'.old b3 (by omega)).trans hb3) rfl _ fun h2 w=>⟨rfl,by have:=w.n; omega,fun c hc=>?_⟩
  rw [w.other c (by omega),x'.old c (by omega),X4.old c hc]
 have bld:∀ q:V→Prop,(Pu EE).build 48 [] q↔q (valV vl0):=fun q=>zaD za2 _ (fun p hp=>by cases hp) rfl q
 unfold zkn
 cases hf:zcm bk (ownS own d.s) 0 with
 | none=>
  simp only
  rw [zak,decide_eq_true (by decide),zc]
  refine (err_ok 4 4 rfl h4).mono ?_
  rintro z h5 ⟨rfl,x5⟩
  exact fin h5 _ (by unfold refS; rw [hf]) x5
 | some i=>
  obtain ⟨_,t,ht,hnm,hfr⟩:=zbY hf
  rw [Nat.sub_zero] at ht
  simp only
  obtain ⟨cs,hrd⟩:=a4.sh.rd
  obtain ⟨b4,o4,rv,g1,g2,g3,vs,f,ro,g4,g5⟩:=zbu a4.sh zl zH ht
  obtain ⟨us,hu⟩:=g3.rd
  rw [zak,decide_eq_false (by omega),zb,zeX,zw,za zk hb1' rfl,g1,zG,za zD g4 (g5 2 _ rfl),zA,zaf,za zm hb2' rfl,zp hu zn]
  show (Pu EE).bin .geq _ _ _ (.int .i64 (d.r:Int)) (.int .i64 (t.rows.length:Int)) _
  rw [geqN]
  by_cases hr:t.rows.length≤d.r
  ·rw [decide_eq_true hr]
   simp only [zaH]
   rw [zB,zc,bld]
   exact fin h4 _ (by unfold refS; rw [hf]; simp only; rw [ht]; simp only; rw [List.getElem?_eq_none hr]) (Ext.refl _ _)
  ·rw [decide_eq_false hr]
   have hrow:t.rows[d.r]? = some t.rows[d.r]:=List.getElem?_eq_getElem (by omega)
   obtain ⟨b7,o7,w7,m1,m2,m3⟩:=zbU g3 zn zaz hrow
   simp only [zu]
   rw [zA,zZ,za zm hb2' rfl,zA,zaf,za zm hb2' rfl]
   show (Pu EE).iaddr _ rv (.int .i64 (d.r:Int)) _
   rw [m1,m2,zp m3.1 z7]
   show (Pu EE).bin .geq _ _ _ (.int .i64 (d.c:Int)) (.int .i64 (t.rows[d.r].length:Int)) _
   rw [geqN,zo]
   have hR:refS bk g own d=if d.c < t.rows[d.r].length then getG g i d.r d.c else vl0:=by
    unfold refS; rw [hf]; simp only; rw [ht]; simp only; rw [hrow]
   by_cases hc:t.rows[d.r].length≤d.c
   ·rw [decide_eq_true hc,zc,bld]
    exact fin h4 _ (by rw [hR,if_neg (by omega)]) (Ext.refl _ _)
   ·rw [decide_eq_false hc,zb]
    obtain ⟨N,B,sp,G⟩:=a4.gr
    obtain ⟨rows,k1,k2,k3⟩:=a.agree i t ht
    obtain ⟨vr,k4,k5⟩:=k3 d.r _ hrow
    obtain ⟨q1,q2,q3,q4,q5,q6,l1,l2,l3,l4,l5,l6⟩:=G.row ⟨rows,k1,k4⟩
    have hx:vr[d.c]? = some vr[d.c]:=List.getElem?_eq_getElem (by omega)
    rw [zkr,za zdO hb1' rfl,l1,l2,zA,zaf,za zm hb2' rfl]
    show (Pu EE).iaddr _ q3 (.int .i64 (d.r:Int)) _
    rw [l3,l4,zA,zZ,za zm hb2' rfl]
    show (Pu EE).iaddr _ q6 (.int .i64 (d.c:Int)) _
    rw [zcT l5 (by omega),zfc l6 hx]
    exact fin h4 _ (by rw [hR,if_pos (by omega)]; exact (getG_at ⟨rows,k1,k4⟩ hx).symm) (Ext.refl _ _)
end
end Go.Proofs.YtbchdlelmkmagaaGreatDoor.VM
namespace Go.Proofs.YtbchdlelmkmagaaGreatDoor.VM
open Go
set_option linter.unusedVariables false
set_option linter.unusedSectionVars false
set_option linter.unusedSimpArgs false
set_option maxRecDepth 20000
noncomputable section
attribute [local instance] syZ
theorem zaF {h h':Hp} {b o e:Nat} (hb:h'.t.get b=h.t.get b) (q:V→Prop):(Pu EE).load h' e (.ptr b o) q↔(Pu EE).load h e (.ptr b o) q:=by
 show (∃ u,ziF EE h' e (.ptr b o)=some u∧q u)↔(∃ u,ziF EE h e (.ptr b o)=some u∧q u)
 have:ziF EE h' e (.ptr b o)=ziF EE h e (.ptr b o):=by
  simp only [ziF,zas,hb]
 rw [this]
section
variable {N:Nat} {h:Hp} {v:V} {g:Grd} {B:Nat→Nat→Nat} {sp:Nat→Prop}
theorem GridG.row2 (G:GridG N h v g B sp) {i r:Nat} {row:List Vl} (a:At2 g i r row):∃ b o w b2 o2 u,(∀ (k:IntKind) (q:V→Prop),(Pu EE).iaddr 29 v (.int k i) q↔q (.ptr b o))∧(∀ q:V→Prop,(Pu EE).load h 35 (.ptr b o) q↔q w) ∧
  (∀ (k:IntKind) (q:V→Prop),(Pu EE).iaddr 35 w (.int k r) q↔q (.ptr b2 o2))∧(∀ q:V→Prop,(Pu EE).load h 39 (.ptr b2 o2) q↔q u)∧LeafV (B i r) row.length u∧h.t.get (B i r)=some (.cells (vlCs row) 48 false) ∧
  b < h.n∧b2 < h.n∧B i r < h.n∧(∃ n cs,Rd h 1 v n cs)∧(∃ n cs,Rd h 1 w n cs)∧(∃ n cs,Rd h 3 u n cs)∧sp b∧sp b2:=by
 obtain ⟨ws,h1,h2⟩:=G.out
 have a0:=a
 obtain ⟨rows,hi,hr⟩:=a
 obtain ⟨w,us,k1,k2,k3,k4⟩:=h2 i rows hi
 obtain ⟨u,q1,q2,q3⟩:=k4 r row hr
 obtain ⟨b,o,g1,g2,g5⟩:=zde h1 zaa zap k1
 obtain ⟨b2,o2,g3,g4,g6⟩:=zde k2 zaC zN q1
 exact ⟨b,o,w,b2,o2,u,g1,g2,g3,g4,q2,q3,G.sl b (G.top b g5),G.sl b2 (k3 b2 g6),(G.lt i r row a0).2,⟨_,_,h1⟩,⟨_,_,k2⟩,⟨_,_,leaf_rd q2 q3⟩,G.top b g5,k3 b2 g6⟩
end
theorem leaf_ok {M:Nat} {h:Hp} {sv gv lv:V} {bk:Bok} {g:Grd} (a:EvC M h sv bk gv g) (hl:C1 lv) (own:List Nat) (kb:Nat) (d:Nk) (hd:d.k=1∨d.k=2):Ans EE 67 [.agg (evC lv own sv gv),.agg (nkC kb d)] h fun x h'=>x=valV (if d.k=1 then vlN d.n else vlT d.t)∧Ext h.n h h':=by
 apply a_calc_eval_leaf
 unfold zdK
 refine zW (cs:=evC lv own sv gv) (zf5 hl a.c1s a.c1g) fun h1 b1 w1=>?_
 refine zW (cs:=nkC kb d) (zbH kb d) fun h2 b2 w2=>?_
 refine zq ze fun h3 b3 w3=>?_
 have n1:=w1.n
 have e1:=w1.b
 have n2:=w2.n
 have e2:=w2.b
 have n3:=w3.n
 have e3:=w3.b
 have hb2:h3.t.get b2=some (.cells (nkC kb d) 88 false):=by rw [w3.old b2 (by omega)]; exact w2.at_
 have fin:∀ (h':Hp) (v:Vl),Ext h3.n h3 h'→(Pu EE).store h' 48 (.ptr b3 0) (valV v) fun h58=>(Pu EE).load h58 48 (.ptr b3 0) fun x59=>x59=valV v∧Ext h.n h h58:=by
  intro h' v x'
  have n':=x'.n
  refine retV ((x'.old b3 (by omega)).trans w3.at_) rfl _ fun h2 w=>⟨rfl,by have:=w.n; omega,fun c hc=>?_⟩
  rw [w.other c (by omega),x'.old c (by omega),w3.old c (by omega),w2.old c (by omega),w1.old c (by omega)]
 rw [zE,za zm hb2 (v:=.int .i64 (d.k:Int)) rfl,eqlK d.k 1 1 rfl]
 rcases hd with hd | hd
 ·rw [decide_eq_true hd,zc,fa_api_Node_1,za zm hb2 (v:=.int .i64 d.n) rfl,if_pos hd]
  refine (num_ok d.n h3).mono ?_
  rintro z h4 ⟨rfl,x4⟩
  exact fin h4 _ x4
 ·rw [decide_eq_false (by omega),zb,eqlK d.k 2 2 rfl,decide_eq_true hd,zc,zdM,za zL hb2 (v:=.str d.t) rfl,if_neg (by omega)]
  refine (str_ok d.t h3).mono ?_
  rintro z h4 ⟨rfl,x4⟩
  exact fin h4 _ x4
theorem zeH {g:Grd} {i r c hi:Nat} (h:c < hi):zek g i r c hi=getG g i r c::zek g i r (c+1) hi:=by
 unfold zek
 rw [show hi - c=(hi - (c+1))+1 by omega,List.range_succ_eq_map,List.map_cons,List.map_map]
 congr 1
 apply List.map_congr_left
 intro j _
 show getG g i r (c+(j+1))=getG g i r (c+1+j)
 rw [show c+(j+1)=c+1+j by omega]
theorem cellsS_end {g:Grd} {i r c hi:Nat} (h:hi≤c):zek g i r c hi=[]:=by
 unfold zek
 rw [show hi - c=0 by omega]; rfl
structure SpSt (hA:Hp) (bA:Nat) (cc:Int) (h:Hp) (w:V) (acc:List Vl):Prop where
 x:Ext hA.n hA h
 box:h.t.get bA=some (.cells [.bool true,.int .i64 cc,w] 133 false)
 own:OwnV (bA+1) h w acc
 ge:hA.n≤bA
 lt:bA < h.n
theorem span_loop2 {M:Nat} {hA:Hp} {sv gv lv:V} {bk:Bok} {g:Grd} (a:EvC M hA sv bk gv g) {own:List Nat} {b1 b4 b7 b29 bA i r hi:Nat} {cc right:Int} {vr:List Vl} (hb1:hA.t.get b1=some (.cells (evC lv own sv gv) 74 false)) (hb1n:b1 < hA.n) (hat:At2 g i r vr) (hhi:hi≤vr.length) (hright:right=(hi:Int) - 1) (hsm:vr.length < 1000000) (hrs:r < 1000000) {Q:QQ}:
  ∀ m c (h:Hp) (w:V) (acc:List Vl),hi - c≤m→c < 1000000→SpSt hA bA cc h w acc→acc.length+(zek g i r c hi).length≤1000000→(∀ h' w',SpSt hA bA cc h' w' (acc++zek g i r c hi)→zbA Q (.ptr b1 0) (.ptr b4 0) (.ptr b7 0) (.int .i64 i) (.ptr b29 0) (.int .i64 right) (.ptr bA 0) (.int .i64 ((r+1:Nat):Int)) h') →
   zb6 Q (.ptr b1 0) (.ptr b4 0) (.ptr b7 0) (.int .i64 i) (.ptr b29 0) (.int .i64 right) (.ptr bA 0) (.int .i64 r) (.int .i64 c) h:=by
 have fin:∀ c (h:Hp) (w:V) (acc:List Vl),hi≤c→SpSt hA bA cc h w acc→(∀ h' w',SpSt hA bA cc h' w' (acc++zek g i r c hi)→zbA Q (.ptr b1 0) (.ptr b4 0) (.ptr b7 0) (.int .i64 i) (.ptr b29 0) (.int .i64 right) (.ptr bA 0) (.int .i64 ((r+1:Nat):Int)) h') →
   zb6 Q (.ptr b1 0) (.ptr b4 0) (.ptr b7 0) (.int .i64 i) (.ptr b29 0) (.int .i64 right) (.ptr bA 0) (.int .i64 r) (.int .i64 c) h:=by
  intro c h w acc hc S hq
  apply zgC
  unfold zb5
  rw [zhL,decide_eq_false (by omega),zb,zK _ _ _ _ (by omega)]
  exact hq h w (by rw [cellsS_end hc,List.append_nil]; exact S)
 intro m
 induction m with
 | zero=>
  intro c h w acc hm hcs S hl hq
  exact fin c h w acc (by omega) S hq
 | succ m ih=>
  intro c h w acc hm hcs S hl hq
  by_cases hc:hi≤c
  ·exact fin c h w acc hc S hq
  ·obtain ⟨N,B,sp,G0⟩:=a.gr
   have Sx:=S.x
   have Sn:=S.x.n
   have Sge:=S.ge
   have Slt:=S.lt
   have G:=G0.keep S.x
   obtain ⟨q1,q2,q3,q4,q5,q6,l1,l2,l3,l4,l5,l6,l7,l8,l9,⟨_,_,r1⟩,⟨_,_,r2⟩,⟨_,_,r3⟩,s1,s2⟩:=G.row2 hat
   have b1':h.t.get b1=some (.cells (evC lv own sv gv) 74 false):=(S.x.old b1 hb1n).trans hb1
   have hx:vr[c]? = some vr[c]:=List.getElem?_eq_getElem (by omega)
   have hg:getG g i r c=vr[c]:=getG_at hat hx
   apply zgC
   unfold zb5
   rw [zhL,decide_eq_true (by omega),zc,zaw,za zN S.box rfl,zkr,za zdO b1' rfl,l1,l2,l3,l4,zcT l5 (by omega),zfc l6 hx]
   rw [zcL zM ze _ rfl (by omega)]
   have hnew:∀ b,b < h.n→(h.new (.cells (valV vr[c]).cells 48 false)).t.get b=h.t.get b:=fun b hb=>by rw [Hp.get_new,if_neg (by omega)]
   rw [zaF (hnew _ l9),zfc l6 hx,zh7,zaF (hnew _ l8),l4,zbt r3,zaF (hnew _ l7),l2,zbt r2,zaF (hnew _ (by omega)),za zdO b1' rfl,zbt r1,zaF (hnew _ S.lt),za zN S.box rfl,zbt S.own.rd]
   have o1:OwnV (bA+1) (h.new (.cells (valV vr[c]).cells 48 false)) w acc:=S.own.keep (Nat.le_succ _) (fun d hd=>hnew d (S.own.in_ d hd))
   have hl1:acc.length+1≤1048576:=by rw [zeH (by omega),List.length_cons] at hl; omega
   obtain ⟨v',h',p1,p2,p3,p4,p5⟩:=zdj (ts:=#[39,39]) o1 rfl rfl zM noIntV ze (zfx (zfu (h:=h) (e:=48) (ws:=(valV vr[c]).cells) rfl).rd).1 (fun e=>by cases e) rfl hl1 (Nat.le_succ_of_le S.lt)
   rw [p1,zaw]
   have p3n:=p3.n
   have nn:(h.new (.cells (valV vr[c]).cells 48 false)).n=h.n+1:=rfl
   have hbA:h'.t.get bA=some (.cells [.bool true,.int .i64 cc,w] 133 false):=by rw [p3.old bA (by omega),hnew bA S.lt]; exact S.box
   have cw:=p2.rd.c1
   refine zC zN hbA (x:=v') (by rw [cw.1]; rfl) (by rw [cw.1]; simp [zh,cw.2]) (r:=[.bool true,.int .i64 cc,v']) (by rw [cw.1]; rfl) fun h2 w2=>?_
   have n2:=w2.n
   rw [zK _ _ _ _ (by omega)]
   refine ih (c+1) h2 v' (acc++[vr[c]]) (by omega) (by omega) ⟨⟨by omega,fun d hd=>?_⟩,w2.at_,?_,S.ge,by omega⟩ ?_ ?_
   ·rw [w2.other d (by omega),p3.old d (by omega),hnew d (by omega),S.x.old d hd]
   ·have e:vlCs (acc++[vr[c]])=vlCs acc++vlC vr[c]:=by rw [vlCs_app]; simp [vlCs]
    have q:Own (bA+1) h2 v' 48 3 (acc.length+1) (vlCs acc++(valV vr[c]).cells):=p2.keep (by omega) fun d hd=>w2.other d (by have:=p2.ge d hd; omega)
    show Own _ _ _ _ _ (acc++[vr[c]]).length _
    rw [List.length_append,e]
    exact q
   ·rw [zeH (by omega)] at hl
    rw [List.length_append]
    simp only [List.length_cons,List.length_nil] at hl ⊢
    omega
   ·intro h3 w3 S3
    refine hq h3 w3 ?_
    rw [zeH (by omega),hg]
    rw [List.append_assoc] at S3
    exact S3
end
end Go.Proofs.YtbchdlelmkmagaaGreatDoor.VM
namespace Go.Proofs.YtbchdlelmkmagaaGreatDoor.VM
open Go
set_option linter.unusedVariables false
set_option linter.unusedSectionVars false
set_option linter.unusedSimpArgs false
set_option maxRecDepth 20000
noncomputable section
attribute [local instance] syZ
theorem wZ (z:Int) (h:-9223372036854775808≤z∧z≤9223372036854775807):IntKind.i64.wrap z=z:=by rw [ze7]; omega
theorem pu_max (h:Hp) (ts:Array TypeId) (a b:Int) (q:V→Prop):(Pu EE).lbui h ts .max [.int .i64 a,.int .i64 b] q↔q (.int .i64 (if a < b then b else a)):=by
 show (∃ v,zdV EE h ts .max [.int .i64 a,.int .i64 b]=some v∧q v)↔_
 have:zdV EE h ts .max [.int .i64 a,.int .i64 b]=some (.int .i64 (if a < b then b else a)):=by
  show vminS EE false [.int .i64 a,.int .i64 b]=_
  unfold vminS vmin
  simp only [vminF,zbc,cond_true,cond_false,ilt_dec,zbn,Bool.cond_decide]
 rw [this,zT]
theorem span_loop1 {M:Nat} {hA:Hp} {sv gv lv:V} {bk:Bok} {g:Grd} (a:EvC M hA sv bk gv g) {own:List Nat} {b1 b4 b7 b29 bA i kb:Nat} {d:Nk} {t:Sht} {rv:V} {cc right:Int} (hb1:hA.t.get b1=some (.cells (evC lv own sv gv) 74 false)) (hb1n:b1 < hA.n)
  (hb4:hA.t.get b4=some (.cells (nkC kb d) 88 false)) (hb4n:b4 < hA.n) (hb29:hA.t.get b29=some (.cells (shtC t rv) 38 false)) (hb29n:b29 < hA.n) {us:List V} (hrv:Rd hA 1 rv t.rows.length us) (hrvi:In hA.n rv)
  (hb7n:b7 < hA.n) {zs:List V} (hz:zs.length=3) (hb7:hA.t.get b7=some (.cells zs 133 false)) (ht:bk[i]? = some t) (hco:∀ row ∈ t.rows,row.length=t.cols) (hsm:t.cols < 1000000) (hrm:t.rows.length < 1000000) (hdc:d.c < 1000000) (hdr:d.r1 < 1000000)
  (hright:right=((min (d.c1+1) t.cols:Nat):Int) - 1) {Q:QQ} {res:List Vl} (hq:∀ h' w',Ext hA.n hA h'∨(∀ c,c < hA.n→c ≠ b7→h'.t.get c=hA.t.get c)→hA.n≤h'.n→RdV h' w' res→In h'.n w'→Q (.agg [.bool true,.int .i64 cc,w']) h'):
  ∀ n r (h:Hp) (w:V) (acc:List Vl),n=min (d.r1+1) t.rows.length - r→r≤1000000→SpSt hA bA cc h w acc→res=acc++rowsS g i d.c (min (d.c1+1) t.cols) n r→res.length≤1000000 →
   zbA Q (.ptr b1 0) (.ptr b4 0) (.ptr b7 0) (.int .i64 i) (.ptr b29 0) (.int .i64 right) (.ptr bA 0) (.int .i64 (r:Int)) h:=by
 have pre:∀ r (h:Hp) (w:V) (acc:List Vl),SpSt hA bA cc h w acc→((r < min (d.r1+1) t.rows.length→zb6 Q (.ptr b1 0) (.ptr b4 0) (.ptr b7 0) (.int .i64 i) (.ptr b29 0) (.int .i64 right) (.ptr bA 0) (.int .i64 (r:Int)) (.int .i64 (d.c:Int)) h)∧(¬ r < min (d.r1+1) t.rows.length→acc=res)) →
   zbA Q (.ptr b1 0) (.ptr b4 0) (.ptr b7 0) (.int .i64 i) (.ptr b29 0) (.int .i64 right) (.ptr bA 0) (.int .i64 (r:Int)) h:=by
  intro r h w acc S hh
  have Sn:=S.x.n
  have Sge:=S.ge
  have g4:h.t.get b4=some (.cells (nkC kb d) 88 false):=(S.x.old b4 hb4n).trans hb4
  have g29:h.t.get b29=some (.cells (shtC t rv) 38 false):=(S.x.old b29 hb29n).trans hb29
  have hrv':=hrv.ext S.x hrvi
  apply r_calc_eval_span_1
  unfold zdG
  rw [zaL,zaf,za zm g4 (v:=.int .i64 (d.r1:Int)) rfl,zG,za zD g29 (v:=rv) rfl,zp hrv' zn,zdf,wZ _ (by omega),pu_min,zhL,zi]
  refine ⟨fun hc=>?_,fun hc=>?_⟩
  ·rw [zA,zZ,za zm g4 (v:=.int .i64 (d.c:Int)) rfl]
   refine hh.1 ?_
   split at hc <;> omega
  ·have:acc=res:=hh.2 (by split at hc <;> omega)
   subst this
   have cw:=S.own.rd.c1
   rw [zd zau S.box (l:=[.bool true,.int .i64 cc,w]) rfl]
   refine zC zau ((S.x.old b7 hb7n).trans hb7) (x:=.agg [.bool true,.int .i64 cc,w]) rfl (by show zh [.bool true,.int .i64 cc,w]=true; simpa [zh,V.isCell] using cw.2) (r:=[.bool true,.int .i64 cc,w]) (spl_full _ _ hz) fun h2 w2=>?_
   rw [zd zau w2.at_ (l:=[.bool true,.int .i64 cc,w]) rfl]
   have hwin:∀ b,zI w=some b→bA+1≤b∧b < h.n:=fun b hb=>⟨S.own.ge b hb,S.own.in_ b hb⟩
   refine hq h2 w (.inr fun c h1 h2'=>by rw [w2.other c h2',S.x.old c h1]) (by rw [w2.n]; omega) (S.own.rd.same fun c hc=>w2.other c (by have:=hwin c hc; omega)) fun b hb=>by rw [w2.n]; exact (hwin b hb).2
 intro n
 induction n with
 | zero=>
  intro r h w acc hn hr S hres hlen
  refine pre r h w acc S ⟨fun hc=>by omega,fun _=>?_⟩
  rw [hres]; simp [rowsS]
 | succ n ih=>
  intro r h w acc hn hr S hres hlen
  refine pre r h w acc S ⟨fun hc=>?_,fun hc=>by omega⟩
  obtain ⟨rows,k1,k2,k3⟩:=a.agree i t ht
  have hrow:t.rows[r]? = some t.rows[r]:=List.getElem?_eq_getElem (by omega)
  obtain ⟨vr,k4,k5⟩:=k3 r _ hrow
  have hvc:vr.length=t.cols:=by rw [k5]; exact hco _ (List.getElem_mem _)
  have hres':res=acc++(zek g i r d.c (min (d.c1+1) t.cols)++rowsS g i d.c (min (d.c1+1) t.cols) n (r+1)):=hres
  have hle:acc.length+(zek g i r d.c (min (d.c1+1) t.cols)).length≤1000000:=by
   rw [hres',List.length_append,List.length_append] at hlen
   omega
  refine span_loop2 a hb1 hb1n ⟨rows,k1,k4⟩ (by omega) hright (by omega) (by omega) (min (d.c1+1) t.cols - d.c) d.c h w acc (by omega) hdc S hle fun h' w' S'=>?_
  exact ih (r+1) h' w' _ (by omega) (by omega) S' (by rw [hres',List.append_assoc]) hlen
def SpanPost (h:Hp) (vals:List Vl) (found:Bool) (x:V) (h':Hp):Prop:=∃ cc w,x=.agg [.bool found,.int .i64 cc,w]∧RdV h' w vals∧In h'.n w∧Ext h.n h h'
theorem span_ok {M:Nat} {h:Hp} {sv gv lv:V} {bk:Bok} {g:Grd} (a:EvC M h sv bk gv g) (hl:C1 lv) (own:List Nat) (kb:Nat) (d:Nk) (hco:∀ t ∈ bk,(∀ row ∈ t.rows,row.length=t.cols)∧t.cols < 1000000∧t.rows.length < 1000000) (hdc:d.c < 1000∧d.r < 1000∧d.c1 < 1000∧d.r1 < 1000) (hlen:(zb2 bk g own d).length≤1000000):
  Ans EE 106 [.agg (evC lv own sv gv),.agg (nkC kb d)] h fun x h'=>SpanPost h (zb2 bk g own d) (zcm bk (ownS own d.s) 0).isSome x h':=by
 apply a_calc_eval_span
 unfold zdH
 refine zW (cs:=evC lv own sv gv) (zf5 hl a.c1s a.c1g) fun h1 b1 w1=>?_
 refine zW (cs:=nkC kb d) (zbH kb d) fun h2 b2 w2=>?_
 refine zq zau fun h3 b3 w3=>?_
 have n1:=w1.n
 have e1:=w1.b
 have n2:=w2.n
 have e2:=w2.b
 have n3:=w3.n
 have e3:=w3.b
 have hb1:h3.t.get b1=some (.cells (evC lv own sv gv) 74 false):=by rw [w3.old b1 (by omega),w2.old b1 (by omega)]; exact w1.at_
 have hb2:h3.t.get b2=some (.cells (nkC kb d) 88 false):=by rw [w3.old b2 (by omega)]; exact w2.at_
 have X3:Ext h.n h h3:=⟨by omega,fun c hc=>by rw [w3.old c (by omega),w2.old c (by omega),w1.old c (by omega)]⟩
 rw [zd zcf hb1 (l:=evC lv own sv gv) rfl,zA,zd zck hb2 (l:=refC d) rfl]
 refine (sheet_ok (a.ext X3) hl own d).mono ?_
 rintro x h4 ⟨rfl,x4⟩
 have n4:=x4.n
 have X4:Ext h.n h h4:=X3.trans (x4.mono (by omega))
 have a4:=a.ext X4
 have hb1':h4.t.get b1=some (.cells (evC lv own sv gv) 74 false):=by rw [x4.old b1 (by omega)]; exact hb1
 have hb2':h4.t.get b2=some (.cells (nkC kb d) 88 false):=by rw [x4.old b2 (by omega)]; exact hb2
 have hb3:h4.t.get b3=some (.cells [.bool false,.int .i64 0,.nils] 133 false):=by rw [x4.old b3 (by omega)]; exact w3.at_
 unfold zkn
 cases hf:zcm bk (ownS own d.s) 0 with
 | none=>
  simp only
  rw [zak,decide_eq_true (by decide),zc]
  refine (err_ok 4 4 rfl h4).mono ?_
  rintro z h5 ⟨rfl,x5⟩
  have n5:=x5.n
  rw [zcL zM ze _ rfl (by omega),zaD zfP _ (fun p hp=>by
   simp only [List.mem_cons,List.not_mem_nil,or_false] at hp
   rcases hp with rfl; exact ⟨rfl,rfl⟩) rfl]
  have hnew:∀ b,b < h5.n→(h5.new (.cells (valV (vlE 4)).cells 48 false)).t.get b=h5.t.get b:=fun b hb=>by rw [Hp.get_new,if_neg (by omega)]
  refine zC zau (by rw [hnew b3 (by omega),x5.old b3 (by omega)]; exact hb3) (x:=.agg [.bool false,.int .i64 0,.sl h5.n 0 1 1]) rfl rfl (r:=[.bool false,.int .i64 0,.sl h5.n 0 1 1]) rfl fun h6 w6=>?_
  have n6:h6.n=h5.n+1:=w6.n
  rw [zd zau w6.at_ (l:=[.bool false,.int .i64 0,.sl h5.n 0 1 1]) rfl]
  have hs:zb2 bk g own d=[vlE 4]:=by unfold zb2; rw [hf]
  refine ⟨0,_,rfl,?_,fun b hb=>by cases hb; omega,by omega,fun c hc=>?_⟩
  ·rw [hs]
   have:=(zfu (h:=h5) (e:=48) (ws:=vlC (vlE 4)) (sz:=3) rfl).rd
   have e:vlCs [vlE 4]=vlC (vlE 4):=by simp [vlCs]
   show Rd h6 3 _ 1 (vlCs [vlE 4])
   rw [e]
   exact this.same fun c hc=>by cases hc; exact w6.other _ (by omega)
  ·rw [w6.other c (by omega),hnew c (by omega),x5.old c (by omega),X4.old c hc]
 | some i=>
  obtain ⟨_,t,ht,hnm,hfr⟩:=zbY hf
  rw [Nat.sub_zero] at ht
  simp only
  obtain ⟨hco1,hco2,hco3⟩:=hco t (List.mem_of_getElem? ht)
  obtain ⟨cs,hrd⟩:=a4.sh.rd
  obtain ⟨b4,o4,rv,g1,g2,g3,vs,f,ro,g4,g5⟩:=zbu a4.sh zl zH ht
  obtain ⟨us,hu⟩:=g3.rd
  have hui:In h4.n rv:=by obtain ⟨_,_,q,_⟩:=g3; exact q.mono a4.mM
  rw [zak,decide_eq_false (by omega),zb,zeX,zw,za zk hb1' rfl,g1,g2]
  refine sbox zH _ rfl (by have:=hu.c1.2; simpa [shtC,zh,V.isCell] using this) fun h5 b5 w5=>?_
  have n5:=w5.n
  have e5:=w5.b
  have X5:Ext h.n h h5:=X4.trans (w5.ext (by omega))
  have hb1'':h5.t.get b1=some (.cells (evC lv own sv gv) 74 false):=by rw [w5.old b1 (by omega)]; exact hb1'
  have hb2'':h5.t.get b2=some (.cells (nkC kb d) 88 false):=by rw [w5.old b2 (by omega)]; exact hb2'
  have hb3':h5.t.get b3=some (.cells [.bool false,.int .i64 0,.nils] 133 false):=by rw [w5.old b3 (by omega)]; exact hb3
  rw [zaL,zZ,za zm hb2'' (v:=.int .i64 (d.c1:Int)) rfl,zaI,za zm w5.at_ (v:=.int .i64 (t.cols:Int)) rfl,zdf,wZ _ (by omega),pu_min,zA,zZ,za zm hb2'' (v:=.int .i64 (d.c:Int)) rfl,zdf,wZ _ (by split <;> omega),pu_add,wZ _ (by split <;> omega)]
  rw [pu_max,zaD zfP _ (fun p hp=>by
   simp only [List.mem_cons,List.not_mem_nil,or_false] at hp
   rcases hp with rfl | rfl
   ·exact c1_bool _
   ·exact zcU _ _) rfl]
  generalize hcc:(if (0:Int) < _ then _ else _:Int)=cc
  refine sbox zau [.bool true,.int .i64 cc,.nils] rfl rfl fun h6 b6 w6=>?_
  have n6:=w6.n
  have e6:=w6.b
  have hb2c:h6.t.get b2=some (.cells (nkC kb d) 88 false):=by rw [w6.old b2 (by omega)]; exact hb2''
  rw [zA,zaf,za zm hb2c (v:=.int .i64 (d.r:Int)) rfl]
  have hs:zb2 bk g own d=rowsS g i d.c (min (d.c1+1) t.cols) (min (d.r1+1) t.rows.length - d.r) d.r:=by unfold zb2; rw [hf]; simp only; rw [ht]
  refine span_loop1 (a4.ext (w5.ext (Nat.le_refl _))) (lv:=lv) (own:=own) (b1:=b1) (b4:=b2) (b7:=b3) (b29:=b5) (bA:=b6) (kb:=kb) (d:=d) (t:=t) (rv:=rv) (cc:=cc) hb1'' (by omega) hb2'' (by omega) w5.at_ (by omega) (hu.ext (w5.ext (Nat.le_refl _)) hui) (hui.mono (by omega)) (by omega) rfl hb3' ht hco1 hco2 hco3 (by omega) (by omega) (by split <;> omega) (res:=zb2 bk g own d) (fun h7 w7 hx hn hr hi=>⟨cc,w7,rfl,hr,hi,by omega,fun c hc=>?_⟩) _ d.r h6 .nils [] rfl (by omega) ⟨w6.ext (Nat.le_refl _),w6.at_,Own.nil _ _ _ _,by omega,by omega⟩ (by rw [hs]; rfl) hlen
  have:=X5.old c hc
  rcases hx with hx | hx
  ·rw [hx.old c (by omega),this]
  ·rw [hx c (by omega) (by omega),this]
end
end Go.Proofs.YtbchdlelmkmagaaGreatDoor.VM
namespace Go.Proofs.YtbchdlelmkmagaaGreatDoor.VM
open Go
set_option linter.unusedVariables false
set_option linter.unusedSectionVars false
set_option linter.unusedSimpArgs false
set_option maxRecDepth 20000
noncomputable section
attribute [local instance] syZ
theorem nkCs_at:∀ (l:List Nk) (b i:Nat) (d:Nk),l[i]? = some d→∃ j,((nkCs b l).drop (i * 14)).take 14=nkC (b+j) d∧(d.kids ≠ []→(kidPs l)[j]? = some (zfo d.kids,3))
 | [],b,i,d,h=>by simp at h
 | a::l,b,0,d,h=>by
  simp only [List.getElem?_cons_zero,Option.some.injEq] at h
  subst h
  refine ⟨0,?_,fun hk=>?_⟩
  ·rw [nkCs,Nat.zero_mul,List.drop_zero]
   have:(nkC b a).length=14:=rfl
   rw [← this,List.take_left]; rfl
  ·cases hh:a.kids with
   | nil=>exact absurd hh hk
   | cons x r=>rw [(zhP hh l).2.1,List.getElem?_cons_zero,hh]
 | a::l,b,i+1,d,h=>by
  simp only [List.getElem?_cons_succ] at h
  have e:∀ c,(nkC b a++nkCs c l).drop ((i+1) * 14)=(nkCs c l).drop (i * 14):=fun c=>by
   have e1:(i+1) * 14=14+i * 14:=by omega
   rw [e1,← List.drop_drop]
   congr 1
  rw [nkCs,e]
  cases hh:a.kids with
  | nil=>
   have e1:nxK b a=b:=by unfold nxK; rw [hh]
   rw [e1,(kid_nil hh l).2.1]
   exact nkCs_at l b i d h
  | cons x r=>
   have e1:nxK b a=b+1:=by unfold nxK; rw [hh]
   obtain ⟨j,h1,h2⟩:=nkCs_at l (b+1) i d h
   rw [e1,(zhP hh l).2.1]
   exact ⟨j+1,by rw [h1,show b+1+j=b+(j+1) by omega],fun hk=>by rw [List.getElem?_cons_succ]; exact h2 hk⟩
structure NdC (h:Hp) (k:Nat) (l:List Nk):Prop where
 nb:zfs h k l
 lt:k+(zgb l).length≤h.n
theorem NdC.ext {h h':Hp} {k:Nat} {l:List Nk} (a:NdC h k l) (x:Ext h.n h h'):NdC h' k l:=⟨a.nb.mono x a.lt (Nat.le_refl _),by have:=a.lt; have:=x.n; omega⟩
def lvK (k:Nat) (l:List Nk):V:=.slo k 0 l.length l.length 14
theorem zie {h:Hp} {k:Nat} {l:List Nk} (a:NdC h k l) {i:Nat} {d:Nk} (hd:l[i]? = some d):
  ∃ kb b o vs f ro,(∀ (kk:IntKind) (q:V→Prop),(Pu EE).iaddr 43 (lvK k l) (.int kk i) q↔q (.ptr b o))∧(∀ q:V→Prop,(Pu EE).load h 88 (.ptr b o) q↔q (.agg (nkC kb d)))∧h.t.get b=some (.cells vs f ro)∧(∀ (j:Nat) (x:V),(nkC kb d)[j]? = some x→vs[o+j]? = some x) ∧
   Rd h 1 (kidV kb d) d.kids.length (zfo d.kids)∧In h.n (kidV kb d)∧b < h.n:=by
 obtain ⟨j,h1,h2⟩:=nkCs_at l (k+1) i d hd
 obtain ⟨b,o,g1,g2,g3,vs,f,ro,g4,g5,g6⟩:=zfT a.nb.rd zbM zbh (by omega) (List.getElem?_eq_some_iff.1 hd).1 h1
 have hlt:=a.lt
 have hfl:(zgb l).length=kidN l+1:=zf2 l
 refine ⟨k+1+j,b,o,vs,f,ro,g1,g2,g4,g6,?_,?_,?_⟩
 ·cases hk:d.kids with
  | nil=>exact ⟨by simp [zfo],.inl ⟨.inl (by unfold kidV; rw [hk]),rfl⟩⟩
  | cons x r=>
   obtain ⟨rest,ro2,k1⟩:=a.nb.kid (h2 (by rw [hk]; simp))
   rw [hk] at k1
   refine ⟨by simp [zfo],.inr ⟨k+1+j,0,_,zcH k1,?_,?_⟩⟩
   ·unfold sub
    have:((zfo (x::r)++rest).drop 0).take ((x::r).length * 1)=zfo (x::r):=by
     rw [List.drop_zero,Nat.mul_one,show (x::r).length=(zfo (x::r)).length by simp [zfo],List.take_left]
    simp only [this]
    simp [zfo]
   ·unfold kidV
    rw [hk]
    simp only
    cases Nat.beq d.k 7
    ·exact .inl ⟨_,rfl⟩
    ·exact .inr ⟨_,_,rfl⟩
 ·intro c hc
  unfold kidV at hc
  cases hk:d.kids with
  | nil=>rw [hk] at hc; cases hc
  | cons x r=>
   have h3:=h2 (by rw [hk]; simp)
   have h4:=(List.getElem?_eq_some_iff.1 h3).1
   rw [zhE] at h4
   rw [hk] at hc
   simp only at hc
   cases hb:Nat.beq d.k 7 <;> rw [hb] at hc <;> cases hc <;> omega
 ·cases g3
  omega
theorem zja {h:Hp} {v:V} {l:List Nat} (r:Rd h 1 v l.length (zfo l)) {i a:Nat} (ha:l[i]? = some a):
  ∃ b o,(∀ (k:IntKind) (q:V→Prop),(Pu EE).iaddr 86 v (.int k i) q↔q (.ptr b o))∧(∀ q:V→Prop,(Pu EE).load h 3 (.ptr b o) q↔q (.int .i64 (a:Int)))∧zI v=some b:=
 zde r zbS zm (i:=i) (x:=.int .i64 (a:Int)) (by unfold zfo; rw [List.getElem?_map,ha]; rfl)
def kAt (ns:List Nk) (i:Nat):Nat:=match ns[i]? with | some d=>d.k | none=>6
def isNum (ns:List Nk) (i:Nat) (n:Int):Bool:=match ns[i]? with | some d=>decide (d.k=1) && decide (d.n=n) | none=>false
def okNk (ns:List Nk) (i:Nat) (d:Nk):Bool:=
 decide (d.c < 1000) && decide (d.r < 1000) && decide (d.c1 < 1000) && decide (d.r1 < 1000) && decide (zar d.n) && d.t.all (fun x=>decide (x < 256)) &&
 (if d.k=1∨d.k=2∨d.k=5∨d.k=6 then true
 else if d.k=7 then (match d.kids with
  | [a]=>decide (d.t=sumK) && decide (a < i) && decide (kAt ns a=6) && decide (a < ns.length)
  | [a,b,c]=>decide (d.t=ifK) && decide (a < i) && decide (b < i) && decide (c < i) && decide (kAt ns a ≠ 6) && decide (kAt ns b ≠ 6) && decide (kAt ns c ≠ 6)
  | _=>false)
 else match d.kids with
  | [a,b]=>decide (a < i) && decide (b < i) && decide (kAt ns a ≠ 6) && decide (kAt ns b ≠ 6) && (decide (d.k=13) || decide (d.k=15) || decide (d.k=16) || (decide (d.k=18) && isNum ns b 2) || (decide (d.k=19) && isNum ns a 1 && (isNum ns b 0 || isNum ns b 1)))
  | _=>false)
def okNs (ns:List Nk):Bool:=(List.range ns.length).all (fun i=>match ns[i]? with | some d=>okNk ns i d | none=>false) && decide (0 < ns.length) && decide (kAt ns (ns.length - 1) ≠ 6) && decide (ns.length < 1000)
theorem nodes_okNs:ziA.all okNs=true:=by kernel_rfl
theorem okNs_at {ns:List Nk} (h:okNs ns=true) {i:Nat} {d:Nk} (hd:ns[i]? = some d):okNk ns i d=true:=by
 unfold okNs at h
 simp only [Bool.and_eq_true] at h
 have:=List.all_eq_true.1 h.1.1.1 i (List.mem_range.2 (List.getElem?_eq_some_iff.1 hd).1)
 rw [hd] at this
 exact this
end
end Go.Proofs.YtbchdlelmkmagaaGreatDoor.VM
namespace Go.Proofs.YtbchdlelmkmagaaGreatDoor.VM
open Go
set_option linter.unusedVariables false
set_option linter.unusedSectionVars false
set_option linter.unusedSimpArgs false
set_option maxRecDepth 20000
noncomputable section
attribute [local instance] syZ
structure NCx (M:Nat) (k:Nat) (ns:List Nk) (sv gv:V) (bk:Bok) (g:Grd) (h:Hp):Prop where
 ev:EvC M h sv bk gv g
 nd:NdC h k ns
theorem NCx.ext {M k:Nat} {ns:List Nk} {sv gv:V} {bk:Bok} {g:Grd} {h h':Hp} (a:NCx M k ns sv gv bk g h) (x:Ext h.n h h'):NCx M k ns sv gv bk g h':=⟨a.ev.ext x,a.nd.ext x⟩
theorem c1_lv (k:Nat) (ns:List Nk):C1 (lvK k ns):=⟨rfl,rfl⟩
theorem rd_s1 {h:Hp} {sz len:Nat} {v:V} {cs:List V} (r:Rd h sz v len cs):zkf v v=true:=by
 rcases r.at_ with ⟨rfl | rfl,_⟩ | ⟨b,off,vs,_,_,⟨c,rfl⟩ | ⟨lo,z,rfl⟩⟩ <;> simp [zkf]
theorem same_ev {M k:Nat} {ns:List Nk} {sv gv:V} {bk:Bok} {g:Grd} {h:Hp} (a:NCx M k ns sv gv bk g h) (own:List Nat) (q:Prop):(Pu EE).same (.agg (evC (lvK k ns) own sv gv)) (.agg (evC (lvK k ns) own sv gv)) q↔q:=by
 show (zd9 _ _=true∧q)↔q
 obtain ⟨cs,h1⟩:=a.ev.sh.rd
 obtain ⟨N,B,sp,G⟩:=a.ev.gr
 obtain ⟨ws,h2,_⟩:=G.out
 have:zd9 (.agg (evC (lvK k ns) own sv gv)) (.agg (evC (lvK k ns) own sv gv))=true:=by
  show zkl (evC (lvK k ns) own sv gv) (evC (lvK k ns) own sv gv)=true
  simp [evC,zkl,rd_s1 h1,rd_s1 h2]
  simp [lvK,zkf,zci]
 simp [this]
def NodeOK (M k:Nat) (ns:List Nk) (sv gv:V) (bk:Bok) (g:Grd) (own:List Nat) (i:Nat) (v:Vl):Prop:=
 MayV v∧∀ h,NCx M k ns sv gv bk g h→∀ z:Int,z=(i:Int)→Ans EE 37 [.agg (evC (lvK k ns) own sv gv),.int .i64 z] h fun x h'=>x=valV v∧Ext h.n h h'
theorem two_eval {M k:Nat} {ns:List Nk} {sv gv:V} {bk:Bok} {g:Grd} {own:List Nat} {kb:Nat} {d:Nk} {i1 i2:Nat} {v1 v2:Vl} (hk:d.kids=[i1,i2]) (h1:NodeOK M k ns sv gv bk g own i1 v1) (h2:NodeOK M k ns sv gv bk g own i2 v2) (hop:TwoOK d.k v1 v2) {h:Hp} (cx:NCx M k ns sv gv bk g h) (hr:Rd h 1 (kidV kb d) d.kids.length (zfo d.kids)) (hi:In h.n (kidV kb d)):
  Ans EE 71 [.agg (evC (lvK k ns) own sv gv),.agg (nkC kb d)] h fun x h'=>x=valV (twoS d.k v1 v2)∧Ext h.n h h':=by
 apply a_calc_eval_two
 unfold zeI
 refine zW (cs:=evC (lvK k ns) own sv gv) (zf5 (c1_lv k ns) cx.ev.c1s cx.ev.c1g) fun hA b1 w1=>?_
 refine zW (cs:=nkC kb d) (zbH kb d) fun hB b2 w2=>?_
 refine zq ze fun h3 b3 w3=>?_
 have n1:=w1.n
 have e1:=w1.b
 have n2:=w2.n
 have e2:=w2.b
 have n3:=w3.n
 have e3:=w3.b
 have hb1:h3.t.get b1=some (.cells (evC (lvK k ns) own sv gv) 74 false):=by rw [w3.old b1 (by omega),w2.old b1 (by omega)]; exact w1.at_
 have hb2:h3.t.get b2=some (.cells (nkC kb d) 88 false):=by rw [w3.old b2 (by omega)]; exact w2.at_
 have X3:Ext h.n h h3:=⟨by omega,fun c hc=>by rw [w3.old c (by omega),w2.old c (by omega),w1.old c (by omega)]⟩
 have hr3:=hr.ext X3 hi
 have hi3:In h3.n (kidV kb d):=hi.mono (by omega)
 have k0:d.kids[0]? = some i1:=by rw [hk]; rfl
 have k1:d.kids[1]? = some i2:=by rw [hk]; rfl
 obtain ⟨c,o,g1,g2,g3⟩:=zja hr3 k0
 have g1':=g1 .i64
 rw [show ((0:Nat):Int)=0 from rfl] at g1'
 have hcl:c < h3.n:=hi3 c g3
 rw [zd zcf hb1 (l:=evC (lvK k ns) own sv gv) rfl,zbb,za zc2 hb2 (v:=kidV kb d) rfl,g1',g2]
 refine zq ze fun h4 b4 w4=>?_
 have n4:=w4.n
 have e4:=w4.b
 have hb1':h4.t.get b1=some (.cells (evC (lvK k ns) own sv gv) 74 false):=by rw [w4.old b1 (by omega)]; exact hb1
 have hb2':h4.t.get b2=some (.cells (nkC kb d) 88 false):=by rw [w4.old b2 (by omega)]; exact hb2
 rw [zaF (w4.old c hcl),g2,zab,za zc2 hb2' (v:=kidV kb d) rfl,zbt hr3,zd zcf hb1' (l:=evC (lvK k ns) own sv gv) rfl]
 have X4:Ext h.n h h4:=X3.trans (w4.ext (by omega))
 have cx4:=cx.ext X4
 rw [same_ev cx4]
 refine (h1.2 h4 cx4 _ rfl).mono ?_
 rintro x h5 ⟨rfl,x5⟩
 have n5:=x5.n
 have hz:h5.t.get b4=some (.cells [.int .i64 0,.int .i64 0,.str []] 48 false):=by rw [x5.old b4 (by omega)]; exact w4.at_
 refine ⟨⟨_,by rw [← e4]; exact hz,rfl⟩,?_⟩
 refine zC ze hz (x:=valV v1) rfl rfl (r:=vlC v1) rfl fun h6 w6=>?_
 have n6:=w6.n
 have hold:∀ c,c < h4.n→c ≠ b4→h6.t.get c=h4.t.get c:=fun c hc hne=>by rw [w6.other c hne,x5.old c hc]
 have hb1c:h6.t.get b1=some (.cells (evC (lvK k ns) own sv gv) 74 false):=by rw [hold b1 (by omega) (by omega)]; exact hb1'
 have hb2c:h6.t.get b2=some (.cells (nkC kb d) 88 false):=by rw [hold b2 (by omega) (by omega)]; exact hb2'
 have hb3c:h6.t.get b3=some (.cells [.int .i64 0,.int .i64 0,.str []] 48 false):=by rw [hold b3 (by omega) (by omega),w4.old b3 (by omega)]; exact w3.at_
 have X6:Ext h.n h h6:=⟨by omega,fun c hc=>by rw [hold c (by omega) (by omega),X4.old c hc]⟩
 have hr6:=hr.ext X6 hi
 obtain ⟨c',o',g4,g5,g6⟩:=zja hr6 k1
 have g4':=g4 .i64
 rw [show ((1:Nat):Int)=1 from rfl] at g4'
 rw [zE,za zm hb2c (v:=.int .i64 (d.k:Int)) rfl,zd ze w6.at_ (l:=vlC v1) rfl,zd zcf hb1c (l:=evC (lvK k ns) own sv gv) rfl,zbb,za zc2 hb2c (v:=kidV kb d) rfl,g4',g5]
 refine (h2.2 h6 (cx.ext X6) _ rfl).mono ?_
 rintro x h7 ⟨rfl,x7⟩
 have n7:=x7.n
 have hb4c:h7.t.get b4=some (.cells (vlC v1) 48 false):=by rw [x7.old b4 (by omega)]; exact w6.at_
 have hb2d:h7.t.get b2=some (.cells (nkC kb d) 88 false):=by rw [x7.old b2 (by omega)]; exact hb2c
 rw [zd ze hb4c (l:=vlC v1) rfl]
 show (Pu EE).same (valV v1) (valV v1) _
 rw [zh7,za zm hb2d (v:=.int .i64 (d.k:Int)) rfl,zab]
 refine (two_ok d.k v1 v2 h1.1 h2.1 hop h7).mono ?_
 rintro x h8 ⟨rfl,x8⟩
 have n8:=x8.n
 refine retV (by rw [x8.old b3 (by omega),x7.old b3 (by omega)]; exact hb3c) rfl _ fun h9 w9=>⟨rfl,by have:=w9.n; omega,fun c hc=>?_⟩
 rw [w9.other c (by omega),x8.old c (by omega),x7.old c (by omega),X6.old c hc]
end
end Go.Proofs.YtbchdlelmkmagaaGreatDoor.VM
namespace Go.Proofs.YtbchdlelmkmagaaGreatDoor.VM
open Go
set_option linter.unusedVariables false
set_option linter.unusedSectionVars false
set_option linter.unusedSimpArgs false
set_option maxRecDepth 20000
noncomputable section
attribute [local instance] syZ
theorem noIntA:∃ iu,EE.ty.get 131=some iu∧∀ k,iu.k ≠ .int k:=by
 obtain ⟨i,h1,h2⟩:=zQ; exact ⟨i,h1,fun k=>by rw [h2]; simp⟩
structure AgS (N:Nat) (h:Hp) (v:V) (ds:List AD):Prop where
 own:Own N h v 133 3 ds.length (agCs ds)
 at_:∀ (i:Nat) (d:AD),ds[i]? = some d→RdV h d.w d.l∧In h.n d.w∧(∀ b,zI d.w=some b→zI v ≠ some b)
theorem AgS.g {N:Nat} {h:Hp} {v:V} {ds:List AD} (a:AgS N h v ds):ArgG h v ds:=⟨a.own.rd,a.own.in_,fun i d hd=>⟨(a.at_ i d hd).1,(a.at_ i d hd).2.1⟩⟩
theorem AgS.ext {N:Nat} {h h':Hp} {v:V} {ds:List AD} (a:AgS N h v ds) (x:Ext h.n h h'):AgS N h' v ds:=⟨a.own.keep x.n fun c hc=>x.old c (a.own.in_ c hc),fun i d hd=>⟨(a.at_ i d hd).1.ext x (a.at_ i d hd).2.1,(a.at_ i d hd).2.1.mono x.n,(a.at_ i d hd).2.2⟩⟩
theorem zj8 {N:Nat} {h:Hp} {v:V} {ds:List AD} (a:AgS N h v ds) (d:AD) (hr:RdV h d.w d.l) (hi:In h.n d.w) (hne:∀ b,zI d.w=some b→zI v ≠ some b) (hlen:ds.length+1≤1048576) (hN:N≤h.n) (q:V→Hp→Prop)
  (hq:∀ v' h',AgS N h' v' (ds++[d])→Ext N h h'→q v' h'):
  (Pu EE).bsl h 131 1 [(0,.agg (adC d))] fun x h1 _=>(Pu EE).ebui h1 #[131,131] .append [v,x] q:=by
 rw [zcL zQ zau _ rfl (by omega)]
 have hnew:∀ b,b < h.n→(h.new (.cells (V.agg (adC d)).cells 133 false)).t.get b=h.t.get b:=fun b hb=>by rw [Hp.get_new,if_neg (by omega)]
 have o1:Own N (h.new (.cells (V.agg (adC d)).cells 133 false)) v 133 3 ds.length (agCs ds):=a.own.keep (Nat.le_succ _) (fun c hc=>hnew c (a.own.in_ c hc))
 obtain ⟨v',h',h1,h2,h3,h4,h5⟩:=zdj (ts:=#[131,131]) o1 rfl rfl zQ noIntA zau (zfx (zfu (h:=h) (e:=133) (ws:=(V.agg (adC d)).cells) rfl).rd).1 (fun e=>by cases e) (by have:=adC_c h d hr; exact this) hlen (Nat.le_succ_of_le hN)
 have nn:(h.new (.cells (V.agg (adC d)).cells 133 false)).n=h.n+1:=rfl
 have hn':=h3.n
 have keep:∀ c,c < h.n→zI v ≠ some c→h'.t.get c=h.t.get c:=fun c hc hne=>by rw [h4 c (by omega) hne,hnew c hc]
 refine (h1 q).2 (hq v' h' ⟨?_,fun i x hx=>?_⟩ ((Ext.new hN _).trans h3))
 ·have e:agCs (ds++[d])=agCs ds++(V.agg (adC d)).cells:=by unfold agCs; rw [List.flatMap_append]; simp; rfl
  show Own _ _ _ _ _ (ds++[d]).length _
  rw [List.length_append,e]
  exact h2
 ·have fin:∀ x:AD,RdV h x.w x.l→In h.n x.w→(∀ b,zI x.w=some b→zI v ≠ some b)→RdV h' x.w x.l∧In h'.n x.w∧(∀ b,zI x.w=some b→zI v' ≠ some b):=fun x q1 q2 q3=>⟨q1.same fun c hc=>keep c (q2 c hc) (q3 c hc),q2.mono (by omega),fun b hb hv=>by
   rcases h5 b hv with q | q
   ·exact q3 b hb q
   ·have:=q2 b hb; omega⟩
  by_cases hil:i < ds.length
  ·rw [List.getElem?_append_left hil] at hx
   obtain ⟨q1,q2,q3⟩:=a.at_ i x hx
   exact fin x q1 q2 q3
  ·rw [List.getElem?_append_right (by omega)] at hx
   have:x=d:=by
    cases hz:i - ds.length with
    | zero=>rw [hz] at hx; cases hx; rfl
    | succ m=>rw [hz] at hx; simp at hx
   subst this
   exact fin x hr hi hne
section
variable {M k:Nat} {ns:List Nk} {sv gv:V} {bk:Bok} {g:Grd} {own:List Nat} {h0:Hp} {b1 b2 b3 kb:Nat} {d:Nk} {Q:QQ}
structure CL (M k:Nat) (ns:List Nk) (sv gv:V) (bk:Bok) (g:Grd) (own:List Nat) (h0:Hp) (b1 b2 b3 kb:Nat) (d:Nk):Prop where
 cx:NCx M k ns sv gv bk g h0
 hb1:h0.t.get b1=some (.cells (evC (lvK k ns) own sv gv) 74 false)
 hb2:h0.t.get b2=some (.cells (nkC kb d) 88 false)
 l1:b1 < h0.n
 l2:b2 < h0.n
 hr:Rd h0 1 (kidV kb d) d.kids.length (zfo d.kids)
 hi:In h0.n (kidV kb d)
theorem call_val (C:CL M k ns sv gv bk g own h0 b1 b2 b3 kb d) {j a:Nat} {v:Vl} {e:Nk} (ha:d.kids[j]? = some a) (he:ns[a]? = some e) (hk:e.k ≠ 6) (hv:NodeOK M k ns sv gv bk g own a v) {h:Hp} (x:Ext h0.n h0 h) {u:V} {ds:List AD} (A:AgS h0.n h u ds) (hj:j < 1000) (hd:ds.length < 1000)
  (hq:∀ h' u' w,Ext h0.n h0 h'→AgS h0.n h' u' (ds++[⟨false,0,w,[v]⟩])→zaU Q (.ptr b1 0) (.ptr b2 0) (.ptr b3 0) u' (kidV kb d) (.int .i64 (d.kids.length:Int)) (.int .i64 ((j+1:Nat):Int)) h'):
  zaU Q (.ptr b1 0) (.ptr b2 0) (.ptr b3 0) u (kidV kb d) (.int .i64 (d.kids.length:Int)) (.int .i64 (j:Int)) h:=by
 have hjl:=(List.getElem?_eq_some_iff.1 ha).1
 have xn:=x.n
 have hb1:=(x.old b1 C.l1).trans C.hb1
 have cx:=C.cx.ext x
 apply zd1
 unfold zbC
 rw [zak,decide_eq_true (by omega),zc]
 obtain ⟨c,o,g1,g2,g3⟩:=zja (C.hr.ext x C.hi) ha
 obtain ⟨kb2,b,o2,vs,f,ro,m1,m2,m3,m4,m5,m6,m7⟩:=zie cx.nd he
 rw [g1,g2,ze8,za zfI hb1 (v:=lvK k ns) rfl,m1,zE,za zm m3 (m4 0 (.int .i64 (e.k:Int)) rfl),eqlK e.k 6 6 rfl,decide_eq_false hk,zb,zd zcf hb1 (l:=evC (lvK k ns) own sv gv) rfl]
 refine (hv.2 h cx _ rfl).mono ?_
 rintro y h5 ⟨rfl,x5⟩
 have n5:=x5.n
 have A5:=A.ext x5
 rw [zcL zM ze _ rfl (by omega),zaD zfP _ (fun p hp=>by
   simp only [List.mem_cons,List.not_mem_nil,or_false] at hp
   rcases hp with rfl; exact ⟨rfl,rfl⟩) rfl]
 have x6:Ext h5.n h5 (h5.new (.cells (valV v).cells 48 false)):=Ext.new (Nat.le_refl _) _
 have n6:(h5.new (.cells (valV v).cells 48 false)).n=h5.n+1:=rfl
 have A6:=A5.ext x6
 have hr6:RdV (h5.new (.cells (valV v).cells 48 false)) (.sl h5.n 0 1 1) [v]:=by
  have:=(zfu (h:=h5) (e:=48) (ws:=vlC v) (sz:=3) rfl).rd
  have e:vlCs [v]=vlC v:=by simp [vlCs]
  show Rd _ 3 _ 1 (vlCs [v])
  rw [e]; exact this
 refine zj8 A6 ⟨false,0,.sl h5.n 0 1 1,[v]⟩ hr6 (fun b hb=>by cases hb; omega) (fun b hb hu=>by cases hb; have:=A5.own.in_ _ hu; omega) (by omega) (by omega) _ fun u' h' A' x'=>?_
 rw [zK _ _ _ _ (by omega)]
 exact hq h' u' _ (x.trans ((x5.mono (by omega)).trans ((x6.mono (by omega)).trans x'))) A'
theorem call_span (C:CL M k ns sv gv bk g own h0 b1 b2 b3 kb d) {j a:Nat} {e:Nk} (ha:d.kids[j]? = some a) (he:ns[a]? = some e) (hk:e.k=6) (hco:∀ t ∈ bk,(∀ row ∈ t.rows,row.length=t.cols)∧t.cols < 1000000∧t.rows.length < 1000000) (hdc:e.c < 1000∧e.r < 1000∧e.c1 < 1000∧e.r1 < 1000) (hlen:(zb2 bk g own e).length≤1000000) {h:Hp} (x:Ext h0.n h0 h) {u:V} {ds:List AD} (A:AgS h0.n h u ds) (hj:j < 1000) (hd:ds.length < 1000) (hu:∀ b,zI u ≠ some b)
  (hq:∀ h' u' cc w,Ext h0.n h0 h'→AgS h0.n h' u' (ds++[⟨(zcm bk (ownS own e.s) 0).isSome,cc,w,zb2 bk g own e⟩])→zaU Q (.ptr b1 0) (.ptr b2 0) (.ptr b3 0) u' (kidV kb d) (.int .i64 (d.kids.length:Int)) (.int .i64 ((j+1:Nat):Int)) h'):
  zaU Q (.ptr b1 0) (.ptr b2 0) (.ptr b3 0) u (kidV kb d) (.int .i64 (d.kids.length:Int)) (.int .i64 (j:Int)) h:=by
 have hjl:=(List.getElem?_eq_some_iff.1 ha).1
 have xn:=x.n
 have hb1:=(x.old b1 C.l1).trans C.hb1
 have cx:=C.cx.ext x
 apply zd1
 unfold zbC
 rw [zak,decide_eq_true (by omega),zc]
 obtain ⟨c,o,g1,g2,g3⟩:=zja (C.hr.ext x C.hi) ha
 obtain ⟨kb2,b,o2,vs,f,ro,m1,m2,m3,m4,m5,m6,m7⟩:=zie cx.nd he
 rw [g1,g2,ze8,za zfI hb1 (v:=lvK k ns) rfl,m1,zE,za zm m3 (m4 0 (.int .i64 (e.k:Int)) rfl),eqlK e.k 6 6 rfl,decide_eq_true hk,zc,zd zcf hb1 (l:=evC (lvK k ns) own sv gv) rfl,ze8,za zfI hb1 (v:=lvK k ns) rfl,m1,m2]
 refine (span_ok cx.ev (c1_lv k ns) own kb2 e hco hdc hlen).mono ?_
 rintro y h5 ⟨cc,w,rfl,r5,i5,x5⟩
 have n5:=x5.n
 have A5:=A.ext x5
 refine zj8 A5 ⟨(zcm bk (ownS own e.s) 0).isSome,cc,w,zb2 bk g own e⟩ r5 i5 (fun b hb=>hu b) (by omega) (by omega) _ fun u' h' A' x'=>?_
 rw [zK _ _ _ _ (by omega)]
 exact hq h' u' _ _ (x.trans ((x5.mono (by omega)).trans x')) A'
end
end
end Go.Proofs.YtbchdlelmkmagaaGreatDoor.VM
