/- DpA5 DpQ DpR DpS DpT DpU CmV2 CmV3 CmV4 CmTy3 CmA2 CmF CmG CmH CmI -/
import Derived.Test.YtbchdlelmkmagaaGreatDoorMg11
namespace Go.Proofs.YtbchdlelmkmagaaGreatDoor.VM
open Go
set_option linter.unusedVariables false
set_option maxRecDepth 100000
noncomputable section
noncomputable def ziS:Code:=match Tryz.f28.body with | some c=>c | none=>.skip
noncomputable def zcj:Fl:=⟨Tryz.f28,ziS,[]⟩
noncomputable def zbT (p:Pr) (l:LL) (Q:QQ) (v0 v1:V) (h:Hp):Prop:=
 p.invk v0 "Push" [v1] h fun x1 h2 =>
 p.invk v0 "Len" [] h2 fun x3 h4 =>
 p.bin .sub 3 false true x3 (.int .i64 1) fun x5=>
 p.call 56 [v0,x5] h4 fun x6 h7=>
 Q u0 h7
theorem zhX (p:Pr) (l:LL) (Q:QQ) (v0 v1:V) (h:Hp):zbT p l Q v0 v1 h=zcj.K p EE l Q [] ([v0,v1]++List.replicate 10 zj) h:=by kernel_rfl
theorem zjs {Q:QQ} {v0 v1:V} {h:Hp} (H:zbT (Pu EE) (zcj.L EE Q) Q v0 v1 h):Ans EE 28 [v0,v1] h Q:=
 ansL (F:=zcj) (by kernel_rfl) (by kernel_rfl) (by kernel_rfl) (by kernel_rfl) (cast (zhX _ _ _ v0 v1 h) H)
noncomputable def zkd:Code:=match Tryz.f30.body with | some c=>c | none=>.skip
noncomputable def zcQ:Fl:=⟨Tryz.f30,zkd,[]⟩
noncomputable def zb1 (p:Pr) (l:LL) (Q:QQ) (v0:V) (h:Hp):Prop:=
 p.invk v0 "Len" [] h fun x1 h2 =>
 p.bin .sub 3 false true x1 (.int .i64 1) fun x3=>
 p.invk v0 "Swap" [(.int .i64 0), x3] h2 fun x4 h5 =>
 p.call 57 [v0,(.int .i64 0),x3] h5 fun x6 h7=>
 p.invk v0 "Pop" [] h7 fun x8 h9 =>
 Q x8 h9
theorem ziK (p:Pr) (l:LL) (Q:QQ) (v0:V) (h:Hp):zb1 p l Q v0 h=zcQ.K p EE l Q [] ([v0]++List.replicate 14 zj) h:=by kernel_rfl
theorem zkk {Q:QQ} {v0:V} {h:Hp} (H:zb1 (Pu EE) (zcQ.L EE Q) Q v0 h):Ans EE 30 [v0] h Q:=
 ansL (F:=zcQ) (by kernel_rfl) (by kernel_rfl) (by kernel_rfl) (by kernel_rfl) (cast (ziK _ _ _ v0 h) H)
noncomputable def zkV:Code:=match Tryz.f56.body with | some c=>c | none=>.skip
noncomputable def za3:Fl:=⟨Tryz.f56,zkV,[([false],[0,1])]⟩
abbrev zfd (Q:QQ) (v0 v1:V) (h:Hp):Prop:=za3.L EE Q 1 [v0,v1] h
noncomputable def zcn (p:Pr) (l:LL) (Q:QQ) (v0 v1:V) (h:Hp):Prop:=
 l 1 [v0,v1] h
theorem zjv (p:Pr) (l:LL) (Q:QQ) (v0 v1:V) (h:Hp):zcn p l Q v0 v1 h=za3.K p EE l Q [] ([v0,v1]++List.replicate 21 zj) h:=by kernel_rfl
theorem zle {Q:QQ} {v0 v1:V} {h:Hp} (H:zcn (Pu EE) (za3.L EE Q) Q v0 v1 h):Ans EE 56 [v0,v1] h Q:=
 ansL (F:=za3) (by kernel_rfl) (by kernel_rfl) (by kernel_rfl) (by kernel_rfl) (cast (zjv _ _ _ v0 v1 h) H)
noncomputable def zbE (p:Pr) (l:LL) (Q:QQ) (v0 v1:V) (h:Hp):Prop:=
 p.bin .sub 3 false true v1 (.int .i64 1) fun x1=>
 p.bin .quo 3 false true x1 (.int .i64 2) fun x2=>
 p.bin .eql 3 false false x2 v1 fun x3=>
 p.gval x3 false (fun k4=>
  k4 v0) fun x5=>
 p.gval x3 false (fun k6=>
  k6 v1) fun x7=>
 p.gval x3 false (fun k8=>
  k8 x2) fun x9=>
 p.geff x3 false (fun k10=>
  p.invk x5 "Less" [x7, x9] h fun x11 h12 =>
  k10 x11 h12) h fun x13 h14=>
 p.gval x3 false (fun k15=>
  p.un .not x13 fun x16=>
  k15 x16) fun x17=>
 p.pick x3 (some (.bool true)) (some x17) fun x18=>
 p.cond x18
 (fun _=>
  Q u0 h14)
 (fun _=>
  p.invk v0 "Swap" [x2, v1] h14 fun x19 h20 =>
  l 1 [v0,x2] h20)
theorem ziN (p:Pr) (l:LL) (Q:QQ) (s:List V) (h:Hp):zbE p l Q (nth s 0) (nth s 1) h=za3.K p EE l Q [false] (nths s 23 0) h:=by kernel_rfl
theorem zfa {Q:QQ} {v0 v1:V} {h:Hp} (H:zbE (Pu EE) (za3.L EE Q) Q v0 v1 h):zfd Q v0 v1 h:=
 labR (path:=[false]) rfl rfl fun s e=>by cases e; exact cast (ziN _ _ _ s h) H
noncomputable def zjB:Code:=match Tryz.f57.body with | some c=>c | none=>.skip
noncomputable def zal:Fl:=⟨Tryz.f57,zjB,[([false,false,true,true],[0,1,2,7]),([true,true,true,true,false,false,false,false,true,true],[0,1,2,7,9])]⟩
abbrev zd8 (Q:QQ) (v0 v1 v2 v7:V) (h:Hp):Prop:=zal.L EE Q 1 [v0,v1,v2,v7] h
abbrev zdI (Q:QQ) (v0 v1 v2 v7 v9:V) (h:Hp):Prop:=zal.L EE Q 2 [v0,v1,v2,v7,v9] h
noncomputable def zbR (p:Pr) (l:LL) (Q:QQ) (v0 v1 v2:V) (h:Hp):Prop:=
 l 1 [v0,v1,v2,v1] h
theorem zii (p:Pr) (l:LL) (Q:QQ) (v0 v1 v2:V) (h:Hp):zbR p l Q v0 v1 v2 h=zal.K p EE l Q [] ([v0,v1,v2]++List.replicate 45 zj) h:=by kernel_rfl
theorem zjh {Q:QQ} {v0 v1 v2:V} {h:Hp} (H:zbR (Pu EE) (zal.L EE Q) Q v0 v1 v2 h):Ans EE 57 [v0,v1,v2] h Q:=
 ansL (F:=zal) (by kernel_rfl) (by kernel_rfl) (by kernel_rfl) (by kernel_rfl) (cast (zii _ _ _ v0 v1 v2 h) H)
noncomputable def zbm (p:Pr) (l:LL) (Q:QQ) (v0 v1 v2 v7:V) (h:Hp):Prop:=
 p.bin .mul 3 true false (.int .i64 2) v7 fun x1=>
 p.bin .add 3 false true x1 (.int .i64 1) fun x2=>
 p.bin .geq 3 false false x2 v2 fun x3=>
 p.gval x3 false (fun k4=>
  k4 x2) fun x5=>
 p.gval x3 false (fun k6=>
  p.bin .lss 3 false true x5 (.int .i64 0) fun x7=>
  k6 x7) fun x8=>
 p.pick x3 (some (.bool true)) (some x8) fun x9=>
 p.cond x9
 (fun _=>
  p.bin .gtr 3 false false v7 v1 fun x10=>
  Q x10 h)
 (fun _=>
  p.bin .add 3 false true x2 (.int .i64 1) fun x11=>
  p.bin .lss 3 false false x11 v2 fun x12=>
  p.gval x12 true (fun k13=>
  k13 v0) fun x14=>
  p.gval x12 true (fun k15=>
  k15 x11) fun x16=>
  p.gval x12 true (fun k17=>
  k17 x2) fun x18=>
  p.geff x12 true (fun k19=>
  p.invk x14 "Less" [x16, x18] h fun x20 h21 =>
  k19 x20 h21) h fun x22 h23=>
  p.pick x12 (some x22) (some (.bool false)) fun x24=>
  p.cond x24
  (fun _=>
  l 2 [v0,v1,v2,v7,x11] h23)
  (fun _=>
  l 2 [v0,v1,v2,v7,x2] h23))
theorem zh5 (p:Pr) (l:LL) (Q:QQ) (s:List V) (h:Hp):zbm p l Q (nth s 0) (nth s 1) (nth s 2) (nth s 7) h=zal.K p EE l Q [true,true,false,false] (nths s 48 0) h:=by kernel_rfl
theorem zdW {Q:QQ} {v0 v1 v2 v7:V} {h:Hp} (H:zbm (Pu EE) (zal.L EE Q) Q v0 v1 v2 v7 h):zd8 Q v0 v1 v2 v7 h:=
 labR (path:=[true,true,false,false]) rfl rfl fun s e=>by cases e; exact cast (zh5 _ _ _ s h) H
noncomputable def zbL (p:Pr) (l:LL) (Q:QQ) (v0 v1 v2 v7 v9:V) (h:Hp):Prop:=
 p.invk v0 "Less" [v9, v7] h fun x1 h2 =>
 p.un .not x1 fun x3=>
 p.cond x3
 (fun _=>
  p.bin .gtr 3 false false v7 v1 fun x4=>
  Q x4 h2)
 (fun _=>
  p.invk v0 "Swap" [v7, v9] h2 fun x5 h6 =>
  l 1 [v0,v1,v2,v9] h6)
theorem zia (p:Pr) (l:LL) (Q:QQ) (s:List V) (h:Hp):zbL p l Q (nth s 0) (nth s 1) (nth s 2) (nth s 7) (nth s 9) h=zal.K p EE l Q [true,true,false,false,false,false,true,true,true,true] (nths s 48 0) h:=by kernel_rfl
theorem ziw {Q:QQ} {v0 v1 v2 v7 v9:V} {h:Hp} (H:zbL (Pu EE) (zal.L EE Q) Q v0 v1 v2 v7 v9 h):zdI Q v0 v1 v2 v7 v9 h:=
 labR (path:=[true,true,false,false,false,false,true,true,true,true]) rfl rfl fun s e=>by cases e; exact cast (zia _ _ _ s h) H
noncomputable def c_deps_queue_Len:Code:=match Tryz.f29.body with | some c=>c | none=>.skip
noncomputable def zfg:Fl:=⟨Tryz.f29,c_deps_queue_Len,[]⟩
noncomputable def zdR (p:Pr) (l:LL) (Q:QQ) (v0:V) (h:Hp):Prop:=
 p.nilc v0 fun x1=>
 p.load h 61 x1 fun x2=>
 p.lbui h #[61] .len [x2] fun x3=>
 Q x3 h
theorem q_deps_queue_Len_0 (p:Pr) (l:LL) (Q:QQ) (v0:V) (h:Hp):zdR p l Q v0 h=zfg.K p EE l Q [] ([v0]++List.replicate 6 zj) h:=by kernel_rfl
theorem a_deps_queue_Len {Q:QQ} {v0:V} {h:Hp} (H:zdR (Pu EE) (zfg.L EE Q) Q v0 h):Ans EE 29 [v0] h Q:=
 ansL (F:=zfg) (by kernel_rfl) (by kernel_rfl) (by kernel_rfl) (by kernel_rfl) (cast (q_deps_queue_Len_0 _ _ _ v0 h) H)
noncomputable def c_deps_queue_Less:Code:=match Tryz.f321.body with | some c=>c | none=>.skip
noncomputable def zeG:Fl:=⟨Tryz.f321,c_deps_queue_Less,[]⟩
noncomputable def zc3 (p:Pr) (l:LL) (Q:QQ) (v0 v1 v2:V) (h:Hp):Prop:=
 p.nilc v0 fun x1=>
 p.load h 61 x1 fun x2=>
 p.iaddr 61 x2 v1 fun x3=>
 p.load h 42 x3 fun x4=>
 p.nilc v0 fun x5=>
 p.load h 61 x5 fun x6=>
 p.iaddr 61 x6 v2 fun x7=>
 p.load h 42 x7 fun x8=>
 p.call 91 [x4,x8] h fun x9 h10=>
 p.bin .lss 3 false true x9 (.int .i64 0) fun x11=>
 Q x11 h10
theorem zlo (p:Pr) (l:LL) (Q:QQ) (v0 v1 v2:V) (h:Hp):zc3 p l Q v0 v1 v2 h=zeG.K p EE l Q [] ([v0,v1,v2]++List.replicate 18 zj) h:=by kernel_rfl
theorem a_deps_queue_Less {Q:QQ} {v0 v1 v2:V} {h:Hp} (H:zc3 (Pu EE) (zeG.L EE Q) Q v0 v1 v2 h):Ans EE 321 [v0,v1,v2] h Q:=
 ansL (F:=zeG) (by kernel_rfl) (by kernel_rfl) (by kernel_rfl) (by kernel_rfl) (cast (zlo _ _ _ v0 v1 v2 h) H)
noncomputable def c_deps_queue_Swap:Code:=match Tryz.f324.body with | some c=>c | none=>.skip
noncomputable def zeC:Fl:=⟨Tryz.f324,c_deps_queue_Swap,[]⟩
noncomputable def zdd (p:Pr) (l:LL) (Q:QQ) (v0 v1 v2:V) (h:Hp):Prop:=
 p.nilc v0 fun x1=>
 p.load h 61 x1 fun x2=>
 p.nilc v0 fun x3=>
 p.load h 61 x3 fun x4=>
 p.nilc v0 fun x5=>
 p.load h 61 x5 fun x6=>
 p.iaddr 61 x6 v2 fun x7=>
 p.load h 42 x7 fun x8=>
 p.nilc v0 fun x9=>
 p.load h 61 x9 fun x10=>
 p.iaddr 61 x10 v1 fun x11=>
 p.load h 42 x11 fun x12=>
 p.iaddr 61 x2 v1 fun x13=>
 p.store h 42 x13 x8 fun h14=>
 p.iaddr 61 x4 v2 fun x15=>
 p.store h14 42 x15 x12 fun h16=>
 Q u0 h16
theorem zly (p:Pr) (l:LL) (Q:QQ) (v0 v1 v2:V) (h:Hp):zdd p l Q v0 v1 v2 h=zeC.K p EE l Q [] ([v0,v1,v2]++List.replicate 25 zj) h:=by kernel_rfl
theorem a_deps_queue_Swap {Q:QQ} {v0 v1 v2:V} {h:Hp} (H:zdd (Pu EE) (zeC.L EE Q) Q v0 v1 v2 h):Ans EE 324 [v0,v1,v2] h Q:=
 ansL (F:=zeC) (by kernel_rfl) (by kernel_rfl) (by kernel_rfl) (by kernel_rfl) (cast (zly _ _ _ v0 v1 v2 h) H)
noncomputable def c_deps_queue_Push:Code:=match Tryz.f323.body with | some c=>c | none=>.skip
noncomputable def zev:Fl:=⟨Tryz.f323,c_deps_queue_Push,[]⟩
noncomputable def zc5 (p:Pr) (l:LL) (Q:QQ) (v0 v1:V) (h:Hp):Prop:=
 p.assert v1 42 true fun x1=>
 p.extr x1 0 fun x2=>
 p.extr x1 1 fun x3=>
 p.alloc h 42 fun x4 h5 b6=>
 p.store h5 42 x4 x2 fun h7=>
 p.cond x3
 (fun _=>
  p.nilc v0 fun x8=>
  p.load h7 61 x8 fun x9=>
  p.load h7 42 x4 fun x10=>
  p.bsl h7 61 1 [(0,x10)] fun x11 h12 b13=>
  p.load h12 42 x4 fun x14=>
  p.same x14 x10 (
  p.load h12 61 x8 fun x15=>
  p.same x15 x9 (
  p.ebui h12 #[61,61] .append [x9,x11] fun x16 h17=>
  p.nilc v0 fun x18=>
  p.store h17 61 x18 x16 fun h19=>
  Q u0 h19)))
 (fun _=>
  Q u0 h7)
theorem zlj (p:Pr) (l:LL) (Q:QQ) (v0 v1:V) (h:Hp):zc5 p l Q v0 v1 h=zev.K p EE l Q [] ([v0,v1]++List.replicate 18 zj) h:=by kernel_rfl
theorem a_deps_queue_Push {Q:QQ} {v0 v1:V} {h:Hp} (H:zc5 (Pu EE) (zev.L EE Q) Q v0 v1 h):Ans EE 323 [v0,v1] h Q:=
 ansL (F:=zev) (by kernel_rfl) (by kernel_rfl) (by kernel_rfl) (by kernel_rfl) (cast (zlj _ _ _ v0 v1 h) H)
noncomputable def c_deps_queue_Pop:Code:=match Tryz.f322.body with | some c=>c | none=>.skip
noncomputable def zfi:Fl:=⟨Tryz.f322,c_deps_queue_Pop,[]⟩
noncomputable def zdQ (p:Pr) (l:LL) (Q:QQ) (v0:V) (h:Hp):Prop:=
 p.nilc v0 fun x1=>
 p.load h 61 x1 fun x2=>
 p.nilc v0 fun x3=>
 p.load h 61 x3 fun x4=>
 p.lbui h #[61] .len [x4] fun x5=>
 p.bin .sub 3 false true x5 (.int .i64 1) fun x6=>
 p.iaddr 61 x2 x6 fun x7=>
 p.load h 42 x7 fun x8=>
 p.alloc h 42 fun x9 h10 b11=>
 p.load h10 42 x7 fun x12=>
 p.same x12 x8 (
 p.lbui h10 #[61] .len [x4] fun x13=>
 p.same x13 x5 (
 p.load h10 61 x3 fun x14=>
 p.same x14 x4 (
 p.load h10 61 x1 fun x15=>
 p.same x15 x2 (
 p.store h10 42 x9 x8 fun h16=>
 p.nilc v0 fun x17=>
 p.load h16 61 x17 fun x18=>
 p.nilc v0 fun x19=>
 p.load h16 61 x19 fun x20=>
 p.lbui h16 #[61] .len [x20] fun x21=>
 p.bin .sub 3 false true x21 (.int .i64 1) fun x22=>
 p.slice 61 x18 none (some x22) none fun x23=>
 p.nilc v0 fun x24=>
 p.store h16 61 x24 x23 fun h25=>
 p.load h25 42 x9 fun x26=>
 p.iface 42 x26 fun x27=>
 Q x27 h25))))
theorem q_deps_queue_Pop_0 (p:Pr) (l:LL) (Q:QQ) (v0:V) (h:Hp):zdQ p l Q v0 h=zfi.K p EE l Q [] ([v0]++List.replicate 26 zj) h:=by kernel_rfl
theorem a_deps_queue_Pop {Q:QQ} {v0:V} {h:Hp} (H:zdQ (Pu EE) (zfi.L EE Q) Q v0 h):Ans EE 322 [v0] h Q:=
 ansL (F:=zfi) (by kernel_rfl) (by kernel_rfl) (by kernel_rfl) (by kernel_rfl) (cast (q_deps_queue_Pop_0 _ _ _ v0 h) H)
end
end Go.Proofs.YtbchdlelmkmagaaGreatDoor.VM
namespace Go.Proofs.YtbchdlelmkmagaaGreatDoor.VM
open Go
set_option linter.unusedVariables false
set_option linter.unusedSectionVars false
set_option linter.unusedSimpArgs false
set_option maxRecDepth 20000
noncomputable section
attribute [local instance] syZ
theorem zdc:IsSl EE 61 42:=isSl (by kernel_rfl)
theorem zce:El EE 61 1 [.nils] false:=zfe (by kernel_rfl) rfl
structure QAt (N:Nat) (h:Hp) (b qb:Nat) (l:List Spt):Prop where
 at_:∃ (v:V) (rest:List V) (lo:Nat),h.t.get b=some (.cells [v] 61 false)∧h.t.get qb=some (.cells (spCs l++rest) 42 false)∧rest.length=(lo - l.length) * 3∧l.length≤lo∧zh rest=true ∧
  (v=.slo qb 0 l.length lo 3∨v=.sl qb 0 0 0∧lo=0)
 ne:b ≠ qb
 nb:N≤b
 nq:N≤qb
 bn:b < h.n
 qn:qb < h.n
theorem QAt.keep {N:Nat} {h h':Hp} {b qb:Nat} {l:List Spt} (a:QAt N h b qb l) (hn:h.n≤h'.n) (hb:h'.t.get b=h.t.get b) (hq:h'.t.get qb=h.t.get qb):QAt N h' b qb l:=by
 obtain ⟨⟨v,rest,lo,h1,h2,h3⟩,e1,e2,e3,e4,e5⟩:=a
 exact ⟨⟨v,rest,lo,by rw [hb]; exact h1,by rw [hq]; exact h2,h3⟩,e1,e2,e3,by omega,by omega⟩
theorem QAt.ext {N:Nat} {h h':Hp} {b qb:Nat} {l:List Spt} (a:QAt N h b qb l) (x:Ext h.n h h'):QAt N h' b qb l:=a.keep x.n (x.old b a.bn) (x.old qb a.qn)
theorem QAt.sps {N:Nat} {h:Hp} {b qb:Nat} {l:List Spt} (a:QAt N h b qb l):∃ v,h.t.get b=some (.cells [v] 61 false)∧Sps h v l∧∀ i,i < l.length→∀ (k:IntKind) (q:V→Prop),(Pu EE).iaddr 61 v (.int k i) q↔q (.ptr qb (i * 3)):=by
 obtain ⟨⟨v,rest,lo,h1,h2,h3,h4,h5,h6⟩,_⟩:=a
 have hs:sub (spCs l++rest) 0 (l.length * 3)=some (spCs l):=by
  unfold sub
  have:((spCs l++rest).drop 0).take (l.length * 3)=spCs l:=by rw [List.drop_zero,← zj9 l,List.take_left]
  simp only [this,zj9,Nat.beq_refl,cond_true]
 have hr:zas h qb=some (spCs l++rest):=by unfold zas; rw [h2]
 obtain ⟨ti,t1,t2⟩:=zdc
 obtain ⟨⟨j,t3,t4,_,_,_⟩,_⟩:=zf
 refine ⟨v,h1,⟨by rw [zj9],.inr ⟨qb,0,spCs l++rest,hr,hs,?_⟩⟩,fun i hi k q=>?_⟩
 ·rcases h6 with rfl | ⟨rfl,h7⟩
  ·exact .inr ⟨lo,3,rfl⟩
  ·have:l.length=0:=by omega
   rw [this]
   exact .inl ⟨0,rfl⟩
 ·show (∃ u,zbi EE 61 v (.int k i)=some u∧q u)↔_
  rcases h6 with rfl | ⟨rfl,h7⟩
  ·have hbl:Nat.blt i l.length=true:=by rw [Nat.blt_eq]; exact hi
   simp only [zbi,zbV,t1,Option.bind_some,t2,t3,hbl,cond_true,t4,Nat.zero_add,zT]
  ·omega
structure QF (b qb qb':Nat) (h h':Hp):Prop where
 n:h.n≤h'.n
 keep:∀ c,c < h.n→c ≠ b→c ≠ qb→h'.t.get c=h.t.get c
 new:qb'=qb∨h.n≤qb'
theorem QF.trans {b q1 q2 q3:Nat} {h h1 h2:Hp} (x:QF b q1 q2 h h1) (y:QF b q2 q3 h1 h2):QF b q1 q3 h h2:=by
 have a1:=x.n
 have a2:=y.n
 refine ⟨by omega,fun c hc h1 h2=>?_,?_⟩
 ·rw [y.keep c (by omega) h1 ?_,x.keep c hc h1 h2]
  rcases x.new with e | e
  ·rw [e]; exact h2
  ·omega
 ·rcases y.new with e | e
  ·rcases x.new with e' | e'
   ·exact .inl (e.trans e')
   ·exact .inr (by omega)
  ·exact .inr (by omega)
theorem QF.refl (b qb:Nat) (h:Hp):QF b qb qb h h:=⟨Nat.le_refl _,fun _ _ _ _=>rfl,.inl rfl⟩
theorem QF.of_ext {b qb:Nat} {h h':Hp} (x:Ext h.n h h'):QF b qb qb h h':=⟨x.n,fun c hc _ _=>x.old c hc,.inl rfl⟩
theorem qlen_ok {N:Nat} {h:Hp} {b qb:Nat} {l:List Spt} (a:QAt N h b qb l):Ans EE 29 [.ptr b 0] h fun x h'=>x=.int .i64 l.length∧h'=h:=by
 obtain ⟨v,h1,h2,_⟩:=a.sps
 apply a_deps_queue_Len
 unfold zdR
 rw [zdZ,za zce h1 rfl,zp h2 zdc]
 exact ⟨rfl,rfl⟩
theorem qless_ok {N:Nat} {h:Hp} {b qb:Nat} {l:List Spt} (a:QAt N h b qb l) {i k:Nat} (hi:i < l.length) (hk:k < l.length):Ans EE 321 [.ptr b 0,.int .i64 i,.int .i64 k] h fun x h'=>x=.bool (zjd l i k)∧Ext h.n h h':=by
 obtain ⟨v,h1,h2,_⟩:=a.sps
 apply a_deps_queue_Less
 unfold zc3
 obtain ⟨b1,o1,g1,g2,_⟩:=zaT h2 zdc zf (getD_some hi)
 obtain ⟨b2,o2,g3,g4,_⟩:=zaT h2 zdc zf (getD_some hk)
 rw [zdZ,za zce h1 rfl,g1,g2,zdZ,za zce h1 rfl,g3,g4]
 refine (cmp_ok _ _ h).mono ?_
 rintro x h3 ⟨rfl,hx⟩
 rw [zak]
 refine ⟨?_,hx⟩
 congr 1
 unfold zjd
 rw [Bool.eq_iff_iff,decide_eq_true_iff]
 exact cmp_lt _ _
theorem spl_pre:∀ (a:List V) (i:Nat) (b r c:List V),spl a i b=some r→spl (a++c) i b=some (r++c)
 | l,i,[],r,c,h=>by
  have e:∀ (m:List V) (j:Nat),spl m j []=some m:=fun m j=>by cases m <;> cases j <;> rfl
  rw [e] at h ⊢
  cases h
  rfl
 | [],i,w::ws,r,c,h=>by cases i <;> cases h
 | x::l,0,w::ws,r,c,h=>by
  simp only [spl,Option.bind_eq_some_iff,Option.some.injEq] at h
  obtain ⟨r',h1,rfl⟩:=h
  have:=spl_pre l 0 ws r' c h1
  simp only [List.cons_append,spl,this,Option.bind_some]
 | x::l,i+1,w::ws,r,c,h=>by
  simp only [spl,Option.bind_eq_some_iff,Option.some.injEq] at h
  obtain ⟨r',h1,rfl⟩:=h
  have:=spl_pre l i (w::ws) r' c h1
  simp only [List.cons_append,spl,this,Option.bind_some]
theorem spl_here:∀ (b ws c:List V),b.length=ws.length→spl (b++c) 0 ws=some (ws++c)
 | [],[],c,_=>by cases c <;> rfl
 | x::b,w::ws,c,h=>by
  have:=spl_here b ws c (by simpa using h)
  simp only [List.cons_append,spl,this,Option.bind_some]
theorem spl_at:∀ (a b ws c:List V),b.length=ws.length→spl (a++(b++c)) a.length ws=some (a++(ws++c))
 | [],b,ws,c,h=>spl_here b ws c h
 | x::a,b,[],c,h=>by
  have:b=[]:=by simpa using h
  subst this
  rfl
 | x::a,b,w::ws,c,h=>by
  have:=spl_at a b (w::ws) c h
  simp only [List.cons_append,List.length_cons,spl,this,Option.bind_some]
theorem qat_set {N:Nat} {h:Hp} {b qb:Nat} {l:List Spt} (a:QAt N h b qb l) {i:Nat} (hi:i < l.length) (x:Spt) {q:Hp→Prop} (hq:∀ h',QAt N h' b qb (l.set i x)→h'.n=h.n→(∀ c,c ≠ qb→h'.t.get c=h.t.get c)→q h'):
  (Pu EE).store h 42 (.ptr qb (i * 3)) (spV x) q:=by
 obtain ⟨⟨v,rest,lo,h1,h2,h3,h4,h5,h6⟩,e1,e2,e3,e4,e5⟩:=a
 refine zC zf h2 rfl rfl (spl_pre _ _ _ _ rest (spl_spt l i x hi)) fun h' w=>hq h' ⟨⟨v,rest,lo,by rw [w.other b e1]; exact h1,w.at_,by rw [List.length_set]; exact h3,by rw [List.length_set]; exact h4,h5,by rw [List.length_set]; exact h6⟩,e1,e2,e3,by rw [w.n]; exact e4,by rw [w.n]; exact e5⟩ w.n w.other
theorem qswap_ok {N:Nat} {h:Hp} {b qb:Nat} {l:List Spt} (a:QAt N h b qb l) {i k:Nat} (hi:i < l.length) (hk:k < l.length):Ans EE 324 [.ptr b 0,.int .i64 i,.int .i64 k] h fun x h'=>QAt N h' b qb (zc7 l i k)∧QF b qb qb h h':=by
 obtain ⟨v,h1,h2,h3⟩:=a.sps
 apply a_deps_queue_Swap
 unfold zdd
 obtain ⟨b1,o1,g1,g2,_⟩:=zaT h2 zdc zf (getD_some hi)
 obtain ⟨b2,o2,g3,g4,_⟩:=zaT h2 zdc zf (getD_some hk)
 rw [zdZ,za zce h1 rfl,zdZ,za zce h1 rfl,zdZ,za zce h1 rfl,g3,g4,zdZ,za zce h1 rfl,g1,g2,h3 i hi]
 refine qat_set a hi _ fun h4 a4 n4 w4=>?_
 rw [h3 k hk]
 refine qat_set a4 (by rw [List.length_set]; exact hk) _ fun h5 a5 n5 w5=>?_
 exact ⟨a5,by omega,fun c _ _ hc=>by rw [w5 c hc,w4 c hc],.inl rfl⟩
end
end Go.Proofs.YtbchdlelmkmagaaGreatDoor.VM
namespace Go.Proofs.YtbchdlelmkmagaaGreatDoor.VM
open Go
set_option linter.unusedVariables false
set_option linter.unusedSectionVars false
set_option linter.unusedSimpArgs false
set_option maxRecDepth 20000
noncomputable section
attribute [local instance] syZ
def QS (h:Hp) (v:V) (qb:Nat) (l:List Spt):Prop:=∃ (rest:List V) (lo:Nat),h.t.get qb=some (.cells (spCs l++rest) 42 false)∧rest.length=(lo - l.length) * 3∧l.length≤lo∧zh rest=true ∧
  (v=.slo qb 0 l.length lo 3∨v=.sl qb 0 0 0∧lo=0)
theorem QAt.qs {N:Nat} {h:Hp} {b qb:Nat} {l:List Spt} (a:QAt N h b qb l):∃ v,h.t.get b=some (.cells [v] 61 false)∧QS h v qb l:=by
 obtain ⟨⟨v,rest,lo,h1,h2⟩,_⟩:=a
 exact ⟨v,h1,rest,lo,h2⟩
theorem QS.keep {h h':Hp} {v:V} {qb:Nat} {l:List Spt} (a:QS h v qb l) (hq:h'.t.get qb=h.t.get qb):QS h' v qb l:=by
 obtain ⟨rest,lo,h1,h2⟩:=a
 exact ⟨rest,lo,by rw [hq]; exact h1,h2⟩
theorem same_spt (a:Spt) (k:Prop):(Pu EE).same (spV a) (spV a) k↔k:=by
 show (zd9 _ _=true∧k)↔k
 have:zd9 (spV a) (spV a)=true:=by
  show zkl (spC a) (spC a)=true
  simp [spC,zkl,zkf,zbc,zet,zci]
 simp [this]
theorem noIntQ:∃ iu,EE.ty.get 61=some iu∧∀ k,iu.k ≠ .int k:=by
 obtain ⟨i,h1,h2⟩:=zdc; exact ⟨i,h1,fun k=>by rw [h2]; simp⟩
theorem q_append {h:Hp} {v y:V} {qb:Nat} {l:List Spt} (a:QS h v qb l) (x:Spt) (hy:zgQ h 3 y=some (spC x,1)) (hst:zk7 y=false) (hlen:l.length+1≤1048576) (hq:qb < h.n):
  ∃ v' h' qb',(∀ q,(Pu EE).ebui h #[61,61] .append [v,y] q↔q v' h')∧QS h' v' qb' (l++[x])∧h.n≤h'.n∧(∀ c,c < h.n→c ≠ qb→h'.t.get c=h.t.get c)∧(qb'=qb∨h.n≤qb')∧qb' < h'.n:=by
 obtain ⟨ti,h1,h2⟩:=zdc
 obtain ⟨iu,h3,h4⟩:=noIntQ
 obtain ⟨⟨j,h5,h6,h7,h8,_⟩,h9⟩:=zf
 have hss:(!zk7 y || Nat.beq j.size 1)=true:=by rw [hst]; rfl
 have hred:ziZ EE h #[61,61] v y=appTo h 42 j v (spC x) 1:=by
  rw [← h6] at hy
  have ht0:(#[61,61]:Array TypeId)[0]? = some 61:=rfl
  have ht1:(#[61,61]:Array TypeId)[1]? = some 61:=rfl
  have hi:iu=ti:=by rw [h1] at h3; cases h3; rfl
  subst hi
  simp only [ziZ,ht0,ht1,Option.bind_some,h1,h2]
  simp only [h5,Option.bind_some,hss,cond_true,elemsW_of hy]
 have fin:∀ {v':V} {h':Hp},appTo h 42 j v (spC x) 1=some (v',h')→∀ q:V→Hp→Prop,(Pu EE).ebui h #[61,61] .append [v,y] q↔q v' h':=by
  intro v' h' ha q
  show (∃ r,ebuiV EE h #[61,61] .append [v,y]=some r∧q r.1 r.2)↔_
  have:ebuiV EE h #[61,61] .append [v,y]=some (v',h'):=hred.trans ha
  rw [this]
  simp
 have hok:=appOK_of (need:=l.length+1) h7 h6 h8 h9 hlen
 obtain ⟨rest,lo,r1,r2,r3,r4,r5⟩:=a
 have hcs:spCs (l++[x])=spCs l++spC x:=by rw [spCs_app]; simp [spCs]
 have hll:(l++[x]).length=l.length+1:=by simp
 rcases r5 with rfl | ⟨rfl,r6⟩
 ·by_cases hlo:l.length+1≤lo
  ·have hw:zcP h qb (0+l.length * 3) (spC x)=some (h.set qb (.cells (spCs l++(spC x++rest.drop 3)) 42 false)):=by
    unfold zcP
    rw [r1]
    have hs:=spl_at (spCs l) (rest.take 3) (spC x) (rest.drop 3) (by rw [List.length_take]; simp [spC]; omega)
    rw [List.take_append_drop,zj9] at hs
    rw [Nat.zero_add]
    have hc:zh (spC x)=true:=rfl
    simp only [hc,cond_true,hs,Option.bind_some]
   have hle:Nat.ble (l.length+1) lo=true:=by rw [Nat.ble_eq]; exact hlo
   refine ⟨.slo qb 0 (l.length+1) lo 3,h.set qb (.cells (spCs l++(spC x++rest.drop 3)) 42 false),qb,fin ?_,⟨rest.drop 3,lo,?_,?_,?_,?_,?_⟩,Nat.le_refl _,fun c _ hc=>?_,.inl rfl,hq⟩
   ·simp only [appTo,h6,Nat.beq_refl,hle,cond_true,hw,Option.bind_some]
   ·rw [Hp.get_set,if_pos rfl,hcs,List.append_assoc]
   ·rw [List.length_drop,hll]; omega
   ·rw [hll]; exact hlo
   ·exact zU.2 fun u hu=>zU.1 r4 u (List.mem_of_mem_drop hu)
   ·rw [hll]; exact .inl rfl
   ·rw [Hp.get_set,if_neg hc]
  ·have hr:rest=[]:=List.length_eq_zero_iff.1 (by omega)
   subst hr
   rw [List.append_nil] at r1
   have hle:Nat.ble (l.length+1) lo=false:=by rw [Bool.eq_false_iff]; simp [Nat.ble_eq]; omega
   have hc:zh (spC x)=true:=rfl
   have hgr:grow h 42 qb j.size l.length 1 (spC x)=some (.slo h.n 0 (l.length+1) (l.length+1) j.size,(h.new (.cells (spCs l++spC x) 42 false)).set qb .dead):=by
    unfold grow
    rw [r1]
    simp only [zj9,h6,Nat.beq_refl,hc,Bool.and_self,cond_true]
   rw [h6] at hgr
   refine ⟨.slo h.n 0 (l.length+1) (l.length+1) 3,(h.new (.cells (spCs l++spC x) 42 false)).set qb .dead,h.n,fin ?_,⟨[],l.length+1,?_,?_,?_,?_,?_⟩,Nat.le_succ _,fun c hc hne=>?_,.inr (Nat.le_refl _),Nat.lt_succ_self _⟩
   ·simp only [appTo,h6,Nat.beq_refl,hle,cond_true,cond_false,hok,Bool.and_self,hgr]
   ·rw [Hp.get_set,if_neg (by omega),Hp.get_new,if_pos rfl,hcs,List.append_nil]
   ·rw [hll]; simp
   ·rw [hll]; exact Nat.le_refl _
   ·rfl
   ·rw [hll]; exact .inl rfl
   ·rw [Hp.get_set,if_neg hne,Hp.get_new,if_neg (by omega)]
 ·have hl0:l=[]:=List.length_eq_zero_iff.1 (by omega)
  subst hl0
  subst r6
  have hr:rest=[]:=List.length_eq_zero_iff.1 (by simpa using r2)
  subst hr
  have hrd:zas h qb=some []:=by unfold zas; rw [r1]; rfl
  refine ⟨.slo h.n 0 1 1 3,h.new (.cells (spC x) 42 false),h.n,fin ?_,⟨[],1,?_,?_,?_,?_,?_⟩,Nat.le_succ _,fun c hc hne=>?_,.inr (Nat.le_refl _),Nat.lt_succ_self _⟩
  ·have hok1:ziI j (0+1)=true:=hok
   have hle:Nat.ble (0+1) 0=false:=rfl
   have hsb:sub ([]:List V) 0 (0 * 3)=some []:=rfl
   simp only [appTo,hle,cond_false,hok1,cond_true,hrd,Option.bind_some,h6,hsb,List.nil_append]
  ·rw [Hp.get_new,if_pos rfl]; simp [spCs]
  ·rfl
  ·exact Nat.le_refl _
  ·rfl
  ·exact .inl rfl
  ·rw [Hp.get_new,if_neg (by omega)]
theorem pu_assertS (x:Spt) (q:V→Prop):(Pu EE).assert (.iface 42 (spV x)) 42 true q↔q (.tup [spV x,.bool true]):=by
 show (∃ v,zeA EE (.iface 42 (spV x)) 42 true=some v∧q v)↔_
 have:zeA EE (.iface 42 (spV x)) 42 true=some (.tup [spV x,.bool true]):=by kernel_rfl
 rw [this,zT]
theorem pu_ifaceS (x:Spt) (q:V→Prop):(Pu EE).iface 42 (spV x) q↔q (.iface 42 (spV x)):=by
 show (∃ v,((EE.ty.get 42).bind fun i=>ifaceV 42 (spV x) i)=some v∧q v)↔_
 have:((EE.ty.get 42).bind fun i=>ifaceV 42 (spV x) i)=some (.iface 42 (spV x)):=by kernel_rfl
 rw [this,zT]
theorem qpush_ok {N:Nat} {h:Hp} {b qb:Nat} {l:List Spt} (a:QAt N h b qb l) (x:Spt) (hlen:l.length+1≤1048576) (hN:N≤h.n):Ans EE 323 [.ptr b 0,.iface 42 (spV x)] h fun _ h'=>∃ qb',QAt N h' b qb' (l++[x])∧QF b qb qb' h h':=by
 have e1:=a.ne
 have e2:=a.nb
 have e3:=a.nq
 have e4:=a.bn
 have e5:=a.qn
 obtain ⟨v,g1,g2⟩:=a.qs
 apply a_deps_queue_Push
 unfold zc5
 rw [pu_assertS,zao,zam]
 refine zq zf fun h1 t w1=>?_
 refine zC zf w1.at_ (x:=spV x) rfl rfl (r:=spC x) rfl fun h2 w2=>?_
 have n1:=w1.n
 have n2:=w2.n
 have t1:=w1.b
 have hb2:h2.t.get b=some (.cells [v] 61 false):=by rw [w2.other b (by omega),w1.old b e4]; exact g1
 have hq2:h2.t.get qb=h.t.get qb:=by rw [w2.other qb (by omega),w1.old qb e5]
 rw [zc,zdZ,za zce hb2 rfl,zd zf w2.at_ (l:=spC x) rfl]
 show (Pu EE).bsl _ _ 1 [(0,spV x)] _
 rw [zcL zdc zf _ rfl (by omega)]
 obtain ⟨h3,hh3⟩:∃ h3,h3=h2.new (.cells (spV x).cells 42 false):=⟨_,rfl⟩
 have w3:New h2 h3 h2.n (.cells (spC x) 42 false):=by rw [hh3]; exact New.mk' _ _
 have hel:=zfx (zfu (h:=h2) (e:=42) (ws:=spC x) (sz:=3) rfl).rd
 rw [show h2.new (.cells (spC x) 42 false)=h3 from hh3.symm] at hel
 rw [← hh3]
 have n3:=w3.n
 have hb3:h3.t.get b=some (.cells [v] 61 false):=by rw [w3.old b (by omega)]; exact hb2
 have ht3:h3.t.get t=some (.cells (spC x) 42 false):=by rw [w3.old t (by omega)]; exact w2.at_
 have hq3:h3.t.get qb=h.t.get qb:=by rw [w3.old qb (by omega)]; exact hq2
 rw [zd zf ht3 (l:=spC x) rfl]
 show (Pu EE).same (spV x) (spV x) _
 rw [same_spt,za zce hb3 rfl]
 obtain ⟨s0,s1,s2,_⟩:=a.sps
 rw [g1] at s1
 have hs0:s0=v:=by cases s1; rfl
 subst hs0
 rw [zbt s2]
 obtain ⟨v',h4,qb',k1,k2,k3,k4,k5,k6⟩:=q_append (g2.keep hq3) x hel.1 hel.2 hlen (by omega)
 rw [k1,zdZ]
 have hb4:h4.t.get b=some (.cells [s0] 61 false):=by rw [k4 b (by omega) e1]; exact hb3
 have hc:v'.cells=[v']:=by
  obtain ⟨_,_,_,_,_,_,rfl | ⟨rfl,_⟩⟩:=k2 <;> rfl
 refine zC zce hb4 (x:=v') (by rw [hc]; rfl) (by rw [hc]; obtain ⟨_,_,_,_,_,_,rfl | ⟨rfl,_⟩⟩:=k2 <;> rfl) (r:=[v']) (by rw [hc]; rfl) fun h5 w5=>?_
 have n5:=w5.n
 have hne:qb' ≠ b:=by rcases k5 with e | e <;> omega
 obtain ⟨rest,lo,r1,r2⟩:=k2
 refine ⟨qb',⟨⟨v',rest,lo,w5.at_,by rw [w5.other qb' hne]; exact r1,r2⟩,fun e=>hne e.symm,e2,by rcases k5 with e | e <;> omega,by omega,by omega⟩,by omega,fun c hc h1 h2=>?_,by rcases k5 with e | e <;> omega⟩
 rw [w5.other c h1,k4 c (by omega) h2,w3.old c (by omega),w2.other c (by omega),w1.old c hc]
end
end Go.Proofs.YtbchdlelmkmagaaGreatDoor.VM
namespace Go.Proofs.YtbchdlelmkmagaaGreatDoor.VM
open Go
set_option linter.unusedVariables false
set_option linter.unusedSectionVars false
set_option linter.unusedSimpArgs false
set_option maxRecDepth 20000
noncomputable section
attribute [local instance] syZ
theorem pu_qslice {h:Hp} {v:V} {qb:Nat} {l:List Spt} {lo n:Nat} (hv:v=.slo qb 0 l.length lo 3) (hn:n≤lo) (q:V→Prop):(Pu EE).slice 61 v none (some (.int .i64 n)) none q↔q (.slo qb 0 n lo 3):=by
 subst hv
 obtain ⟨ti,h1,h2⟩:=zdc
 obtain ⟨⟨j,h5,h6,h7,h8,_⟩,h9⟩:=zf
 show (∃ u,zgF EE 61 (.slo qb 0 l.length lo 3) none (some (.int .i64 n)) none=some u∧q u)↔_
 have:zgF EE 61 (.slo qb 0 l.length lo 3) none (some (.int .i64 n)) none=some (.slo qb 0 n lo 3):=by
  simp only [zgF,h1,Option.bind_some,h2,h5,h6,Nat.beq_refl,cond_true,bounds_to n l.length lo .i64 hn,sloOf,Bool.true_or,Nat.zero_mul,Nat.add_zero,Nat.sub_zero]
 rw [this,zT]
theorem spCs_last (l:List Spt) (h:0 < l.length):spCs l=spCs (l.take (l.length - 1))++spC (l.getD (l.length - 1) sp0):=by
 have:l=l.take (l.length - 1)++[l.getD (l.length - 1) sp0]:=by
  have h1:l.length - 1 < l.length:=by omega
  have h2:=List.take_succ_eq_append_getElem h1
  rw [show l.length - 1+1=l.length by omega,List.take_length] at h2
  rw [List.getD_eq_getElem?_getD,List.getElem?_eq_getElem h1]
  exact h2
 conv=>lhs; rw [this]
 rw [spCs_app]
 simp [spCs]
theorem qpop_ok {N:Nat} {h:Hp} {b qb:Nat} {l:List Spt} (a:QAt N h b qb l) (hl:0 < l.length) (hlen:l.length≤1000000) (hN:N≤h.n):Ans EE 322 [.ptr b 0] h fun y h'=>y=.iface 42 (spV (l.getD (l.length - 1) sp0))∧QAt N h' b qb (l.take (l.length - 1))∧QF b qb qb h h':=by
 have e1:=a.ne
 have e2:=a.nb
 have e3:=a.nq
 have e4:=a.bn
 have e5:=a.qn
 obtain ⟨v,g1,g2,g3⟩:=a.sps
 apply a_deps_queue_Pop
 unfold zdQ
 have hlast:=getD_some (L:=l) (i:=l.length - 1) (by omega)
 obtain ⟨b1,o1,m1,m2,m3,_⟩:=zaT g2 zdc zf hlast
 have hz:IntKind.i64.wrap ((l.length:Int) - 1)=((l.length - 1:Nat):Int):=by
  rw [show (l.length:Int) - 1=((l.length - 1:Nat):Int) by omega]
  exact w64 _ (by omega)
 rw [zdZ,za zce g1 rfl,zdZ,za zce g1 rfl,zp g2 zdc,zdf,hz,m1,m2]
 refine zq zf fun h1 t w1=>?_
 have n1:=w1.n
 have t1:=w1.b
 have a1:QAt N h1 b qb l:=a.keep (by omega) (w1.old b e4) (w1.old qb e5)
 obtain ⟨v1,f1,f2,f3⟩:=a1.sps
 have hv1:v1=v:=by
  rw [w1.old b e4,g1] at f1
  cases f1; rfl
 subst hv1
 obtain ⟨b2,o2,m4,m5,m6,_⟩:=zaT f2 zdc zf hlast
 have hbb:V.ptr b2 o2=V.ptr b1 o1:=by
  have q1:=(m1 .i64 (fun u=>u=V.ptr b2 o2)).1 ((m4 .i64 (fun u=>u=V.ptr b2 o2)).2 rfl)
  exact q1.symm
 cases hbb
 rw [m5,same_spt,zp f2 zdc,zab,za zce f1 rfl,zbt f2,za zce f1 rfl,zbt f2]
 refine zC zf w1.at_ (x:=spV (l.getD (l.length - 1) sp0)) rfl rfl (r:=spC (l.getD (l.length - 1) sp0)) rfl fun h2 w2=>?_
 have n2:=w2.n
 have hb2:h2.t.get b=some (.cells [v1] 61 false):=by rw [w2.other b (by omega)]; exact f1
 rw [zdZ,za zce hb2 rfl,zdZ,za zce hb2 rfl,zp f2 zdc,zdf,hz]
 obtain ⟨⟨u,rest,lo,r1,r2,r3,r4,r5,r6⟩,_⟩:=a
 have hu:u=v1:=by rw [g1] at r1; cases r1; rfl
 subst hu
 have hu2:u=.slo qb 0 l.length lo 3:=by
  rcases r6 with e | ⟨_,e⟩
  ·exact e
  ·omega
 rw [pu_qslice (l:=l) (lo:=lo) (h:=h2) hu2 (by omega),zdZ]
 refine zC zce hb2 (x:=.slo qb 0 (l.length - 1) lo 3) rfl rfl (r:=[.slo qb 0 (l.length - 1) lo 3]) rfl fun h3 w3=>?_
 have n3:=w3.n
 have ht3:h3.t.get t=some (.cells (spC (l.getD (l.length - 1) sp0)) 42 false):=by rw [w3.other t (by omega)]; exact w2.at_
 rw [zd zf ht3 (l:=spC (l.getD (l.length - 1) sp0)) rfl]
 show (Pu EE).iface _ (spV _) _
 rw [pu_ifaceS]
 have htl:(l.take (l.length - 1)).length=l.length - 1:=by rw [List.length_take]; omega
 refine ⟨rfl,⟨⟨_,spC (l.getD (l.length - 1) sp0)++rest,lo,w3.at_,?_,?_,?_,?_,?_⟩,e1,e2,e3,by omega,by omega⟩,by omega,fun c hc h1 h2=>?_,.inl rfl⟩
 ·rw [w3.other qb (fun e=>e1 e.symm),w2.other qb (by omega),w1.old qb e5,r2,spCs_last l hl,List.append_assoc]
 ·rw [htl,List.length_append,r3]; simp [spC]; omega
 ·rw [htl]; omega
 ·refine zU.2 fun u hu=>?_
  rcases List.mem_append.1 hu with hu | hu
  ·exact zU.1 (show zh (spC (l.getD (l.length - 1) sp0))=true from rfl) u hu
  ·exact zU.1 r5 u hu
 ·rw [htl]; exact .inl rfl
 ·rw [w3.other c h1,w2.other c (by omega),w1.old c hc]
end
end Go.Proofs.YtbchdlelmkmagaaGreatDoor.VM
namespace Go.Proofs.YtbchdlelmkmagaaGreatDoor.VM
open Go
set_option linter.unusedVariables false
set_option linter.unusedSectionVars false
set_option linter.unusedSimpArgs false
set_option maxRecDepth 20000
noncomputable section
attribute [local instance] syZ
def qV (b:Nat):V:=.iface 60 (.ptr b 0)
theorem inv_len {b : Nat} {h : Hp} {k : V → Hp → Prop} (H : Ans EE 29 [.ptr b 0] h k) : (Pu EE).invk (qV b) "Len" [] h k := ⟨(29, [.ptr b 0]), by kernel_rfl, H⟩
theorem inv_less {b : Nat} {h : Hp} {x y : V} {k : V → Hp → Prop} (H : Ans EE 321 [.ptr b 0, x, y] h k) : (Pu EE).invk (qV b) "Less" [x, y] h k := ⟨(321, [.ptr b 0, x, y]), by kernel_rfl, H⟩
theorem inv_swap {b : Nat} {h : Hp} {x y : V} {k : V → Hp → Prop} (H : Ans EE 324 [.ptr b 0, x, y] h k) : (Pu EE).invk (qV b) "Swap" [x, y] h k := ⟨(324, [.ptr b 0, x, y]), by kernel_rfl, H⟩
theorem inv_push {b : Nat} {h : Hp} {x : V} {k : V → Hp → Prop} (H : Ans EE 323 [.ptr b 0, x] h k) : (Pu EE).invk (qV b) "Push" [x] h k := ⟨(323, [.ptr b 0, x]), by kernel_rfl, H⟩
theorem inv_pop {b : Nat} {h : Hp} {k : V → Hp → Prop} (H : Ans EE 322 [.ptr b 0] h k) : (Pu EE).invk (qV b) "Pop" [] h k := ⟨(322, [.ptr b 0]), by kernel_rfl, H⟩
theorem upL_0 (L:List Spt):upL L 0=L:=by rw [upL]; simp
theorem upL_y {L:List Spt} {j:Nat} (h:0 < j) (hl:zjd L j ((j - 1) / 2)=true):upL L j=upL (zc7 L ((j - 1) / 2) j) ((j - 1) / 2):=by rw [upL,if_neg (by omega),if_pos hl]
theorem upL_n {L:List Spt} {j:Nat} (h:0 < j) (hl:zjd L j ((j - 1) / 2)=false):upL L j=L:=by rw [upL,if_neg (by omega),if_neg (by rw [hl]; decide)]
theorem half {j:Nat} (h:0 < j) (hj:j < 1000000):IntKind.i64.wrap ((IntKind.i64.wrap ((j:Int) - 1)).tdiv 2)=(((j - 1) / 2:Nat):Int):=by
 rw [show (j:Int) - 1=((j - 1:Nat):Int) by omega,w64 _ (by omega)]
 have:(((j - 1:Nat):Int)).tdiv 2=(((j - 1) / 2:Nat):Int):=by
  rw [Int.tdiv_eq_ediv_of_nonneg (by omega)]
  omega
 rw [this,w64 _ (by omega)]
theorem half0:IntKind.i64.wrap ((IntKind.i64.wrap (((0:Nat):Int) - 1)).tdiv 2)=((0:Nat):Int):=by decide
theorem up_ok (Q:V→Hp→Prop) (N b:Nat):∀ (f j:Nat),j≤f→∀ (L:List Spt) (h:Hp) (qb:Nat),QAt N h b qb L→j < L.length→L.length < 1000000 →
  (∀ h',QAt N h' b qb (upL L j)→QF b qb qb h h'→Q u0 h')→zfd Q (qV b) (.int .i64 j) h:=by
 intro f
 induction f with
 | zero=>
  intro j hj L h qb a hjl hL hq
  have e:j=0:=by omega
  subst e
  apply zfa
  unfold zbE
  rw [zdf,pu_quo _ _ _ _ _ _ (by decide),half0,eqlN,decide_eq_true rfl]
  simp only [zaH,pu_geff_tf,zB,zc]
  exact hq h (by rw [upL_0]; exact a) (QF.refl _ _ _)
 | succ f ih=>
  intro j hj L h qb a hjl hL hq
  by_cases e:j=0
  ·exact ih j (by omega) L h qb a hjl hL hq
  ·apply zfa
   unfold zbE
   rw [zdf,pu_quo _ _ _ _ _ _ (by decide),half (by omega) (by omega),eqlN,decide_eq_false (by omega:¬ (j - 1) / 2=j)]
   simp only [zu,ze9]
   refine inv_less ((qless_ok a hjl (by omega)).mono ?_)
   rintro x h1 ⟨rfl,hx⟩
   have n1:=hx.n
   have a1:=a.ext hx
   rw [zaE,zo]
   cases hl:zjd L j ((j - 1) / 2) with
   | false=>
    simp only [Bool.not_false,zc]
    exact hq h1 (by rw [upL_n (by omega) hl]; exact a1) (QF.of_ext hx)
   | true=>
    simp only [Bool.not_true,zb]
    refine inv_swap ((qswap_ok a1 (by omega) hjl).mono ?_)
    rintro y h2 ⟨a2,f2⟩
    refine ih _ (by omega) _ h2 qb a2 (by rw [zdY]; omega) (by rw [zdY]; exact hL) fun h' a' f'=>hq h' (by rw [upL_y (by omega) hl]; exact a') (((QF.of_ext hx).trans f2).trans f')
theorem hpush_ok {N b qb:Nat} {h:Hp} {l:List Spt} (a:QAt N h b qb l) (x:Spt) (hlen:l.length+1 < 1000000) (hN:N≤h.n):Ans EE 28 [qV b,.iface 42 (spV x)] h fun _ h'=>∃ qb',QAt N h' b qb' (ziW l x)∧QF b qb qb' h h':=by
 apply zjs
 unfold zbT
 refine inv_push ((qpush_ok a x (by omega) hN).mono ?_)
 rintro y h1 ⟨q1,a1,f1⟩
 refine inv_len ((qlen_ok a1).mono ?_)
 rintro y h2 ⟨rfl,rfl⟩
 have hll:(l++[x]).length=l.length+1:=by simp
 rw [zdf,hll,show ((l.length+1:Nat):Int) - 1=(l.length:Int) by omega,w64 _ (by omega)]
 refine Ans.mono (Q:=fun _ h'=>QAt N h' b q1 (ziW l x)∧QF b q1 q1 h2 h') ?_ (fun y h3 q=>⟨q1,q.1,f1.trans q.2⟩)
 apply zle
 unfold zcn
 exact up_ok _ N b l.length l.length (Nat.le_refl _) (l++[x]) h2 q1 a1 (by rw [hll]; omega) (by rw [hll]; omega) fun h' a' f'=>⟨a',f'⟩
theorem downL_e {L:List Spt} {i n:Nat} (h:n≤2 * i+1):zej L i n=L:=by rw [zej,if_pos h]
theorem downL_y {L:List Spt} {i n:Nat} (h:¬ n≤2 * i+1) (hl:zjd L (zed L i n) i=true):zej L i n=zej (zc7 L i (zed L i n)) (zed L i n) n:=by rw [zej,if_neg h,if_pos hl]
theorem downL_n {L:List Spt} {i n:Nat} (h:¬ n≤2 * i+1) (hl:zjd L (zed L i n) i=false):zej L i n=L:=by rw [zej,if_neg h,if_neg (by rw [hl]; decide)]
theorem down_ok (Q:V→Hp→Prop) (N b n i0:Nat) (hn:n < 1000000):∀ (f i:Nat),n - i≤f→∀ (L:List Spt) (h:Hp) (qb:Nat),QAt N h b qb L→i < n∨n≤2 * i+1→n≤L.length→i < 1000000 →
  (∀ x h',QAt N h' b qb (zej L i n)→QF b qb qb h h'→Q x h')→zd8 Q (qV b) (.int .i64 i0) (.int .i64 n) (.int .i64 i) h:=by
 intro f
 induction f with
 | zero=>
  intro i hi L h qb a hin hL him hq
  apply zdW
  unfold zbm
  rw [pu_mul,show (2:Int) * (i:Int)=((2 * i:Nat):Int) by omega,w64 _ (by omega),zK _ _ _ _ (by omega),geqN,decide_eq_true (by omega:n≤2 * i+1)]
  simp only [zaH,zB,zc]
  rw [zgc]
  exact hq _ h (by rw [downL_e (by omega)]; exact a) (QF.refl _ _ _)
 | succ f ih=>
  intro i hi L h qb a hin hL him hq
  apply zdW
  unfold zbm
  rw [pu_mul,show (2:Int) * (i:Int)=((2 * i:Nat):Int) by omega,w64 _ (by omega),zK _ _ _ _ (by omega),geqN]
  by_cases hend:n≤2 * i+1
  ·rw [decide_eq_true hend]
   simp only [zaH,zB,zc]
   rw [zgc]
   exact hq _ h (by rw [downL_e hend]; exact a) (QF.refl _ _ _)
  ·rw [decide_eq_false hend]
   simp only [zu]
   rw [zak,decide_eq_false (by omega:¬ ((2 * i+1:Nat):Int) < 0)]
   simp only [zo,zb]
   rw [zK _ _ _ _ (by omega),zr]
   obtain ⟨hj1,_,hj3,_⟩:=downJ_spec (L:=L) hend
   have step:∀ (h1:Hp),QAt N h1 b qb L→QF b qb qb h h1→zdI Q (qV b) (.int .i64 i0) (.int .i64 n) (.int .i64 i) (.int .i64 (zed L i n)) h1:=by
    intro h1 a1 f1
    apply ziw
    unfold zbL
    refine inv_less ((qless_ok a1 (by omega) (by omega)).mono ?_)
    rintro x h2 ⟨rfl,hx⟩
    have a2:=a1.ext hx
    have f2:=f1.trans (QF.of_ext hx)
    rw [zaE]
    cases hl:zjd L (zed L i n) i with
    | false=>
     simp only [Bool.not_false,zc]
     rw [zgc]
     exact hq _ h2 (by rw [downL_n hend hl]; exact a2) f2
    | true=>
     simp only [Bool.not_true,zb]
     refine inv_swap ((qswap_ok a2 (by omega) (by omega)).mono ?_)
     rintro y h3 ⟨a3,f3⟩
     exact ih _ (by omega) _ h3 qb a3 (.inl hj1) (by rw [zdY]; exact hL) (by omega) fun x h' a' f'=>hq x h' (by rw [downL_y hend hl]; exact a') ((f2.trans f3).trans f')
   by_cases hr:2 * i+1+1 < n
   ·rw [decide_eq_true hr]
    simp only [zu,ze9]
    refine inv_less ((qless_ok a (by omega) (by omega)).mono ?_)
    rintro x h1 ⟨rfl,hx⟩
    have a1:=a.ext hx
    rw [zB]
    cases hl:zjd L (2 * i+1+1) (2 * i+1) with
    | true=>
     rw [zc]
     have:zed L i n=2 * i+1+1:=by unfold zed; rw [if_pos ⟨hr,hl⟩]
     rw [← this]
     exact step h1 a1 (QF.of_ext hx)
    | false=>
     rw [zb]
     have:zed L i n=2 * i+1:=by unfold zed; rw [if_neg (by rw [hl]; simp)]
     rw [← this]
     exact step h1 a1 (QF.of_ext hx)
   ·rw [decide_eq_false hr]
    simp only [zS,pu_geff_ft,zo,zb]
    have:zed L i n=2 * i+1:=by unfold zed; rw [if_neg (by omega)]
    rw [← this]
    exact step h a (QF.refl _ _ _)
theorem hpop_ok {N b qb:Nat} {h:Hp} {l:List Spt} (a:QAt N h b qb l) {x:Spt} (hx:l[0]? = some x) (hlen:l.length < 1000000) (hN:N≤h.n):Ans EE 30 [qV b] h fun y h'=>y=.iface 42 (spV x)∧QAt N h' b qb (zfV l)∧QF b qb qb h h':=by
 have hl0:0 < l.length:=(List.getElem?_eq_some_iff.1 hx).1
 apply zkk
 unfold zb1
 refine inv_len ((qlen_ok a).mono ?_)
 rintro y h1 ⟨rfl,rfl⟩
 rw [zdf,show (l.length:Int) - 1=((l.length - 1:Nat):Int) by omega,w64 _ (by omega)]
 rw [show (0:Int)=((0:Nat):Int) from rfl]
 refine inv_swap ((qswap_ok a hl0 (by omega)).mono ?_)
 rintro y h2 ⟨a2,f2⟩
 have hsl:(zc7 l 0 (l.length - 1)).length=l.length:=zdY _ _ _
 refine Ans.mono (Q:=fun _ h'=>QAt N h' b qb (zej (zc7 l 0 (l.length - 1)) 0 (l.length - 1))∧QF b qb qb h2 h') ?_ ?_
 ·apply zjh
  unfold zbR
  exact down_ok _ N b (l.length - 1) 0 (by omega) (l.length - 1) 0 (by omega) _ h2 qb a2 (by omega) (by rw [hsl]; omega) (by omega) fun x h' a' f'=>⟨a',f'⟩
 ·rintro y h3 ⟨a3,f3⟩
  have hdl:(zej (zc7 l 0 (l.length - 1)) 0 (l.length - 1)).length=l.length:=by rw [downL_len (l.length - 1) (l.length - 1) _ 0 (by omega),hsl]
  have n2:=f2.n
  have n3:=f3.n
  refine inv_pop ((qpop_ok a3 (by rw [hdl]; exact hl0) (by rw [hdl]; omega) (by omega)).mono ?_)
  rintro y h4 ⟨rfl,a4,f4⟩
  rw [hdl] at a4
  refine ⟨?_,a4,(f2.trans f3).trans f4⟩
  rw [hdl]
  have h1:=downL_get (l.length - 1) (zc7 l 0 (l.length - 1)) 0 (Nat.zero_le _)
  rw [swap_last rfl hl0 hx] at h1
  rw [List.getD_eq_getElem?_getD,h1]
  rfl
end
end Go.Proofs.YtbchdlelmkmagaaGreatDoor.VM
namespace Go.Proofs.YtbchdlelmkmagaaGreatDoor.VM
open Go
set_option linter.unusedVariables false
set_option linter.unusedSectionVars false
set_option linter.unusedSimpArgs false
set_option maxRecDepth 20000
noncomputable section
attribute [local instance] syZ
section
variable {E:Env} {K:Type} [DecidableEq K] {key:K→V}
theorem findE_snoc {k:K} {z:V} {c:Nat}:∀ {es:Es K} (n:Nat),k ∉ es.map (·.1)→zf6 k (es++[(k,z,c)]) n=some (n+es.length,z,c)
 | [],n,_=>by simp [zf6]
 | (a,u,d)::r,n,h=>by
  simp only [List.map_cons,List.mem_cons,not_or] at h
  rw [List.cons_append,zf6,if_neg h.1,findE_snoc (n+1) h.2,List.length_cons]
  congr 2
  omega
theorem MapIs.snoc {h h1:Hp} {b:Nat} {f:K→Option V} {es:Es K} {c:Nat} (m:MapIs key h b f es c) {k:K} (hf:f k=none) (v:V) (hb:h1.t.get b=some (.map (esV key (es++[(k,v,c)])) (c+1))):MapIs key h1 b (updF f k v) (es++[(k,v,c)]) (c+1):=by
 obtain ⟨h5,h6⟩:=m.find_none hf
 refine ⟨hb,?_,?_,?_,fun y=>?_⟩
 ·rw [List.map_append]
  refine List.nodup_append.2 ⟨m.keys,by simp,fun a ha d hd e=>?_⟩
  simp at hd; subst hd; subst e; exact h6 ha
 ·rw [List.map_append]
  refine List.nodup_append.2 ⟨m.borns,by simp,fun a ha d hd e=>?_⟩
  simp at hd; subst hd; subst e
  obtain ⟨x,hx,e2⟩:=List.mem_map.1 ha
  have:=m.lt x hx; omega
 ·intro x hx
  rcases List.mem_append.1 hx with hx | hx
  ·have:=m.lt x hx; omega
  ·simp at hx; subst hx; simp
 ·rw [lookE_snoc y h6,m.look]; rfl
theorem pu_mapeX {h:Hp} {b t q e:Nat} (ht:IsMap E t q e) (hq:KeyOf E q key) {f:K→Option V} (m:zbP key h b f) (k:K) {z:V} (hz:vzero E e=some z):
  ∃ (n:Nat) (v:V) (h1:Hp),v=(f k).getD z∧h1.n=h.n∧(∀ c,c ≠ b→h1.t.get c=h.t.get c) ∧
   (∀ qq:V→Hp→Prop,(Pu E).mape h t (.mp b) (key k) qq↔qq (.tup [v,.int .i64 n]) h1) ∧
   ∀ (h2:Hp),h2.t.get b=h1.t.get b→∀ (x:V) (kd:IntKind) (qq:Hp→Prop),(∀ h3 bl,Wr h2 h3 b bl→zbP key h3 b (updF f k x)→qq h3)→(Pu E).ests h2 (.mp b) (.int kd n) x qq:=by
 obtain ⟨i,h1,h2⟩:=ht
 obtain ⟨j,h3,h4⟩:=hq
 obtain ⟨es,c,m⟩:=m
 cases hf:f k with
 | some v=>
  obtain ⟨p,n,h5⟩:=m.find_some hf
  refine ⟨n,v,h,rfl,rfl,fun _ _=>rfl,fun qq=>?_,fun g hg x kd qq hqq=>?_⟩
  ·have:zbG E h t (.mp b) (key k)=some (.tup [v,.int .i64 n],h):=by
    simp only [zbG,h1,Option.bind_some,h2,h3,zfy h4,cond_true,zhs,m.at_,zeW (q:=q) h4,h5]
    rfl
   show (∃ r,zbG E h t (.mp b) (key k)=some r∧qq r.1 r.2)↔_
   rw [this,zT]
  ·have hs:=zh6 (key:=key) x m.keys m.borns h5
   have m2:MapIs key g b f es c:=⟨hg.trans m.at_,m.keys,m.borns,m.lt,m.look⟩
   refine ⟨g.set b (.map (esV key (updE es k x)) c),?_,hqq _ _ ⟨by rw [Hp.get_set,if_pos rfl],rfl,fun d hd=>by rw [Hp.get_set,if_neg hd]⟩ (m2.upd hf x (by rw [Hp.get_set,if_pos rfl]))⟩
   simp only [zc9,zbV,Option.bind_some,zhs,m2.at_,hs]
 | none=>
  obtain ⟨h5,h6⟩:=m.find_none hf
  have e1:esV key es++[(key k,z,c)]=esV key (es++[(k,z,c)]):=by simp [esV]
  refine ⟨c,z,h.set b (.map (esV key (es++[(k,z,c)])) (c+1)),rfl,rfl,fun d hd=>by rw [Hp.get_set,if_neg hd],fun qq=>?_,fun g hg x kd qq hqq=>?_⟩
  ·have:zbG E h t (.mp b) (key k)=some (.tup [z,.int .i64 c],h.set b (.map (esV key (es++[(k,z,c)])) (c+1))):=by
    simp only [zbG,h1,Option.bind_some,h2,h3,zfy h4,cond_true,zhs,m.at_,zeW (q:=q) h4,h5,hz,e1]
    rfl
   show (∃ r,zbG E h t (.mp b) (key k)=some r∧qq r.1 r.2)↔_
   rw [this,zT]
  ·have m2:MapIs key g b (updF f k z) (es++[(k,z,c)]) (c+1):=m.snoc hf z (by rw [hg,Hp.get_set,if_pos rfl])
   have hs:=zh6 (key:=key) x m2.keys m2.borns (findE_snoc (z:=z) (c:=c) 0 h6)
   refine ⟨g.set b (.map (esV key (updE (es++[(k,z,c)]) k x)) (c+1)),?_,hqq _ _ ⟨by rw [Hp.get_set,if_pos rfl],rfl,fun d hd=>by rw [Hp.get_set,if_neg hd]⟩ ((m2.upd (k:=k) (u:=z) (by simp [updF]) x (by rw [Hp.get_set,if_pos rfl])).congr fun y=>?_)⟩
   ·simp only [zc9,zbV,Option.bind_some,zhs,m2.at_,hs]
   ·unfold updF; split <;> rfl
theorem pu_mkmapX {h:Hp} {q:V→Hp→Blk→Prop} (hq:∀ h1 b,New h h1 b (.map [] 0)→q (.mp b) h1 (.map [] 0)):(Pu E).mkmap h true q:=⟨rfl,hq _ _ (New.mk' _ _)⟩
end
theorem m_int:IsMap EE 56 42 3:=isMap (by kernel_rfl)
theorem m_users:IsMap EE 57 42 32:=isMap (by kernel_rfl)
theorem zfU:KeyOf EE 42 spV:=keyOf3 (fun s=>s.s) (fun s=>s.r) (fun s=>s.c) (fun _=>rfl) (fun a b=>by cases a; cases b; simp) (by kernel_rfl)
theorem z_users:vzero EE 32=some .nils:=by kernel_rfl
theorem z_int:vzero EE 3=some (.int .i64 0):=by kernel_rfl
structure UMap (N:Nat) (h:Hp) (b:Nat) (f:Spt→Option V) (us:Spt→List Spt):Prop where
 map:zbP spV h b f
 nones:∀ n,f n=none→us n=[]
 ats:∀ n v,f n=some v→OwnS N h v (us n)
 sep:∀ m n v w c,f m=some v→f n=some w→zI v=some c→zI w=some c→m=n
def addU (us:Spt→List Spt) (n s:Spt):Spt→List Spt:=fun m=>if m=n then us n++[s] else us m
structure UF (bL bU:Nat) (f f':Spt→Option V) (h h':Hp):Prop where
 n:h.n≤h'.n
 keep:∀ c,c < h.n→c ≠ bL→c ≠ bU→(∀ m v,f m=some v→zI v ≠ some c)→h'.t.get c=h.t.get c
 new:∀ m v c,f' m=some v→zI v=some c→(∃ m' v',f m'=some v'∧zI v'=some c)∨h.n≤c
theorem UF.refl (bL bU:Nat) (f:Spt→Option V) (h:Hp):UF bL bU f f h h:=⟨Nat.le_refl _,fun _ _ _ _ _=>rfl,fun m v c h1 h2=>.inl ⟨m,v,h1,h2⟩⟩
theorem UF.trans {bL bU:Nat} {f1 f2 f3:Spt→Option V} {h1 h2 h3:Hp} (x:UF bL bU f1 f2 h1 h2) (y:UF bL bU f2 f3 h2 h3):UF bL bU f1 f3 h1 h3:=by
 have a:=x.n
 have b:=y.n
 refine ⟨by omega,fun c hc e1 e2 hn=>?_,fun m v c hm hv=>?_⟩
 ·rw [y.keep c (by omega) e1 e2 fun m v hm hv=>?_,x.keep c hc e1 e2 hn]
  rcases x.new m v c hm hv with ⟨m',v',h1,h2⟩ | h
  ·exact hn m' v' h1 h2
  ·omega
 ·rcases y.new m v c hm hv with ⟨m',v',h1,h2⟩ | h
  ·exact x.new m' v' c h1 h2
  ·exact .inr (by omega)
theorem UMap.keep {N bU:Nat} {h h':Hp} {f:Spt→Option V} {us:Spt→List Spt} (U:UMap N h bU f us) (hn:h.n≤h'.n) (hb:h'.t.get bU=h.t.get bU) (hk:∀ m v c,f m=some v→zI v=some c→h'.t.get c=h.t.get c):UMap N h' bU f us:=
 ⟨U.map.keep hb,U.nones,fun m v hm=>(U.ats m v hm).keep hn fun c hc=>hk m v c hm hc,U.sep⟩
theorem UMap.congr {N bU:Nat} {h:Hp} {f:Spt→Option V} {us us':Spt→List Spt} (U:UMap N h bU f us) (e:∀ n,us n=us' n):UMap N h bU f us':=by
 have:us=us':=funext e
 subst this; exact U
theorem users_add {N bU bL:Nat} {h:Hp} {f:Spt→Option V} {us:Spt→List Spt} (U:UMap N h bU f us) (hb:bU < N) (hN:N≤h.n) (n s:Spt) (hlen:(us n).length+1≤1048576) {q:Hp→Prop}
  (hq:∀ h' f',UMap N h' bU f' (addU us n s)→UF bL bU f f' h h'→Ext (min N bU) h h'→(∀ c,c < N→c ≠ bU→h'.t.get c=h.t.get c)→q h'):
  (Pu EE).bsl h 32 1 [(0,spV s)] fun x22 h23 _=>(Pu EE).mape h23 57 (.mp bU) (spV n) fun x25 h26=>(Pu EE).extr x25 0 fun x27=>
   (Pu EE).ebui h26 #[32,32] .append [x27,x22] fun x28 h29=>(Pu EE).extr x25 1 fun x30=>(Pu EE).ests h29 (.mp bU) x30 x28 q:=by
 rw [zcL zg zf _ rfl (by omega)]
 obtain ⟨hA,hhA⟩:∃ hA,hA=h.new (.cells (spC s) 42 false):=⟨_,rfl⟩
 have wA:New h hA h.n (.cells (spC s) 42 false):=by rw [hhA]; exact New.mk' _ _
 have oA:Own h.n hA (.sl h.n 0 1 1) 42 3 1 (spC s):=by rw [hhA]; exact zfu rfl
 show (Pu EE).mape (h.new (.cells (spC s) 42 false)) _ _ _ _
 rw [← hhA]
 have nA:=wA.n
 have mA:zbP spV hA bU f:=U.map.keep (wA.old bU (by omega))
 obtain ⟨nb,v,h1,hv,n1,k1,g1,g2⟩:=pu_mapeX m_users zfU mA n z_users
 rw [g1,zao]
 have hV:∀ c,zI v=some c→∃ w,f n=some w∧zI w=some c:=fun c hc=>by
  cases hf:f n with
  | none=>rw [hv,hf] at hc; cases hc
  | some w=>rw [hv,hf] at hc; exact ⟨w,rfl,hc⟩
 have o1:OwnS N h1 v (us n):=by
  cases hf:f n with
  | none=>rw [hv,hf,U.nones n hf]; exact OwnS.nil _ _
  | some w=>
   have o:=U.ats n w hf
   rw [hv,hf]
   refine o.keep (by omega) fun c hc=>?_
   have:=o.ge c hc
   have:=o.in_ c hc
   rw [k1 c (by omega),wA.old c (by omega)]
 have oA1:Own h.n h1 (.sl h.n 0 1 1) 42 3 1 (spC s):=oA.keep (by omega) fun c hc=>by cases hc; rw [k1 _ (by omega)]
 obtain ⟨v',h',a1,a2,a3,a4,a5⟩:=zdj (ts:=#[32,32]) o1 rfl rfl zg noIntS zf (zfx oA1.rd).1 (fun e=>by cases e) rfl hlen (by omega)
 rw [a1,zam]
 have hvb:zI v ≠ some bU:=fun e=>by have:=o1.ge _ e; omega
 have n3:=a3.n
 refine g2 h' (a4 bU (by omega) hvb) _ _ _ fun h3 bl w3 m3=>?_
 have n4:=w3.n
 have chain:∀ c,c < h.n→c ≠ bU→zI v ≠ some c→h3.t.get c=h.t.get c:=fun c h1 h2 h3=>by
  rw [w3.other c h2,a4 c (by omega) h3,k1 c h2,wA.old c h1]
 refine hq h3 (updF f n v') ⟨m3,fun m hm=>?_,fun m w hm=>?_,fun m1 m2 u w c e1 e2 c1 c2=>?_⟩ ⟨by omega,fun c hc _ e2 hn=>?_,fun m w c hm hc=>?_⟩ ⟨by omega,fun c hc=>?_⟩ (fun c hc e=>?_)
 ·unfold updF at hm
  unfold addU
  split at hm
  ·cases hm
  ·rename_i e; rw [if_neg e]; exact U.nones m hm
 ·unfold updF at hm
  unfold addU
  split at hm
  ·rename_i e
   subst e
   cases hm
   rw [if_pos rfl]
   have e:spCs (us m++[s])=spCs (us m)++spC s:=by rw [spCs_app]; simp [spCs]
   show Own _ _ _ _ _ (us m++[s]).length _
   rw [List.length_append,e]
   exact a2.keep (by omega) fun c hc=>by
    have:=a2.ge c hc
    rw [w3.other c (by omega)]
  ·rename_i e
   rw [if_neg e]
   have o:=U.ats m w hm
   refine o.keep (by omega) fun c hc=>?_
   have g1:=o.ge c hc
   have g2:=o.in_ c hc
   refine chain c g2 (by omega) fun hvc=>?_
   obtain ⟨w0,k1,k2⟩:=hV c hvc
   exact e (U.sep m n w w0 c hm k1 hc k2)
 ·unfold updF at e1 e2
  by_cases q1:m1=n
  ·by_cases q2:m2=n
   ·rw [q1,q2]
   ·rw [if_pos q1] at e1
    rw [if_neg q2] at e2
    cases e1
    rcases a5 c c1 with k | k
    ·obtain ⟨w0,k1,k2⟩:=hV c k
     exact absurd (U.sep m2 n w w0 c e2 k1 c2 k2) q2
    ·have:=(U.ats m2 w e2).in_ c c2; omega
  ·by_cases q2:m2=n
   ·rw [if_neg q1] at e1
    rw [if_pos q2] at e2
    cases e2
    rcases a5 c c2 with k | k
    ·obtain ⟨w0,k1,k2⟩:=hV c k
     exact absurd (U.sep m1 n u w0 c e1 k1 c1 k2) q1
    ·have:=(U.ats m1 u e1).in_ c c1; omega
   ·rw [if_neg q1] at e1
    rw [if_neg q2] at e2
    exact U.sep m1 m2 u w c e1 e2 c1 c2
 ·refine chain c hc e2 fun k=>?_
  obtain ⟨w0,k1,k2⟩:=hV c k
  exact hn n w0 k1 k2
 ·unfold updF at hm
  split at hm
  ·cases hm
   rcases a5 c hc with k | k
   ·obtain ⟨w0,k1,k2⟩:=hV c k
    exact .inl ⟨n,w0,k1,k2⟩
   ·exact .inr (by omega)
  ·exact .inl ⟨m,w,hm,hc⟩
 ·refine chain c (by omega) (by omega) fun k=>?_
  have:=o1.ge c k; omega
 ·refine chain c (by omega) e fun k=>?_
  have:=o1.ge c k; omega
end
end Go.Proofs.YtbchdlelmkmagaaGreatDoor.VM
namespace Go.Proofs.YtbchdlelmkmagaaGreatDoor.VM
open Go
set_option linter.unusedVariables false
set_option linter.unusedSectionVars false
set_option linter.unusedSimpArgs false
set_option maxRecDepth 20000
noncomputable section
attribute [local instance] syZ
theorem zch (w:Bool) (f:(V→Prop)→Prop) (k:V→Prop):(Pu EE).gval zj w f k↔k zj:=by
 show (∃ c,zgt zj w=some c∧(c=true→f k)∧(c=false→k zj))↔_
 simp [zgt,zj]
theorem pu_gchk_u (w:Bool) (f:Prop→Prop) (k:Prop):(Pu EE).gchk zj w f k↔k:=by
 show (∃ c,zgt zj w=some c∧(c=true→f k)∧(c=false→k))↔_
 simp [zgt,zj]
theorem pu_beql (cx cy:Bool) (a b:Bool) (q:V→Prop):(Pu EE).bin .eql 4 cx cy (.bool a) (.bool b) q↔q (.bool (a == b)):=by
 show (∃ v,vbinB EE .eql 4 cx cy (.bool a) (.bool b)=some v∧q v)↔_
 have:vbinB EE .eql 4 cx cy (.bool a) (.bool b)=some (.bool (a == b)):=by cases a <;> cases b <;> cases cx <;> cases cy <;> kernel_rfl
 rw [this,zT]
theorem same_str (s:List Nat) (k:Prop):(Pu EE).same (.str s) (.str s) k↔k:=by
 show (zd9 _ _=true∧k)↔k
 have:zd9 (.str s) (.str s)=true:=by simp [zd9,zkf,zci]
 simp [this]
theorem zh7 (a:Vl) (k:Prop):(Pu EE).same (valV a) (valV a) k↔k:=by
 show (zd9 _ _=true∧k)↔k
 have:zd9 (valV a) (valV a)=true:=by
  show zkl (vlC a) (vlC a)=true
  simp [vlC,zkl,zkf,zbc,zet,zci]
 simp [this]
def icmpJ (a b:Int):Int:=if a < b then -1 else if b < a then 1 else 0
theorem nanJ (a:Int) (h:Hp):Ans EE 206 [.int .i64 a] h fun x h'=>x=.bool false∧h'=h:=by
 apply zjg
 unfold zcq
 rw [pu_neq]
 exact ⟨by simp,rfl⟩
theorem cmpJ_ok (a b:Int) (h:Hp):Ans EE 145 [.int .i64 a,.int .i64 b] h fun x h'=>x=.int .i64 (icmpJ a b)∧h'=h:=by
 apply zhy
 unfold zbO
 refine (nanJ a h).mono ?_
 rintro x h1 ⟨rfl,rfl⟩
 refine (nanJ b h1).mono ?_
 rintro x h2 ⟨rfl,rfl⟩
 rw [zb,zb,zak,zi]
 unfold icmpJ
 refine ⟨fun e=>⟨by rw [if_pos e],rfl⟩,fun e=>?_⟩
 rw [zgc,zi,if_neg e]
 exact ⟨fun e2=>⟨by rw [if_pos e2],rfl⟩,fun e2=>⟨by rw [if_neg e2],rfl⟩⟩
def zaP (v o:Vl):Vl:=if v.k=0 then ⟨o.k,0,[]⟩ else v
theorem like_ok (v o:Vl) (h:Hp):Ans EE 238 [valV v,valV o] h fun x h'=>x=valV (zaP v o)∧Ext h.n h h':=by
 apply a_val_like
 unfold zjJ
 refine zdn v fun h1 b1 w1=>?_
 refine zdn o fun h2 b2 w2=>?_
 refine zq ze fun h3 b3 w3=>?_
 have n1:=w1.n
 have n2:=w2.n
 have n3:=w3.n
 have e1:=w1.b
 have e2:=w2.b
 have g1:h3.t.get b1=some (.cells (vlC v) 48 false):=by rw [w3.old b1 (by omega),w2.old b1 (by omega)]; exact w1.at_
 have g2:h3.t.get b2=some (.cells (vlC o) 48 false):=by rw [w3.old b2 (by omega)]; exact w2.at_
 have X:Ext h.n h h2:=(w1.ext (Nat.le_refl _)).trans (w2.ext (by omega))
 rw [zF,za zm g1 rfl,eqlK _ 0 0 rfl,zi]
 unfold zaP
 refine ⟨fun hk=>?_,fun hk=>?_⟩
 ·rw [zF,za zm g2 rfl,zaD za2 _ (fun p hp=>by
   simp only [List.mem_cons,List.not_mem_nil,or_false] at hp
   rcases hp with rfl; exact zcU _ _) rfl,if_pos hk]
  exact outV ⟨o.k,0,[]⟩ w3 fun h' x=>⟨rfl,X.trans (x.mono (by omega))⟩
 ·rw [zd ze g1 (l:=vlC v) rfl,if_neg hk]
  exact outV v w3 fun h' x=>⟨rfl,X.trans (x.mono (by omega))⟩
def cmpV (a b:Vl):Int:=orZ [icmpJ (zaP a b).k (zaP b a).k,icmpJ (zaP a b).n (zaP b a).n,zkj (zaP a b).s (zaP b a).s]
theorem vcmp_ok (a b:Vl) (h:Hp):Ans EE 165 [valV a,valV b] h fun x h'=>x=.int .i64 (cmpV a b)∧Ext h.n h h':=by
 apply a_val_Cmp
 unfold zlh
 refine zdn a fun h1 b1 w1=>?_
 refine zdn b fun h2 b2 w2=>?_
 have n1:=w1.n
 have n2:=w2.n
 have e1:=w1.b
 have e2:=w2.b
 have g1:h2.t.get b1=some (.cells (vlC a) 48 false):=by rw [w2.old b1 (by omega)]; exact w1.at_
 have X2:Ext h.n h h2:=(w1.ext (Nat.le_refl _)).trans (w2.ext (by omega))
 rw [zd ze g1 (l:=vlC a) rfl,zd ze w2.at_ (l:=vlC b) rfl,zd ze w2.at_ (l:=vlC b) rfl,zd ze g1 (l:=vlC a) rfl]
 refine (like_ok a b h2).mono ?_
 rintro x h3 ⟨rfl,x3⟩
 have n3:=x3.n
 have g13:h3.t.get b1=some (.cells (vlC a) 48 false):=by rw [x3.old b1 (by omega)]; exact g1
 have g23:h3.t.get b2=some (.cells (vlC b) 48 false):=by rw [x3.old b2 (by omega)]; exact w2.at_
 rw [zd ze g13 (l:=vlC a) rfl]
 show (Pu EE).same (valV a) (valV a) _
 rw [zh7,zd ze g23 (l:=vlC b) rfl]
 show (Pu EE).same (valV b) (valV b) _
 rw [zh7]
 refine (like_ok b a h3).mono ?_
 rintro x h4 ⟨rfl,x4⟩
 have n4:=x4.n
 have X4:=(X2.trans (x3.mono (by omega))).trans (x4.mono (by omega))
 have hs:∀ (u v:Vl),spl (vlC u) 0 (vlC v)=some (vlC v):=fun u v=>by simp [vlC,spl]
 refine zC ze (by rw [x4.old b1 (by omega)]; exact g13) (x:=valV (zaP a b)) rfl rfl (hs _ _) fun h5 w5=>?_
 have n5:=w5.n
 refine zC ze (by rw [w5.other b2 (by omega),x4.old b2 (by omega)]; exact g23) (x:=valV (zaP b a)) rfl rfl (hs _ _) fun h6 w6=>?_
 have n6:=w6.n
 have k1:h6.t.get b1=some (.cells (vlC (zaP a b)) 48 false):=by rw [w6.other b1 (by omega)]; exact w5.at_
 have k2:=w6.at_
 rw [zF,za zm k1 rfl,zF,za zm k2 rfl,zat,za zm k1 rfl,zat,za zm k2 rfl,zdq,za zL k1 rfl,zdq,za zL k2 rfl]
 refine (cmpJ_ok _ _ h6).mono ?_
 rintro x h7 ⟨rfl,rfl⟩
 rw [za zL k2 rfl,same_str,za zL k1 rfl,same_str,za zm k2 rfl,zab,za zm k1 rfl,zab]
 refine (cmpJ_ok _ _ h7).mono ?_
 rintro x h8 ⟨rfl,rfl⟩
 rw [za zL k2 rfl,same_str,za zL k1 rfl,same_str]
 refine (cmpS_ok _ _ h8).mono ?_
 rintro x h9 ⟨rfl,rfl⟩
 refine pu_bslX zbS zm _ (fun p hp=>by
  simp only [List.mem_cons,List.not_mem_nil,or_false] at hp
  rcases hp with rfl | rfl | rfl <;> exact zcU _ _) rfl (by omega) fun h10 b10 w10=>?_
 have n10:=w10.n
 refine (or_ok h10 _ [icmpJ (zaP a b).k (zaP b a).k,icmpJ (zaP a b).n (zaP b a).n,zkj (zaP a b).s (zaP b a).s] ⟨rfl,.inr ⟨b10,0,_,zcH w10.at_,rfl,.inl ⟨3,rfl⟩⟩⟩ (by simp)).mono ?_
 rintro x h11 ⟨rfl,rfl⟩
 refine ⟨rfl,by omega,fun c hc=>?_⟩
 rw [w10.old c (by omega),w6.other c (by omega),w5.other c (by omega),X4.old c hc]
theorem icmp_lt {a b:Int} (h:a < b):icmpJ a b = -1:=by unfold icmpJ; rw [if_pos h]
theorem icmp_gt {a b:Int} (h:b < a):icmpJ a b=1:=by unfold icmpJ; rw [if_neg (by omega),if_pos h]
theorem icmp_eq {a b:Int} (h:a=b):icmpJ a b=0:=by unfold icmpJ; rw [if_neg (by omega),if_neg (by omega)]
theorem cmp_gt {a b:Vl} (ma:MayV a) (mb:MayV b):decide (0 < cmpV a b)=gtV a b:=by
 have ha:(zaP a b).k=(if a.k=0 then b.k else a.k)∧(zaP a b).n=a.n∧(zaP a b).s=a.s:=by
  unfold zaP
  split
  ·rename_i h
   exact ⟨rfl,(ma.n (by omega) (by omega) (by omega)).symm,(ma.s (by omega)).symm⟩
  ·exact ⟨rfl,rfl,rfl⟩
 have hb:(zaP b a).k=(if b.k=0 then a.k else b.k)∧(zaP b a).n=b.n∧(zaP b a).s=b.s:=by
  unfold zaP
  split
  ·rename_i h
   exact ⟨rfl,(mb.n (by omega) (by omega) (by omega)).symm,(mb.s (by omega)).symm⟩
  ·exact ⟨rfl,rfl,rfl⟩
 unfold cmpV gtV
 rw [ha.1,ha.2.1,ha.2.2,hb.1,hb.2.1,hb.2.2]
 generalize (if a.k=0 then b.k else a.k)=ka
 generalize (if b.k=0 then a.k else b.k)=kb
 simp only [orZ]
 rcases (by omega:ka < kb∨ka=kb∨kb < ka) with h | h | h
 ·rw [icmp_lt (by omega:(ka:Int) < kb)]
  simp; omega
 ·rw [icmp_eq (by omega:(ka:Int)=kb)]
  rcases (by omega:a.n < b.n∨a.n=b.n∨b.n < a.n) with k | k | k
  ·rw [icmp_lt k]
   simp [h]; omega
  ·rw [icmp_eq k]
   subst h
   simp only [k,if_true,decide_true,Bool.true_and,Nat.lt_irrefl,decide_false,Bool.false_or,Int.lt_irrefl]
   rcases slt_tri a.s b.s with q | q | q
   ·have:slt b.s a.s=false:=slt_asym q
    unfold zkj
    rw [q,this]; rfl
   ·unfold zkj
    rw [q,zhb]; rfl
   ·have:slt a.s b.s=false:=slt_asym q
    unfold zkj
    rw [q,this]; rfl
  ·rw [icmp_gt k]
   simp [h,k]
 ·rw [icmp_gt (by omega:(kb:Int) < ka)]
  simp [h]
end
end Go.Proofs.YtbchdlelmkmagaaGreatDoor.VM
namespace Go.Proofs.YtbchdlelmkmagaaGreatDoor.VM
open Go
set_option linter.unusedVariables false
set_option linter.unusedSectionVars false
set_option linter.unusedSimpArgs false
set_option maxRecDepth 20000
noncomputable section
attribute [local instance] syZ
theorem ze7 (z:Int):IntKind.i64.wrap z=(z+9223372036854775808) % 18446744073709551616 - 9223372036854775808:=by
 unfold IntKind.wrap
 simp [IntKind.bits,IntKind.signed]
 omega
theorem add_fit {x y:Int} (hx:zar x) (hy:zar y):(decide (x < IntKind.i64.wrap (x+y)) == decide (0 < y))=decide (zar (x+y))∧(zar (x+y)→IntKind.i64.wrap (x+y)=x+y):=by
 refine ⟨?_,fun h=>by unfold zar at *; rw [ze7]; omega⟩
 rw [Bool.eq_iff_iff,beq_iff_eq,decide_eq_true_iff,decide_eq_decide,ze7]
 unfold zar at *
 omega
theorem dbl_fit {x:Int} (hx:zar x):(zar (x * 2)↔(IntKind.i64.wrap (x * 2)).tdiv 2=x)∧(zar (x * 2)→IntKind.i64.wrap (x * 2)=x * 2):=by
 unfold zar at *
 rw [ze7]
 refine ⟨?_,fun h=>by omega⟩
 constructor
 ·intro h
  have:(x * 2+9223372036854775808) % 18446744073709551616 - 9223372036854775808=x * 2:=by omega
  rw [this]
  exact Int.mul_tdiv_cancel x (by decide)
 ·intro h
  have h1:=Int.mul_tdiv_add_tmod ((x * 2+9223372036854775808) % 18446744073709551616 - 9223372036854775808) 2
  rw [h] at h1
  have h2:=Int.tmod_lt_of_pos ((x * 2+9223372036854775808) % 18446744073709551616 - 9223372036854775808) (b:=2) (by omega)
  have h3:-2 < Int.tmod ((x * 2+9223372036854775808) % 18446744073709551616 - 9223372036854775808) 2:=by
   have:=Int.lt_tmod_of_pos ((x * 2+9223372036854775808) % 18446744073709551616 - 9223372036854775808) (b:=2) (by omega)
   omega
  omega
def numB (x y:Int):V:=.agg [.int .i64 x,.int .i64 y]
theorem boxNum (x y:Int) {h:Hp} {q:V→Hp→Blk→Prop} (hq:∀ h1 b,New h h1 b (.cells [.int .i64 x,.int .i64 y] 235 false)→q (.ptr b 0) h1 (.cells [.int .i64 x,.int .i64 y] 235 false)):(Pu EE).box h 235 (numB x y) q:=zW (cs:=[.int .i64 x,.int .i64 y]) rfl hq
theorem nadd_ok {x y:Int} (hx:zar x) (hy:zar y) (h:Hp):Ans EE 234 [numB x y] h fun r h'=>(∃ z,r=.tup [.int .i64 z,.bool (decide (zar (x+y)))]∧(zar (x+y)→z=x+y))∧Ext h.n h h':=by
 apply a_val_number_add
 unfold zdF
 refine boxNum x y fun h1 b w=>?_
 obtain ⟨f1,f2⟩:=add_fit hx hy
 rw [zbe,za zm w.at_ rfl,zaX,za zm w.at_ rfl,pu_add,zbe,za zm w.at_ rfl,zgc,zaX,za zm w.at_ rfl,zgc,pu_beql,za zm w.at_ rfl,zab,za zm w.at_ rfl,zab,f1]
 exact ⟨⟨_,rfl,f2⟩,w.ext (Nat.le_refl _)⟩
theorem nmul_ok {x:Int} (hx:zar x) (h:Hp):Ans EE 236 [numB x 2] h fun r h'=>(∃ z,r=.tup [.int .i64 z,.bool (decide (zar (x * 2)))]∧(zar (x * 2)→z=x * 2))∧Ext h.n h h':=by
 apply a_val_number_mul
 unfold zd0
 refine boxNum x 2 fun h1 b w=>?_
 have e:=w.ext (Nat.le_refl _)
 obtain ⟨f1,f2⟩:=dbl_fit hx
 rw [zbe,za zm w.at_ rfl,zcJ]
 by_cases h0:x=0
 ·subst h0
  rw [decide_eq_true rfl]
  simp only [zaH]
  rw [zB,zc]
  exact ⟨⟨0,rfl,fun _=>rfl⟩,e⟩
 ·rw [decide_eq_false h0]
  simp only [zu]
  rw [zaX,za zm w.at_ rfl,zcJ,decide_eq_false (by decide:¬ (2:Int)=0),zo,zb]
  rw [zbe,za zm w.at_ rfl,zaX,za zm w.at_ rfl,pu_mul,zaX,za zm w.at_ rfl,pu_quo _ _ _ _ _ _ (by decide),zbe,za zm w.at_ rfl,zcJ]
  have hw:IntKind.i64.wrap ((IntKind.i64.wrap (x * 2)).tdiv 2)=(IntKind.i64.wrap (x * 2)).tdiv 2:=by
   have h1:zar ((IntKind.i64.wrap (x * 2)).tdiv 2):=by
    have h2:=Int.mul_tdiv_add_tmod (IntKind.i64.wrap (x * 2)) 2
    have h3:=Int.tmod_lt_of_pos (IntKind.i64.wrap (x * 2)) (b:=2) (by omega)
    have h4:=Int.lt_tmod_of_pos (IntKind.i64.wrap (x * 2)) (b:=2) (by omega)
    have h5:zar (IntKind.i64.wrap (x * 2)):=by rw [ze7]; unfold zar; omega
    unfold zar at *
    omega
   rw [ze7 ((IntKind.i64.wrap (x * 2)).tdiv 2)]
   unfold zar at h1
   omega
  rw [hw]
  by_cases hf:zar (x * 2)
  ·rw [decide_eq_true (f1.1 hf),decide_eq_true hf,f2 hf]
   simp only [zu]
   rw [zbe,za zm w.at_ rfl,zcJ]
   by_cases hm:x = -1
   ·rw [decide_eq_true hm]
    simp only [zu]
    rw [zaX,za zm w.at_ rfl,zcJ,decide_eq_false (by decide:¬ (2:Int) = -9223372036854775808),zB,zaE,Bool.not_false,zB]
    simp only [zu]
    rw [zaX,za zm w.at_ rfl,zcJ,decide_eq_false (by decide:¬ (2:Int) = -1)]
    simp only [zS]
    rw [zo,zaE,Bool.not_false,zB,pu_gchk_ft]
    exact ⟨⟨_,rfl,fun _=>rfl⟩,e⟩
   ·rw [decide_eq_false hm]
    simp only [zS]
    rw [zo,zaE,Bool.not_false,zB]
    simp only [zu]
    rw [zaX,za zm w.at_ rfl,zcJ,decide_eq_false (by decide:¬ (2:Int) = -1)]
    simp only [zS]
    rw [zo,zaE,Bool.not_false,zB,pu_gchk_ft]
    exact ⟨⟨_,rfl,fun _=>rfl⟩,e⟩
  ·rw [decide_eq_false (fun q=>hf (f1.2 q)),decide_eq_false hf]
   simp only [zS,zch]
   rw [zo]
   simp only [zS,zch]
   rw [zo,pu_gchk_u]
   exact ⟨⟨_,rfl,fun q=>absurd q hf⟩,e⟩
theorem ndiv_ok (h:Hp):Ans EE 237 [numB 1 1] h fun r h'=>r=.tup [.int .i64 1,.bool true]∧Ext h.n h h':=by
 apply a_val_number_div
 unfold zd2
 refine boxNum 1 1 fun h1 b w=>?_
 have e:=w.ext (Nat.le_refl _)
 rw [zbe,za zm w.at_ rfl,zcJ,decide_eq_false (by decide:¬ (1:Int) = -9223372036854775808)]
 simp only [zS]
 rw [zo,zb,zbe,za zm w.at_ rfl,zaX,za zm w.at_ rfl,pu_quo _ _ _ _ _ _ (by decide)]
 exact ⟨rfl,e⟩
def keyI (z:Int):V:=.int .i64 z
theorem k_int:KeyOf EE 3 keyI:=by
 obtain ⟨j,h1,h2⟩:=i_int
 refine ⟨j,h1,fun a b=>?_⟩
 unfold veqK keyI
 rw [h2]
 simp only [zbc,Bool.and_self,cond_true,zet]
theorem m_fns:IsMap EE 236 3 232:=isMap (by kernel_rfl)
def OpOK (k:Nat) (a b:Vl):Prop:=k=16∨(k=18∧b=vlN 2)∨(k=19∧a=vlN 1∧(b=vlN 0∨b=vlN 1))
def ziL (k:Nat) (a b:Vl):Vl:=match intV a,intV b with
 | some x,some y=>if k=16 then numS (x+y) else if k=18 then numS (x * y) else if y=0 then vlE 3 else vlN (x.tdiv y)
 | _,_=>vlE 1
theorem intV_fit {v:Vl} (m:MayV v) {x:Int} (h:intV v=some x):zar x:=by
 unfold intV at h
 split at h
 ·cases h; exact m.f
 ·cases h
theorem numEnd {h h9:Hp} {b3:Nat} {cs:List V} (hb:h9.t.get b3=some (.cells cs 48 false)) (hl:cs.length=3) (h3:h.n≤b3) (h3':b3 < h9.n) (x9:Ext h.n h h9) {f:Nat} {n:V} {r:Int} (H:Ans EE f [n] h9 fun y h'=>(∃ z,y=.tup [.int .i64 z,.bool (decide (zar r))]∧(zar r→z=r))∧Ext h9.n h9 h')
  {Q:V→Hp→Prop} (hq:∀ h',Ext h.n h h'→Q (valV (numS r)) h'):
  (Pu EE).callv (.fn (.func f) [] []) [n] h9 fun x51 h52=>(Pu EE).extr x51 0 fun x53=>(Pu EE).extr x51 1 fun x54=>(Pu EE).un .not x54 fun x55=>(Pu EE).cond x55
   (fun _=>(Pu EE).call 18 [(.int .i64 2)] h52 fun x56 h57=>(Pu EE).store h57 48 (.ptr b3 0) x56 fun h58=>(Pu EE).load h58 48 (.ptr b3 0) fun x59=>Q x59 h58)
   (fun _=>(Pu EE).call 44 [x53] h52 fun x60 h61=>(Pu EE).store h61 48 (.ptr b3 0) x60 fun h62=>(Pu EE).load h62 48 (.ptr b3 0) fun x63=>Q x63 h62):=by
 refine pu_callv (H.mono ?_)
 rintro y h10 ⟨⟨z,rfl,hz⟩,x10⟩
 have n9:=x9.n
 have n10:=x10.n
 rw [zao,zam,zaE]
 have fin:∀ (h':Hp) (v:Vl),v=numS r→Ext h10.n h10 h'→(Pu EE).store h' 48 (.ptr b3 0) (valV v) fun h58=>(Pu EE).load h58 48 (.ptr b3 0) fun x59=>Q x59 h58:=by
  intro h' v e x'
  subst e
  have n':=x'.n
  refine retV ((x'.old b3 (by omega)).trans ((x10.old b3 h3').trans hb)) hl _ fun h2 w=>hq h2 ⟨by have:=w.n; omega,fun c hc=>?_⟩
  rw [w.other c (by omega),x'.old c (by omega),x10.old c (by omega),x9.old c hc]
 by_cases hf:zar r
 ·rw [decide_eq_true hf,Bool.not_true,zb]
  refine (num_ok z h10).mono ?_
  rintro y h11 ⟨rfl,x11⟩
  exact fin h11 _ (by rw [numS,if_pos hf,hz hf]) x11
 ·rw [decide_eq_false hf,Bool.not_false,zc]
  refine (err_ok 2 2 rfl h10).mono ?_
  rintro y h11 ⟨rfl,x11⟩
  exact fin h11 _ (by rw [numS,if_neg hf]) x11
theorem numbers_ok (k:Nat) (a b:Vl) (ma:MayV a) (mb:MayV b) (ho:OpOK k a b) (h:Hp):Ans EE 163 [.int .i64 (k:Int),valV a,valV b] h fun x h'=>x=valV (ziL k a b)∧Ext h.n h h':=by
 apply a_val_numbers
 unfold zgh
 refine zdn a fun h1 b1 w1=>?_
 refine zdn b fun h2 b2 w2=>?_
 refine zq ze fun h3 b3 w3=>?_
 have n1:=w1.n
 have e1:=w1.b
 have n2:=w2.n
 have e2:=w2.b
 have n3:=w3.n
 have e3:=w3.b
 have hb1:h3.t.get b1=some (.cells (vlC a) 48 false):=by rw [w3.old b1 (by omega),w2.old b1 (by omega)]; exact w1.at_
 have hb2:h3.t.get b2=some (.cells (vlC b) 48 false):=by rw [w3.old b2 (by omega)]; exact w2.at_
 rw [zd ze hb1 (l:=vlC a) rfl]
 refine (int_ok a ma h3).mono ?_
 rintro y h4 ⟨rfl,x4⟩
 have n4:=x4.n
 have hb2':h4.t.get b2=some (.cells (vlC b) 48 false):=by rw [x4.old b2 (by omega)]; exact hb2
 rw [zao,zam,zd ze hb2' (l:=vlC b) rfl]
 refine (int_ok b mb h4).mono ?_
 rintro y h5 ⟨rfl,x5⟩
 have n5:=x5.n
 have hb3:h5.t.get b3=some (.cells [.int .i64 0,.int .i64 0,.str []] 48 false):=by rw [x5.old b3 (by omega),x4.old b3 (by omega)]; exact w3.at_
 have xh:Ext h.n h h5:=⟨by omega,fun c hc=>by rw [x5.old c (by omega),x4.old c (by omega),w3.old c (by omega),w2.old c (by omega),w1.old c (by omega)]⟩
 rw [zao,zam,zaE]
 have fin:∀ (h':Hp) (v:Vl),v=ziL k a b→Ext h5.n h5 h'→(Pu EE).store h' 48 (.ptr b3 0) (valV v) fun h58=>(Pu EE).load h58 48 (.ptr b3 0) fun x59=>x59=valV (ziL k a b)∧Ext h.n h h58:=by
  intro h' v e x'
  subst e
  have n':=x'.n
  refine retV ((x'.old b3 (by omega)).trans hb3) rfl _ fun h2 w=>⟨rfl,by have:=w.n; omega,fun c hc=>?_⟩
  rw [w.other c (by omega),x'.old c (by omega),xh.old c hc]
 cases hx:intV a with
 | none=>
  simp only [Option.isSome_none,Bool.not_false,zaH]
  rw [zB,zc]
  refine (err_ok 1 1 rfl h5).mono ?_
  rintro y h6 ⟨rfl,x6⟩
  exact fin h6 _ (by unfold ziL; rw [hx]) x6
 | some x=>
  simp only [Option.isSome_some,Bool.not_true,zu,Option.getD_some]
  cases hy:intV b with
  | none=>
   simp only [Option.isSome_none,zaE,Bool.not_false]
   rw [zo,zc]
   refine (err_ok 1 1 rfl h5).mono ?_
   rintro y h6 ⟨rfl,x6⟩
   exact fin h6 _ (by unfold ziL; rw [hx,hy]) x6
  | some y=>
   simp only [Option.isSome_some,zaE,Bool.not_true,Option.getD_some]
   rw [zo,zb]
   have hk:k≤19:=by rcases ho with h | h | h <;> omega
   have hk19:decide (((k:Nat):Int)=19)=decide (k=19):=by rw [decide_eq_decide]; omega
   rw [eqlK k 19 19 rfl]
   have tail:(¬ (k=19∧y=0))→(Pu EE).mkmap h5 true fun x42 h43 b44=>
     (Pu EE).mapu h43 236 x42 (.int .i64 16) (.fn (.func 234) [] []) fun h45=>
     (Pu EE).mapu h45 236 x42 (.int .i64 17) (.fn (.func 235) [] []) fun h46=>
     (Pu EE).mapu h46 236 x42 (.int .i64 18) (.fn (.func 236) [] []) fun h47=>
     (Pu EE).mapu h47 236 x42 (.int .i64 19) (.fn (.func 237) [] []) fun h48=>
     (Pu EE).look h48 236 x42 (.int .i64 (k:Int)) false fun x49=>
     (Pu EE).build 235 [(0,.int .i64 x),(1,.int .i64 y)] fun x50=>
     (Pu EE).callv x49 [x50] h48 fun x51 h52=>(Pu EE).extr x51 0 fun x53=>(Pu EE).extr x51 1 fun x54=>(Pu EE).un .not x54 fun x55=>(Pu EE).cond x55
     (fun _=>(Pu EE).call 18 [(.int .i64 2)] h52 fun x56 h57=>(Pu EE).store h57 48 (.ptr b3 0) x56 fun h58=>(Pu EE).load h58 48 (.ptr b3 0) fun x59=>x59=valV (ziL k a b)∧Ext h.n h h58)
     (fun _=>(Pu EE).call 44 [x53] h52 fun x60 h61=>(Pu EE).store h61 48 (.ptr b3 0) x60 fun h62=>(Pu EE).load h62 48 (.ptr b3 0) fun x63=>x63=valV (ziL k a b)∧Ext h.n h h62):=by
    intro hnd
    refine pu_mkmapX fun h6 b6 w6=>?_
    have n6:=w6.n
    have e6:=w6.b
    refine pu_mapu m_fns k_int (key:=keyI) (k:=16) (zbP.empty w6.at_) _ fun h7 bl7 w7 m7=>?_
    refine pu_mapu m_fns k_int (key:=keyI) (k:=17) m7 _ fun h8 bl8 w8 m8=>?_
    refine pu_mapu m_fns k_int (key:=keyI) (k:=18) m8 _ fun h9 bl9 w9 m9=>?_
    refine pu_mapu m_fns k_int (key:=keyI) (k:=19) m9 _ fun hA blA wA mA=>?_
    have n7:=w7.n
    have n8:=w8.n
    have n9:=w9.n
    have nA:=wA.n
    have xA:Ext h5.n h5 hA:=⟨by omega,fun c hc=>by rw [wA.other c (by omega),w9.other c (by omega),w8.other c (by omega),w7.other c (by omega),w6.old c (by omega)]⟩
    have hbA:hA.t.get b3=some (.cells [.int .i64 0,.int .i64 0,.str []] 48 false):=(xA.old b3 (by omega)).trans hb3
    have xhA:Ext h.n h hA:=⟨by omega,fun c hc=>by rw [xA.old c (by omega),xh.old c hc]⟩
    have hfx:=intV_fit ma hx
    have hfy:=intV_fit mb hy
    have bld:∀ q:V→Prop,(Pu EE).build 235 [(0,.int .i64 x),(1,.int .i64 y)] q↔q (numB x y):=fun q=>zaD so_val_number _ (fun p hp=>by
      simp only [List.mem_cons,List.not_mem_nil,or_false] at hp
      rcases hp with rfl | rfl <;> exact zcU _ _) rfl q
    rcases ho with rfl | ⟨rfl,rfl⟩ | ⟨rfl,rfl,hb⟩
    ·show (Pu EE).look hA 236 (.mp b6) (keyI 16) false _
     rw [zgj m_fns k_int mA 16 (v:=.fn (.func 234) [] []) (by simp [updF]),bld]
     refine numEnd (h:=h) (r:=x+y) hbA rfl (by omega) (by omega) xhA (nadd_ok hfx hfy hA) fun h' x'=>⟨?_,x'⟩
     unfold ziL; rw [hx,hy]; rfl
    ·cases hy
     show (Pu EE).look hA 236 (.mp b6) (keyI 18) false _
     rw [zgj m_fns k_int mA 18 (v:=.fn (.func 236) [] []) (by simp [updF]),bld]
     refine numEnd (h:=h) (r:=x * 2) hbA rfl (by omega) (by omega) xhA (nmul_ok hfx hA) fun h' x'=>⟨?_,x'⟩
     unfold ziL; rw [hx]; rfl
    ·cases hx
     have hy1:y=1:=by
      rcases hb with rfl | rfl
      ·cases hy; exact absurd ⟨rfl,rfl⟩ hnd
      ·cases hy; rfl
     subst hy1
     show (Pu EE).look hA 236 (.mp b6) (keyI 19) false _
     rw [zgj m_fns k_int mA 19 (v:=.fn (.func 237) [] []) (by simp [updF]),bld]
     refine numEnd (h:=h) (r:=1) hbA rfl (by omega) (by omega) xhA ((ndiv_ok hA).mono fun y h' q=>⟨⟨1,?_,fun _=>rfl⟩,q.2⟩) fun h' x'=>⟨?_,x'⟩
     ·rw [q.1,decide_eq_true (by unfold zar; omega:zar 1)]
     ·unfold ziL; rw [hy]; rfl
   by_cases hk9:k=19
   ·rw [decide_eq_true hk9]
    simp only [zu,zcJ]
    rw [zB]
    by_cases hy0:y=0
    ·rw [decide_eq_true hy0,zc]
     refine (err_ok 3 3 rfl h5).mono ?_
     rintro z h6 ⟨rfl,x6⟩
     exact fin h6 _ (by unfold ziL; rw [hx,hy]; simp [hk9,hy0]) x6
    ·rw [decide_eq_false hy0,zb]
     exact tail fun q=>hy0 q.2
   ·rw [decide_eq_false hk9]
    simp only [zS]
    rw [zo,zb]
    exact tail fun q=>hk9 q.1
end
end Go.Proofs.YtbchdlelmkmagaaGreatDoor.VM
namespace Go.Proofs.YtbchdlelmkmagaaGreatDoor.VM
open Go
set_option linter.unusedVariables false
set_option linter.unusedSectionVars false
set_option linter.unusedSimpArgs false
set_option maxRecDepth 20000
noncomputable section
attribute [local instance] syZ
theorem mayE {e:Nat} (h1:1≤e) (h2:e≤6):MayV (vlE e):=⟨by simp [vlE],fun _=>rfl,fun _ h=>absurd rfl h,fun h=>(by cases h),fun _=>⟨by show (1:Int)≤(e:Int); omega,by show (e:Int)≤6; omega⟩,by unfold zar; show -9223372036854775808≤(e:Int)∧(e:Int)≤9223372036854775807; omega,by simp [vlE],fun x h=>(by cases h)⟩
theorem mayN {n:Int} (h:zar n):MayV (vlN n):=⟨by simp [vlN],fun _=>rfl,fun h=>absurd rfl h,fun h=>(by cases h),fun h=>(by cases h),h,by simp [vlN],fun x h=>(by cases h)⟩
theorem may0:MayV vl0:=⟨by simp [vl0],fun _=>rfl,fun _ _ _=>rfl,fun h=>(by cases h),fun h=>(by cases h),(by unfold zar vl0; simp),by simp [vl0],fun x h=>(by cases h)⟩
theorem mayB (c:Bool):MayV (vlB c):=⟨by simp [vlB],fun _=>rfl,fun _ _ h=>absurd rfl h,fun _=>(by cases c <;> simp [vlB]),fun h=>(by cases h),(by cases c <;> simp [vlB,zar]),by simp [vlB],fun x h=>(by cases h)⟩
theorem mayT {s:List Nat} (h:∀ x ∈ s,x < 256):MayV (vlT s):=by
 unfold vlT
 split
 ·rename_i hl
  exact ⟨by simp,fun h=>absurd rfl h,fun _ _ _=>rfl,fun h=>(by cases h),fun h=>(by cases h),by simp [zar],hl,h⟩
 ·exact mayE (by omega) (by omega)
theorem mayS (z:Int):MayV (numS z):=by
 unfold numS
 split
 ·rename_i h; exact mayN h
 ·exact mayE (by omega) (by omega)
theorem textV_lt {v:Vl} (m:MayV v):∀ x ∈ textV v,x < 256:=by
 unfold textV
 intro x hx
 split at hx
 ·unfold digL at hx
  obtain ⟨b,_,rfl⟩:=List.mem_map.1 hx
  exact b.toNat_lt
 ·split at hx
  ·exact m.c x hx
  ·split at hx
   ·split at hx <;> simp at hx <;> omega
   ·simp at hx
theorem textV_len {v:Vl} (m:MayV v):(textV v).length≤300:=by
 unfold textV
 split
 ·unfold digL; rw [List.length_map]; have:=Lib.itoa_length_le v.n m.f.1 m.f.2; omega
 ·split
  ·have:=m.l; omega
  ·split
   ·split <;> simp
   ·simp
theorem may_numsS {k:Nat} {a b:Vl} (ma:MayV a) (mb:MayV b) (ho:OpOK k a b):MayV (ziL k a b):=by
 unfold ziL
 split
 ·rename_i x y hx hy
  rcases ho with rfl | ⟨rfl,rfl⟩ | ⟨rfl,rfl,hb⟩
  ·exact mayS _
  ·exact mayS _
  ·cases hx
   rcases hb with rfl | rfl <;> cases hy
   ·exact mayE (by omega) (by omega)
   ·exact mayN (n:=1) (by simp [zar])
 ·exact mayE (by omega) (by omega)
def TwoOK (k:Nat) (a b:Vl):Prop:=k=13∨k=15∨OpOK k a b
theorem twoS_num {k:Nat} {a b:Vl} (ho:OpOK k a b) (ha:a.k ≠ 4) (hb:b.k ≠ 4):twoS k a b=ziL k a b:=by
 unfold twoS ziL
 rw [if_neg ha,if_neg hb,if_neg (by rcases ho with h | h | h <;> omega),if_neg (by rcases ho with h | h | h <;> omega)]
 rfl
theorem may_two {k:Nat} {a b:Vl} (ma:MayV a) (mb:MayV b) (ho:TwoOK k a b):MayV (twoS k a b):=by
 by_cases ha:a.k=4
 ·unfold twoS; rw [if_pos ha]; exact ma
 by_cases hb:b.k=4
 ·unfold twoS; rw [if_neg ha,if_pos hb]; exact mb
 rcases ho with rfl | rfl | ho
 ·unfold twoS; rw [if_neg ha,if_neg hb,if_neg (by decide),if_pos rfl]; exact mayB _
 ·unfold twoS; rw [if_neg ha,if_neg hb,if_pos rfl]
  exact mayT fun x hx=>by
   rcases List.mem_append.1 hx with h | h
   ·exact textV_lt ma x h
   ·exact textV_lt mb x h
 ·rw [twoS_num ho ha hb]; exact may_numsS ma mb ho
theorem two_ok (k:Nat) (a b:Vl) (ma:MayV a) (mb:MayV b) (ho:TwoOK k a b) (h:Hp):Ans EE 109 [.int .i64 (k:Int),valV a,valV b] h fun x h'=>x=valV (twoS k a b)∧Ext h.n h h':=by
 apply a_val_Two
 unfold zlk
 refine zdn a fun h1 b1 w1=>?_
 refine zdn b fun h2 b2 w2=>?_
 refine zq ze fun h3 b3 w3=>?_
 have n1:=w1.n
 have e1:=w1.b
 have n2:=w2.n
 have e2:=w2.b
 have n3:=w3.n
 have e3:=w3.b
 have hb1:h3.t.get b1=some (.cells (vlC a) 48 false):=by rw [w3.old b1 (by omega),w2.old b1 (by omega)]; exact w1.at_
 have hb2:h3.t.get b2=some (.cells (vlC b) 48 false):=by rw [w3.old b2 (by omega)]; exact w2.at_
 have xh:Ext h.n h h3:=⟨by omega,fun c hc=>by rw [w3.old c (by omega),w2.old c (by omega),w1.old c (by omega)]⟩
 have fin:∀ (h':Hp) (v:Vl),v=twoS k a b→Ext h3.n h3 h'→(Pu EE).store h' 48 (.ptr b3 0) (valV v) fun h58=>(Pu EE).load h58 48 (.ptr b3 0) fun x59=>x59=valV (twoS k a b)∧Ext h.n h h58:=by
  intro h' v e x'
  subst e
  have n':=x'.n
  refine retV ((x'.old b3 (by omega)).trans w3.at_) rfl _ fun h2 w=>⟨rfl,by have:=w.n; omega,fun c hc=>?_⟩
  rw [w.other c (by omega),x'.old c (by omega),xh.old c hc]
 rw [zF,za zm hb1 rfl,eqlK a.k 4 4 rfl]
 by_cases ha:a.k=4
 ·rw [decide_eq_true ha,zc,zd ze hb1 (l:=vlC a) rfl]
  exact fin h3 a (by unfold twoS; rw [if_pos ha]) (Ext.refl _ _)
 rw [decide_eq_false ha,zb,zF,za zm hb2 rfl,eqlK b.k 4 4 rfl]
 by_cases hb:b.k=4
 ·rw [decide_eq_true hb,zc,zd ze hb2 (l:=vlC b) rfl]
  exact fin h3 b (by unfold twoS; rw [if_neg ha,if_pos hb]) (Ext.refl _ _)
 rw [decide_eq_false hb,zb]
 have num:OpOK k a b→L_val_Two_1 (fun x h'=>x=valV (twoS k a b)∧Ext h.n h h') (.int .i64 (k:Int)) (.ptr b1 0) (.ptr b2 0) (.ptr b3 0) (.int .i64 (k:Int)) (.bool true) h3:=by
  intro hn
  apply zlf
  unfold zgn
  rw [zc,zd ze hb1 (l:=vlC a) rfl,zd ze hb2 (l:=vlC b) rfl]
  refine (numbers_ok k a b ma mb hn h3).mono ?_
  rintro z h4 ⟨rfl,x4⟩
  exact fin h4 _ (twoS_num hn ha hb).symm x4
 rcases ho with rfl | rfl | ho
 ·rw [eqlK 13 16 16 rfl,decide_eq_false (by decide),zb,eqlK 13 17 17 rfl,decide_eq_false (by decide),zb,eqlK 13 18 18 rfl,decide_eq_false (by decide),zb,eqlK 13 19 19 rfl,decide_eq_false (by decide)]
  apply zlf
  unfold zgn
  rw [zb,eqlK 13 15 15 rfl,decide_eq_false (by decide),zb,eqlK 13 9 9 rfl,decide_eq_false (by decide),zb,eqlK 13 10 10 rfl,decide_eq_false (by decide),zb,eqlK 13 11 11 rfl,decide_eq_false (by decide),zb,eqlK 13 12 12 rfl,decide_eq_false (by decide),zb,eqlK 13 13 13 rfl,decide_eq_true rfl,zc,zd ze hb1 (l:=vlC a) rfl,zd ze hb2 (l:=vlC b) rfl]
  refine (vcmp_ok a b h3).mono ?_
  rintro z h4 ⟨rfl,x4⟩
  rw [zgc,cmp_gt ma mb]
  refine (bool_ok _ h4).mono ?_
  rintro z h5 ⟨rfl,x5⟩
  exact fin h5 _ (by unfold twoS; rw [if_neg ha,if_neg hb,if_neg (by decide),if_pos rfl]) (x4.trans (x5.mono x4.n))
 ·rw [eqlK 15 16 16 rfl,decide_eq_false (by decide),zb,eqlK 15 17 17 rfl,decide_eq_false (by decide),zb,eqlK 15 18 18 rfl,decide_eq_false (by decide),zb,eqlK 15 19 19 rfl,decide_eq_false (by decide)]
  apply zlf
  unfold zgn
  rw [zb,eqlK 15 15 15 rfl,decide_eq_true rfl,zc,zd ze hb1 (l:=vlC a) rfl,zd ze hb2 (l:=vlC b) rfl]
  refine (textS_ok a ma ha h3).mono ?_
  rintro z h4 ⟨rfl,x4⟩
  have hb2':h4.t.get b2=some (.cells (vlC b) 48 false):=by rw [x4.old b2 (by omega)]; exact hb2
  rw [zd ze hb2' (l:=vlC b) rfl]
  show (Pu EE).same (valV b) (valV b) _
  rw [zh7]
  refine (textS_ok b mb hb h4).mono ?_
  rintro z h5 ⟨rfl,x5⟩
  have x35:=x4.trans (x5.mono x4.n)
  rw [pu_sadd _ _ _ _ _ (by have:=textV_len ma; have:=textV_len mb; omega)]
  refine (str_ok _ h5).mono ?_
  rintro z h6 ⟨rfl,x6⟩
  exact fin h6 _ (by unfold twoS; rw [if_neg ha,if_neg hb,if_pos rfl]) (x35.trans (x6.mono x35.n))
 ·rcases ho with rfl | ⟨rfl,rfl⟩ | ⟨rfl,rfl,hb'⟩
  ·rw [eqlK 16 16 16 rfl,decide_eq_true rfl,zc]
   exact num (.inl rfl)
  ·rw [eqlK 18 16 16 rfl,decide_eq_false (by decide),zb,eqlK 18 17 17 rfl,decide_eq_false (by decide),zb,eqlK 18 18 18 rfl,decide_eq_true rfl,zc]
   exact num (.inr (.inl ⟨rfl,rfl⟩))
  ·rw [eqlK 19 16 16 rfl,decide_eq_false (by decide),zb,eqlK 19 17 17 rfl,decide_eq_false (by decide),zb,eqlK 19 18 18 rfl,decide_eq_false (by decide),zb,eqlK 19 19 19 rfl,decide_eq_true rfl]
   exact num (.inr (.inr ⟨rfl,rfl,hb'⟩))
end
end Go.Proofs.YtbchdlelmkmagaaGreatDoor.VM
namespace Go.Proofs.YtbchdlelmkmagaaGreatDoor.VM
open Go
noncomputable section
theorem zcC:El EE 189 1 [.nils] true:=zfe (by kernel_rfl) rfl
theorem zh2 (b o:Nat) (q:V→Prop):(Pu EE).faddr 189 (.ptr b o) 0 q↔q (.ptr b (o+0)):=zcK (by kernel_rfl) q
theorem so_fun_call:ze2 EE 189 [(0,1)] [.nils]:=zgG (by kernel_rfl)
theorem zdp:El EE 192 5 [.int .i64 0,.int .i64 0,.bool false,.bool false,.nilf] true:=zfe (by kernel_rfl) rfl
theorem fa_fun_rule_0 (b o:Nat) (q:V→Prop):(Pu EE).faddr 192 (.ptr b o) 0 q↔q (.ptr b (o+0)):=zcK (by kernel_rfl) q
theorem fa_fun_rule_1 (b o:Nat) (q:V→Prop):(Pu EE).faddr 192 (.ptr b o) 1 q↔q (.ptr b (o+1)):=zcK (by kernel_rfl) q
theorem fa_fun_rule_2 (b o:Nat) (q:V→Prop):(Pu EE).faddr 192 (.ptr b o) 2 q↔q (.ptr b (o+2)):=zcK (by kernel_rfl) q
theorem fa_fun_rule_3 (b o:Nat) (q:V→Prop):(Pu EE).faddr 192 (.ptr b o) 3 q↔q (.ptr b (o+3)):=zcK (by kernel_rfl) q
theorem zkR:El EE 190 1 [.nilf] false:=zfe (by kernel_rfl) rfl
theorem fa_fun_rule_4 (b o:Nat) (q:V→Prop):(Pu EE).faddr 192 (.ptr b o) 4 q↔q (.ptr b (o+4)):=zcK (by kernel_rfl) q
theorem so_fun_rule:ze2 EE 192 [(0,1),(1,1),(2,1),(3,1),(4,1)] [.int .i64 0,.int .i64 0,.bool false,.bool false,.nilf]:=zgG (by kernel_rfl)
end
end Go.Proofs.YtbchdlelmkmagaaGreatDoor.VM
namespace Go.Proofs.YtbchdlelmkmagaaGreatDoor.VM
open Go
set_option linter.unusedVariables false
set_option maxRecDepth 100000
noncomputable section
noncomputable def c_fun_Call:Code:=match Tryz.f107.body with | some c=>c | none=>.skip
noncomputable def zbw:Fl:=⟨Tryz.f107,c_fun_Call,[([false,true,false,true,true,true,true],[1,4,6,40,41,42]),([false,true,false,true,false,true,true,true,true,true],[4,6,68,69,70]),([false,true,true,false,false,true,true,false,false,true,false,true,false,true,true,true,true,true],[4,6,68,69,70,75,76,77])]⟩
abbrev zji (Q:QQ) (v1 v4 v6 v40 v41 v42:V) (h:Hp):Prop:=zbw.L EE Q 1 [v1,v4,v6,v40,v41,v42] h
abbrev L_fun_Call_2 (Q:QQ) (v4 v6 v68 v69 v70:V) (h:Hp):Prop:=zbw.L EE Q 2 [v4,v6,v68,v69,v70] h
abbrev zjQ (Q:QQ) (v4 v6 v68 v69 v70 v75 v76 v77:V) (h:Hp):Prop:=zbw.L EE Q 3 [v4,v6,v68,v69,v70,v75,v76,v77] h
noncomputable def zgL (p:Pr) (l:LL) (Q:QQ) (v0 v1:V) (h:Hp):Prop:=
 p.alloc h 48 fun x1 h2 b3=>
 p.build 189 [(0,v1)] fun x4=>
 p.alloc h2 189 fun x5 h6 b7=>
 p.store h6 189 x5 x4 fun h8=>
 p.load h8 189 x5 fun x9=>
 p.call 161 [x9,v0] h8 fun x10 h11=>
 p.extr x10 0 fun x12=>
 p.extr x10 1 fun x13=>
 p.alloc h11 192 fun x14 h15 b16=>
 p.store h15 192 x14 x12 fun h17=>
 p.un .not x13 fun x18=>
 p.cond x18
 (fun _=>
  p.call 18 [(.int .i64 5)] h17 fun x19 h20=>
  p.store h20 48 x1 x19 fun h21=>
  p.load h21 48 x1 fun x22=>
  Q x22 h21)
 (fun _=>
  p.lbui h17 #[131] .len [v1] fun x23=>
  p.faddr 192 x14 0 fun x24=>
  p.load h17 3 x24 fun x25=>
  p.bin .lss 3 false false x23 x25 fun x26=>
  p.gval x26 false (fun k27=>
  k27 v1) fun x28=>
  p.gval x26 false (fun k29=>
  p.lbui h17 #[131] .len [x28] fun x30=>
  k29 x30) fun x31=>
  p.gval x26 false (fun k32=>
  p.faddr 192 x14 1 fun x33=>
  k32 x33) fun x34=>
  p.gval x26 false (fun k35=>
  p.load h17 3 x34 fun x36=>
  k35 x36) fun x37=>
  p.gval x26 false (fun k38=>
  p.bin .gtr 3 false false x31 x37 fun x39=>
  k38 x39) fun x40=>
  p.pick x26 (some (.bool true)) (some x40) fun x41=>
  p.cond x41
  (fun _=>
  p.call 18 [(.int .i64 1)] h17 fun x42 h43=>
  p.store h43 48 x1 x42 fun h44=>
  p.load h44 48 x1 fun x45=>
  Q x45 h44)
  (fun _=>
  p.lbui h17 #[131] .len [v1] fun x46=>
  l 1 [v1,x1,x14,v1,x46,(.int .i64 0)] h17))
theorem q_fun_Call_0 (p:Pr) (l:LL) (Q:QQ) (v0 v1:V) (h:Hp):zgL p l Q v0 v1 h=zbw.K p EE l Q [] ([v0,v1]++List.replicate 88 zj) h:=by kernel_rfl
theorem a_fun_Call {Q:QQ} {v0 v1:V} {h:Hp} (H:zgL (Pu EE) (zbw.L EE Q) Q v0 v1 h):Ans EE 107 [v0,v1] h Q:=
 ansL (F:=zbw) (by kernel_rfl) (by kernel_rfl) (by kernel_rfl) (by kernel_rfl) (cast (q_fun_Call_0 _ _ _ v0 v1 h) H)
noncomputable def zfb (p:Pr) (l:LL) (Q:QQ) (v1 v4 v6 v40 v41 v42:V) (h:Hp):Prop:=
 p.bin .lss 3 false false v42 v41 fun x1=>
 p.cond x1
 (fun _=>
  p.iaddr 131 v40 v42 fun x2=>
  p.load h 133 x2 fun x3=>
  p.alloc h 133 fun x4 h5 b6=>
  p.store h5 133 x4 x3 fun h7=>
  p.faddr 133 x4 0 fun x8=>
  p.load h7 4 x8 fun x9=>
  p.gval x9 true (fun k10=>
  p.faddr 192 v6 2 fun x11=>
  k10 x11) fun x12=>
  p.gval x9 true (fun k13=>
  p.load h7 4 x12 fun x14=>
  k13 x14) fun x15=>
  p.gval x9 true (fun k16=>
  p.un .not x15 fun x17=>
  k16 x17) fun x18=>
  p.pick x9 (some x18) (some (.bool false)) fun x19=>
  p.gval x19 false (fun k20=>
  p.faddr 133 x4 0 fun x21=>
  k20 x21) fun x22=>
  p.gval x19 false (fun k23=>
  p.load h7 4 x22 fun x24=>
  k23 x24) fun x25=>
  p.gval x19 false (fun k26=>
  p.un .not x25 fun x27=>
  k26 x27) fun x28=>
  p.gval x19 false (fun k29=>
  k29 x28) fun x30=>
  p.gval x30 true (fun k31=>
  p.faddr 133 x4 2 fun x32=>
  k31 x32) fun x33=>
  p.gval x30 true (fun k34=>
  p.load h7 39 x33 fun x35=>
  k34 x35) fun x36=>
  p.gval x30 true (fun k37=>
  p.lbui h7 #[39] .len [x36] fun x38=>
  k37 x38) fun x39=>
  p.gval x30 true (fun k40=>
  p.bin .neq 3 false true x39 (.int .i64 1) fun x41=>
  k40 x41) fun x42=>
  p.gval x19 false (fun k43=>
  p.pick x30 (some x42) (some (.bool false)) fun x44=>
  k43 x44) fun x45=>
  p.pick x19 (some (.bool true)) (some x45) fun x46=>
  p.cond x46
  (fun _=>
  p.call 18 [(.int .i64 1)] h7 fun x47 h48=>
  p.store h48 48 v4 x47 fun h49=>
  p.load h49 48 v4 fun x50=>
  Q x50 h49)
  (fun _=>
  p.bin .add 3 false true v42 (.int .i64 1) fun x51=>
  l 1 [v1,v4,v6,v40,v41,x51] h7))
 (fun _=>
  p.faddr 192 v6 3 fun x52=>
  p.load h 4 x52 fun x53=>
  p.cond x53
  (fun _=>
  p.lbui h #[131] .len [v1] fun x54=>
  l 2 [v4,v6,v1,x54,(.int .i64 0)] h)
  (fun _=>
  p.faddr 192 v6 4 fun x55=>
  p.load h 190 x55 fun x56=>
  p.callv x56 [] h fun x57 h58=>
  p.store h58 48 v4 x57 fun h59=>
  p.load h59 48 v4 fun x60=>
  Q x60 h59))
theorem q_fun_Call_1 (p:Pr) (l:LL) (Q:QQ) (s:List V) (h:Hp):zfb p l Q (nth s 1) (nth s 4) (nth s 6) (nth s 40) (nth s 41) (nth s 42) h=zbw.K p EE l Q [true,true,true,true,false,true,false] (nths s 90 0) h:=by kernel_rfl
theorem ziX {Q:QQ} {v1 v4 v6 v40 v41 v42:V} {h:Hp} (H:zfb (Pu EE) (zbw.L EE Q) Q v1 v4 v6 v40 v41 v42 h):zji Q v1 v4 v6 v40 v41 v42 h:=
 labR (path:=[true,true,true,true,false,true,false]) rfl rfl fun s e=>by cases e; exact cast (q_fun_Call_1 _ _ _ s h) H
noncomputable def zgS (p:Pr) (l:LL) (Q:QQ) (v4 v6 v68 v69 v70:V) (h:Hp):Prop:=
 p.bin .lss 3 false false v70 v69 fun x1=>
 p.cond x1
 (fun _=>
  p.iaddr 131 v68 v70 fun x2=>
  p.load h 133 x2 fun x3=>
  p.alloc h 133 fun x4 h5 b6=>
  p.store h5 133 x4 x3 fun h7=>
  p.faddr 133 x4 2 fun x8=>
  p.load h7 39 x8 fun x9=>
  p.lbui h7 #[39] .len [x9] fun x10=>
  l 3 [v4,v6,v68,v69,v70,x9,x10,(.int .i64 0)] h7)
 (fun _=>
  p.faddr 192 v6 4 fun x11=>
  p.load h 190 x11 fun x12=>
  p.callv x12 [] h fun x13 h14=>
  p.store h14 48 v4 x13 fun h15=>
  p.load h15 48 v4 fun x16=>
  Q x16 h15)
theorem q_fun_Call_2 (p:Pr) (l:LL) (Q:QQ) (s:List V) (h:Hp):zgS p l Q (nth s 4) (nth s 6) (nth s 68) (nth s 69) (nth s 70) h=zbw.K p EE l Q [true,true,true,true,true,false,true,false,true,false] (nths s 90 0) h:=by kernel_rfl
theorem r_fun_Call_2 {Q:QQ} {v4 v6 v68 v69 v70:V} {h:Hp} (H:zgS (Pu EE) (zbw.L EE Q) Q v4 v6 v68 v69 v70 h):L_fun_Call_2 Q v4 v6 v68 v69 v70 h:=
 labR (path:=[true,true,true,true,true,false,true,false,true,false]) rfl rfl fun s e=>by cases e; exact cast (q_fun_Call_2 _ _ _ s h) H
noncomputable def zgK (p:Pr) (l:LL) (Q:QQ) (v4 v6 v68 v69 v70 v75 v76 v77:V) (h:Hp):Prop:=
 p.bin .lss 3 false false v77 v76 fun x1=>
 p.cond x1
 (fun _=>
  p.iaddr 39 v75 v77 fun x2=>
  p.load h 48 x2 fun x3=>
  p.alloc h 48 fun x4 h5 b6=>
  p.store h5 48 x4 x3 fun h7=>
  p.faddr 48 x4 0 fun x8=>
  p.load h7 3 x8 fun x9=>
  p.bin .eql 3 false true x9 (.int .i64 4) fun x10=>
  p.cond x10
  (fun _=>
  p.load h7 48 x4 fun x11=>
  p.store h7 48 v4 x11 fun h12=>
  p.load h12 48 v4 fun x13=>
  Q x13 h12)
  (fun _=>
  p.bin .add 3 false true v77 (.int .i64 1) fun x14=>
  l 3 [v4,v6,v68,v69,v70,v75,v76,x14] h7))
 (fun _=>
  p.bin .add 3 false true v70 (.int .i64 1) fun x15=>
  l 2 [v4,v6,v68,v69,x15] h)
theorem q_fun_Call_3 (p:Pr) (l:LL) (Q:QQ) (s:List V) (h:Hp):zgK p l Q (nth s 4) (nth s 6) (nth s 68) (nth s 69) (nth s 70) (nth s 75) (nth s 76) (nth s 77) h=zbw.K p EE l Q [true,true,true,true,true,false,true,false,true,false,false,true,true,false,false,true,true,false] (nths s 90 0) h:=by kernel_rfl
theorem r_fun_Call_3 {Q:QQ} {v4 v6 v68 v69 v70 v75 v76 v77:V} {h:Hp} (H:zgK (Pu EE) (zbw.L EE Q) Q v4 v6 v68 v69 v70 v75 v76 v77 h):zjQ Q v4 v6 v68 v69 v70 v75 v76 v77 h:=
 labR (path:=[true,true,true,true,true,false,true,false,true,false,false,true,true,false,false,true,true,false]) rfl rfl fun s e=>by cases e; exact cast (q_fun_Call_3 _ _ _ s h) H
noncomputable def c_fun_call_of:Code:=match Tryz.f161.body with | some c=>c | none=>.skip
noncomputable def zhW:Fl:=⟨Tryz.f161,c_fun_call_of,[]⟩
noncomputable def zfX (p:Pr) (l:LL) (Q:QQ) (v0 v1:V) (h:Hp):Prop:=
 p.box h 189 v0 fun x1 h2 b3=>
 p.alloc h2 192 fun x4 h5 b6=>
 p.mkmap h5 true fun x7 h8 b9=>
 p.load h8 189 x1 fun x10=>
 p.build 192 [(0,(.int .i64 1)),(1,(.int .i64 9223372036854775807)),(2,(.bool true)),(3,(.bool true)),(4,(.fn (.func 216) [x10] []))] fun x11=>
 p.mapu h8 231 x7 (.str [83,85,77]) x11 fun h12=>
 p.load h12 189 x1 fun x13=>
 p.build 192 [(0,(.int .i64 1)),(1,(.int .i64 9223372036854775807)),(2,(.bool true)),(3,(.bool true)),(4,(.fn (.func 217) [x13] []))] fun x14=>
 p.mapu h12 231 x7 (.str [77,73,78]) x14 fun h15=>
 p.load h15 189 x1 fun x16=>
 p.build 192 [(0,(.int .i64 1)),(1,(.int .i64 9223372036854775807)),(2,(.bool true)),(3,(.bool true)),(4,(.fn (.func 218) [x16] []))] fun x17=>
 p.mapu h15 231 x7 (.str [77,65,88]) x17 fun h18=>
 p.load h18 189 x1 fun x19=>
 p.build 192 [(0,(.int .i64 1)),(1,(.int .i64 9223372036854775807)),(2,(.bool true)),(3,(.bool false)),(4,(.fn (.func 219) [x19] []))] fun x20=>
 p.mapu h18 231 x7 (.str [67,79,85,78,84]) x20 fun h21=>
 p.load h21 189 x1 fun x22=>
 p.build 192 [(0,(.int .i64 1)),(1,(.int .i64 9223372036854775807)),(2,(.bool true)),(3,(.bool true)),(4,(.fn (.func 220) [x22] []))] fun x23=>
 p.mapu h21 231 x7 (.str [65,78,68]) x23 fun h24=>
 p.load h24 189 x1 fun x25=>
 p.build 192 [(0,(.int .i64 1)),(1,(.int .i64 9223372036854775807)),(2,(.bool true)),(3,(.bool true)),(4,(.fn (.func 221) [x25] []))] fun x26=>
 p.mapu h24 231 x7 (.str [79,82]) x26 fun h27=>
 p.load h27 189 x1 fun x28=>
 p.build 192 [(0,(.int .i64 2)),(1,(.int .i64 3)),(2,(.bool false)),(3,(.bool false)),(4,(.fn (.func 222) [x28] []))] fun x29=>
 p.mapu h27 231 x7 (.str [73,70]) x29 fun h30=>
 p.load h30 189 x1 fun x31=>
 p.build 192 [(0,(.int .i64 1)),(1,(.int .i64 1)),(2,(.bool false)),(3,(.bool true)),(4,(.fn (.func 223) [x31] []))] fun x32=>
 p.mapu h30 231 x7 (.str [78,79,84]) x32 fun h33=>
 p.load h33 189 x1 fun x34=>
 p.build 192 [(0,(.int .i64 1)),(1,(.int .i64 1)),(2,(.bool false)),(3,(.bool true)),(4,(.fn (.func 224) [x34] []))] fun x35=>
 p.mapu h33 231 x7 (.str [65,66,83]) x35 fun h36=>
 p.load h36 189 x1 fun x37=>
 p.build 192 [(0,(.int .i64 2)),(1,(.int .i64 2)),(2,(.bool false)),(3,(.bool true)),(4,(.fn (.func 225) [x37] []))] fun x38=>
 p.mapu h36 231 x7 (.str [77,79,68]) x38 fun h39=>
 p.load h39 189 x1 fun x40=>
 p.build 192 [(0,(.int .i64 1)),(1,(.int .i64 1)),(2,(.bool false)),(3,(.bool true)),(4,(.fn (.func 226) [x40] []))] fun x41=>
 p.mapu h39 231 x7 (.str [76,69,78]) x41 fun h42=>
 p.load h42 189 x1 fun x43=>
 p.build 192 [(0,(.int .i64 2)),(1,(.int .i64 2)),(2,(.bool false)),(3,(.bool true)),(4,(.fn (.func 227) [x43] []))] fun x44=>
 p.mapu h42 231 x7 (.str [76,69,70,84]) x44 fun h45=>
 p.load h45 189 x1 fun x46=>
 p.build 192 [(0,(.int .i64 2)),(1,(.int .i64 2)),(2,(.bool false)),(3,(.bool true)),(4,(.fn (.func 228) [x46] []))] fun x47=>
 p.mapu h45 231 x7 (.str [82,73,71,72,84]) x47 fun h48=>
 p.load h48 189 x1 fun x49=>
 p.build 192 [(0,(.int .i64 3)),(1,(.int .i64 3)),(2,(.bool false)),(3,(.bool true)),(4,(.fn (.func 229) [x49] []))] fun x50=>
 p.mapu h48 231 x7 (.str [77,73,68]) x50 fun h51=>
 p.load h51 189 x1 fun x52=>
 p.build 192 [(0,(.int .i64 1)),(1,(.int .i64 9223372036854775807)),(2,(.bool true)),(3,(.bool true)),(4,(.fn (.func 230) [x52] []))] fun x53=>
 p.mapu h51 231 x7 (.str [67,79,78,67,65,84]) x53 fun h54=>
 p.load h54 189 x1 fun x55=>
 p.build 192 [(0,(.int .i64 1)),(1,(.int .i64 1)),(2,(.bool false)),(3,(.bool false)),(4,(.fn (.func 231) [x55] []))] fun x56=>
 p.mapu h54 231 x7 (.str [73,83,69,82,82]) x56 fun h57=>
 p.load h57 189 x1 fun x58=>
 p.build 192 [(0,(.int .i64 1)),(1,(.int .i64 1)),(2,(.bool true)),(3,(.bool false)),(4,(.fn (.func 232) [x58] []))] fun x59=>
 p.mapu h57 231 x7 (.str [82,79,87,83]) x59 fun h60=>
 p.load h60 189 x1 fun x61=>
 p.build 192 [(0,(.int .i64 1)),(1,(.int .i64 1)),(2,(.bool true)),(3,(.bool false)),(4,(.fn (.func 233) [x61] []))] fun x62=>
 p.mapu h60 231 x7 (.str [67,79,76,83]) x62 fun h63=>
 p.look h63 231 x7 v1 true fun x64=>
 p.extr x64 0 fun x65=>
 p.extr x64 1 fun x66=>
 p.alloc h63 192 fun x67 h68 b69=>
 p.store h68 192 x67 x65 fun h70=>
 p.load h70 192 x67 fun x71=>
 p.store h70 192 x4 x71 fun h72=>
 p.load h72 192 x4 fun x73=>
 Q (.tup [x73,x66]) h72
theorem q_fun_call_of_0 (p:Pr) (l:LL) (Q:QQ) (v0 v1:V) (h:Hp):zfX p l Q v0 v1 h=zhW.K p EE l Q [] ([v0,v1]++List.replicate 71 zj) h:=by kernel_rfl
theorem a_fun_call_of {Q:QQ} {v0 v1:V} {h:Hp} (H:zfX (Pu EE) (zhW.L EE Q) Q v0 v1 h):Ans EE 161 [v0,v1] h Q:=
 ansL (F:=zhW) (by kernel_rfl) (by kernel_rfl) (by kernel_rfl) (by kernel_rfl) (cast (q_fun_call_of_0 _ _ _ v0 v1 h) H)
noncomputable def c_fun_call_sum:Code:=match Tryz.f216.body with | some c=>c | none=>.skip
noncomputable def zb0:Fl:=⟨Tryz.f216,c_fun_call_sum,[([false,true,false,true,true,true,true],[2,5,17,18,19])]⟩
abbrev zfn (Q:QQ) (v2 v5 v17 v18 v19:V) (h:Hp):Prop:=zb0.L EE Q 1 [v2,v5,v17,v18,v19] h
noncomputable def zfh (p:Pr) (l:LL) (Q:QQ) (v0:V) (h:Hp):Prop:=
 p.box h 189 v0 fun x1 h2 b3=>
 p.alloc h2 48 fun x4 h5 b6=>
 p.load h5 189 x1 fun x7=>
 p.call 262 [x7] h5 fun x8 h9=>
 p.extr x8 0 fun x10=>
 p.extr x8 1 fun x11=>
 p.un .not x11 fun x12=>
 p.cond x12
 (fun _=>
  p.call 18 [(.int .i64 1)] h9 fun x13 h14=>
  p.store h14 48 x4 x13 fun h15=>
  p.load h15 48 x4 fun x16=>
  Q x16 h15)
 (fun _=>
  p.call 44 [(.int .i64 0)] h9 fun x17 h18=>
  p.alloc h18 48 fun x19 h20 b21=>
  p.store h20 48 x19 x17 fun h22=>
  p.lbui h22 #[39] .len [x10] fun x23=>
  l 1 [x4,x19,x10,x23,(.int .i64 0)] h22)
theorem q_fun_call_sum_0 (p:Pr) (l:LL) (Q:QQ) (v0:V) (h:Hp):zfh p l Q v0 h=zb0.K p EE l Q [] ([v0]++List.replicate 27 zj) h:=by kernel_rfl
theorem a_fun_call_sum {Q:QQ} {v0:V} {h:Hp} (H:zfh (Pu EE) (zb0.L EE Q) Q v0 h):Ans EE 216 [v0] h Q:=
 ansL (F:=zb0) (by kernel_rfl) (by kernel_rfl) (by kernel_rfl) (by kernel_rfl) (cast (q_fun_call_sum_0 _ _ _ v0 h) H)
noncomputable def zc1 (p:Pr) (l:LL) (Q:QQ) (v2 v5 v17 v18 v19:V) (h:Hp):Prop:=
 p.bin .lss 3 false false v19 v18 fun x1=>
 p.cond x1
 (fun _=>
  p.iaddr 39 v17 v19 fun x2=>
  p.load h 48 x2 fun x3=>
  p.alloc h 48 fun x4 h5 b6=>
  p.store h5 48 x4 x3 fun h7=>
  p.load h7 48 v5 fun x8=>
  p.load h7 48 x4 fun x9=>
  p.call 109 [(.int .i64 16),x8,x9] h7 fun x10 h11=>
  p.store h11 48 v5 x10 fun h12=>
  p.bin .add 3 false true v19 (.int .i64 1) fun x13=>
  l 1 [v2,v5,v17,v18,x13] h12)
 (fun _=>
  p.load h 48 v5 fun x14=>
  p.store h 48 v2 x14 fun h15=>
  p.load h15 48 v2 fun x16=>
  Q x16 h15)
theorem q_fun_call_sum_1 (p:Pr) (l:LL) (Q:QQ) (s:List V) (h:Hp):zc1 p l Q (nth s 2) (nth s 5) (nth s 17) (nth s 18) (nth s 19) h=zb0.K p EE l Q [true,true,true,true,false,true,false] (nths s 28 0) h:=by kernel_rfl
theorem zix {Q:QQ} {v2 v5 v17 v18 v19:V} {h:Hp} (H:zc1 (Pu EE) (zb0.L EE Q) Q v2 v5 v17 v18 v19 h):zfn Q v2 v5 v17 v18 v19 h:=
 labR (path:=[true,true,true,true,false,true,false]) rfl rfl fun s e=>by cases e; exact cast (q_fun_call_sum_1 _ _ _ s h) H
noncomputable def c_fun_call_ints:Code:=match Tryz.f262.body with | some c=>c | none=>.skip
noncomputable def zaV:Fl:=⟨Tryz.f262,c_fun_call_ints,[([false,true,false,true],[2,9,10,11]),([false,true,true,false,false,true,true,false,false,true,false,true],[2,5,9,10,11,16,17,18])]⟩
abbrev L_fun_call_ints_1 (Q:QQ) (v2 v9 v10 v11:V) (h:Hp):Prop:=zaV.L EE Q 1 [v2,v9,v10,v11] h
abbrev zeJ (Q:QQ) (v2 v5 v9 v10 v11 v16 v17 v18:V) (h:Hp):Prop:=zaV.L EE Q 2 [v2,v5,v9,v10,v11,v16,v17,v18] h
noncomputable def zex (p:Pr) (l:LL) (Q:QQ) (v0:V) (h:Hp):Prop:=
 p.box h 189 v0 fun x1 h2 b3=>
 p.faddr 189 x1 0 fun x4=>
 p.load h2 131 x4 fun x5=>
 p.lbui h2 #[131] .len [x5] fun x6=>
 l 1 [.nils,x5,x6,(.int .i64 0)] h2
theorem q_fun_call_ints_0 (p:Pr) (l:LL) (Q:QQ) (v0:V) (h:Hp):zex p l Q v0 h=zaV.K p EE l Q [] ([v0]++List.replicate 41 zj) h:=by kernel_rfl
theorem a_fun_call_ints {Q:QQ} {v0:V} {h:Hp} (H:zex (Pu EE) (zaV.L EE Q) Q v0 h):Ans EE 262 [v0] h Q:=
 ansL (F:=zaV) (by kernel_rfl) (by kernel_rfl) (by kernel_rfl) (by kernel_rfl) (cast (q_fun_call_ints_0 _ _ _ v0 h) H)
noncomputable def zcs (p:Pr) (l:LL) (Q:QQ) (v2 v9 v10 v11:V) (h:Hp):Prop:=
 p.bin .lss 3 false false v11 v10 fun x1=>
 p.cond x1
 (fun _=>
  p.iaddr 131 v9 v11 fun x2=>
  p.load h 133 x2 fun x3=>
  p.alloc h 133 fun x4 h5 b6=>
  p.store h5 133 x4 x3 fun h7=>
  p.faddr 133 x4 2 fun x8=>
  p.load h7 39 x8 fun x9=>
  p.lbui h7 #[39] .len [x9] fun x10=>
  l 2 [v2,x4,v9,v10,v11,x9,x10,(.int .i64 0)] h7)
 (fun _=>
  Q (.tup [v2,(.bool true)]) h)
theorem q_fun_call_ints_1 (p:Pr) (l:LL) (Q:QQ) (s:List V) (h:Hp):zcs p l Q (nth s 2) (nth s 9) (nth s 10) (nth s 11) h=zaV.K p EE l Q [true,false,true,false] (nths s 42 0) h:=by kernel_rfl
theorem zhG {Q:QQ} {v2 v9 v10 v11:V} {h:Hp} (H:zcs (Pu EE) (zaV.L EE Q) Q v2 v9 v10 v11 h):L_fun_call_ints_1 Q v2 v9 v10 v11 h:=
 labR (path:=[true,false,true,false]) rfl rfl fun s e=>by cases e; exact cast (q_fun_call_ints_1 _ _ _ s h) H
noncomputable def zcp (p:Pr) (l:LL) (Q:QQ) (v2 v5 v9 v10 v11 v16 v17 v18:V) (h:Hp):Prop:=
 p.bin .lss 3 false false v18 v17 fun x1=>
 p.cond x1
 (fun _=>
  p.iaddr 39 v16 v18 fun x2=>
  p.load h 48 x2 fun x3=>
  p.alloc h 48 fun x4 h5 b6=>
  p.store h5 48 x4 x3 fun h7=>
  p.faddr 48 x4 0 fun x8=>
  p.load h7 3 x8 fun x9=>
  p.bin .eql 3 false true x9 (.int .i64 1) fun x10=>
  p.cond x10
  (fun _=>
  p.load h7 48 x4 fun x11=>
  p.bsl h7 39 1 [(0,x11)] fun x12 h13 b14=>
  p.ebui h13 #[39,39] .append [v2,x12] fun x15 h16=>
  p.bin .add 3 false true v18 (.int .i64 1) fun x17=>
  l 2 [x15,v5,v9,v10,v11,v16,v17,x17] h16)
  (fun _=>
  p.faddr 48 x4 0 fun x18=>
  p.load h7 3 x18 fun x19=>
  p.bin .neq 3 false true x19 (.int .i64 0) fun x20=>
  p.gval x20 true (fun k21=>
   p.faddr 133 v5 0 fun x22=>
   k21 x22) fun x23=>
  p.gval x20 true (fun k24=>
   p.load h7 4 x23 fun x25=>
   k24 x25) fun x26=>
  p.gval x20 true (fun k27=>
   p.un .not x26 fun x28=>
   k27 x28) fun x29=>
  p.pick x20 (some x29) (some (.bool false)) fun x30=>
  p.cond x30
  (fun _=>
   Q (.tup [.nils,(.bool false)]) h7)
  (fun _=>
   p.bin .add 3 false true v18 (.int .i64 1) fun x31=>
   l 2 [v2,v5,v9,v10,v11,v16,v17,x31] h7)))
 (fun _=>
  p.bin .add 3 false true v11 (.int .i64 1) fun x32=>
  l 1 [v2,v9,v10,x32] h)
theorem q_fun_call_ints_2 (p:Pr) (l:LL) (Q:QQ) (s:List V) (h:Hp):zcp p l Q (nth s 2) (nth s 5) (nth s 9) (nth s 10) (nth s 11) (nth s 16) (nth s 17) (nth s 18) h=zaV.K p EE l Q [true,false,true,false,false,true,true,false,false,true,true,false] (nths s 42 0) h:=by kernel_rfl
theorem zhu {Q:QQ} {v2 v5 v9 v10 v11 v16 v17 v18:V} {h:Hp} (H:zcp (Pu EE) (zaV.L EE Q) Q v2 v5 v9 v10 v11 v16 v17 v18 h):zeJ Q v2 v5 v9 v10 v11 v16 v17 v18 h:=
 labR (path:=[true,false,true,false,false,true,true,false,false,true,true,false]) rfl rfl fun s e=>by cases e; exact cast (q_fun_call_ints_2 _ _ _ s h) H
noncomputable def c_fun_call_fork:Code:=match Tryz.f222.body with | some c=>c | none=>.skip
noncomputable def zgk:Fl:=⟨Tryz.f222,c_fun_call_fork,[]⟩
noncomputable def zer (p:Pr) (l:LL) (Q:QQ) (v0:V) (h:Hp):Prop:=
 p.box h 189 v0 fun x1 h2 b3=>
 p.alloc h2 48 fun x4 h5 b6=>
 p.load h5 189 x1 fun x7=>
 p.call 267 [x7,(.int .i64 0)] h5 fun x8 h9=>
 p.alloc h9 48 fun x10 h11 b12=>
 p.store h11 48 x10 x8 fun h13=>
 p.load h13 48 x10 fun x14=>
 p.call 268 [x14] h13 fun x15 h16=>
 p.extr x15 0 fun x17=>
 p.extr x15 1 fun x18=>
 p.faddr 48 x10 0 fun x19=>
 p.load h16 3 x19 fun x20=>
 p.bin .eql 3 false true x20 (.int .i64 4) fun x21=>
 p.cond x21
 (fun _=>
  p.load h16 48 x10 fun x22=>
  p.store h16 48 x4 x22 fun h23=>
  p.load h23 48 x4 fun x24=>
  Q x24 h23)
 (fun _=>
  p.un .not x18 fun x25=>
  p.cond x25
  (fun _=>
  p.call 18 [(.int .i64 1)] h16 fun x26 h27=>
  p.store h27 48 x4 x26 fun h28=>
  p.load h28 48 x4 fun x29=>
  Q x29 h28)
  (fun _=>
  p.cond x17
  (fun _=>
   p.load h16 189 x1 fun x30=>
   p.call 267 [x30,(.int .i64 1)] h16 fun x31 h32=>
   p.store h32 48 x4 x31 fun h33=>
   p.load h33 48 x4 fun x34=>
   Q x34 h33)
  (fun _=>
   p.faddr 189 x1 0 fun x35=>
   p.load h16 131 x35 fun x36=>
   p.lbui h16 #[131] .len [x36] fun x37=>
   p.bin .eql 3 false true x37 (.int .i64 2) fun x38=>
   p.cond x38
   (fun _=>
   p.call 104 [(.bool false)] h16 fun x39 h40=>
   p.store h40 48 x4 x39 fun h41=>
   p.load h41 48 x4 fun x42=>
   Q x42 h41)
   (fun _=>
   p.load h16 189 x1 fun x43=>
   p.call 267 [x43,(.int .i64 2)] h16 fun x44 h45=>
   p.store h45 48 x4 x44 fun h46=>
   p.load h46 48 x4 fun x47=>
   Q x47 h46))))
theorem q_fun_call_fork_0 (p:Pr) (l:LL) (Q:QQ) (v0:V) (h:Hp):zer p l Q v0 h=zgk.K p EE l Q [] ([v0]++List.replicate 33 zj) h:=by kernel_rfl
theorem a_fun_call_fork {Q:QQ} {v0:V} {h:Hp} (H:zer (Pu EE) (zgk.L EE Q) Q v0 h):Ans EE 222 [v0] h Q:=
 ansL (F:=zgk) (by kernel_rfl) (by kernel_rfl) (by kernel_rfl) (by kernel_rfl) (cast (q_fun_call_fork_0 _ _ _ v0 h) H)
noncomputable def c_fun_call_one:Code:=match Tryz.f267.body with | some c=>c | none=>.skip
noncomputable def zhc:Fl:=⟨Tryz.f267,c_fun_call_one,[]⟩
noncomputable def zfj (p:Pr) (l:LL) (Q:QQ) (v0 v1:V) (h:Hp):Prop:=
 p.box h 189 v0 fun x1 h2 b3=>
 p.alloc h2 48 fun x4 h5 b6=>
 p.faddr 189 x1 0 fun x7=>
 p.load h5 131 x7 fun x8=>
 p.iaddr 131 x8 v1 fun x9=>
 p.faddr 133 x9 2 fun x10=>
 p.load h5 39 x10 fun x11=>
 p.iaddr 39 x11 (.int .i64 0) fun x12=>
 p.load h5 48 x12 fun x13=>
 p.store h5 48 x4 x13 fun h14=>
 p.load h14 48 x4 fun x15=>
 Q x15 h14
theorem q_fun_call_one_0 (p:Pr) (l:LL) (Q:QQ) (v0 v1:V) (h:Hp):zfj p l Q v0 v1 h=zhc.K p EE l Q [] ([v0,v1]++List.replicate 11 zj) h:=by kernel_rfl
theorem a_fun_call_one {Q:QQ} {v0 v1:V} {h:Hp} (H:zfj (Pu EE) (zhc.L EE Q) Q v0 v1 h):Ans EE 267 [v0,v1] h Q:=
 ansL (F:=zhc) (by kernel_rfl) (by kernel_rfl) (by kernel_rfl) (by kernel_rfl) (cast (q_fun_call_one_0 _ _ _ v0 v1 h) H)
end
end Go.Proofs.YtbchdlelmkmagaaGreatDoor.VM
namespace Go.Proofs.YtbchdlelmkmagaaGreatDoor.VM
open Go
set_option linter.unusedVariables false
set_option linter.unusedSectionVars false
set_option linter.unusedSimpArgs false
set_option maxRecDepth 20000
noncomputable section
attribute [local instance] syZ
def keyS (s:List Nat):V:=.str s
theorem k_strS:KeyOf EE 9 keyS:=by
 obtain ⟨j,h1,h2⟩:=zhD
 refine ⟨j,h1,fun a b=>?_⟩
 unfold veqK keyS
 rw [h2]
 simp only [zci]
theorem m_rules:IsMap EE 231 9 192:=isMap (by kernel_rfl)
def zfH (a b:Int) (c d:Bool) (f:Nat) (u:V):V:=.agg [.int .i64 a,.int .i64 b,.bool c,.bool d,.fn (.func f) [.agg [u]] []]
structure OfAt (h0:Hp) (b1 b4 b7:Nat) (u:V) (f:List Nat→Option V) (h:Hp):Prop where
 x:Ext h0.n h0 h
 g1:h.t.get b1=some (.cells [u] 189 false)
 g4:∃ cs,cs.length=5∧h.t.get b4=some (.cells cs 192 false)
 m:zbP keyS h b7 f
 l:b4 < h.n∧b7 < h.n
theorem zb3 {h0 h:Hp} {b1 b4 b7:Nat} {u:V} {f:List Nat→Option V} (S:OfAt h0 b1 b4 b7 u f h) (hn:h0.n≤b7) (n1:b1 ≠ b7) (n4:b4 ≠ b7) (s:List Nat) (a b:Int) (c d:Bool) (g:Nat) {K:Hp→Prop}
  (hk:∀ h',OfAt h0 b1 b4 b7 u (updF f s (zfH a b c d g u)) h'→K h'):
  (Pu EE).load h 189 (.ptr b1 0) fun x10=>(Pu EE).build 192 [(0,(.int .i64 a)),(1,(.int .i64 b)),(2,(.bool c)),(3,(.bool d)),(4,(.fn (.func g) [x10] []))] fun x11=>(Pu EE).mapu h 231 (.mp b7) (.str s) x11 K:=by
 rw [zd zcC S.g1 (l:=[u]) rfl,zaD so_fun_rule _ (fun p hp=>by
  simp only [List.mem_cons,List.not_mem_nil,or_false] at hp
  rcases hp with rfl | rfl | rfl | rfl | rfl
  ·exact zcU _ _
  ·exact zcU _ _
  ·exact c1_bool _
  ·exact c1_bool _
  ·exact ⟨rfl,rfl⟩) rfl]
 refine pu_mapu m_rules k_strS (key:=keyS) (k:=s) S.m _ fun h1 bl w m1=>hk h1 ?_
 have nw:=w.n
 have l:=S.l
 obtain ⟨cs,hc,hb4⟩:=S.g4
 exact ⟨⟨by have:=S.x.n; omega,fun c hc=>by rw [w.other c (by omega),S.x.old c hc]⟩,by rw [w.other b1 n1]; exact S.g1,⟨cs,hc,by rw [w.other b4 n4]; exact hb4⟩,m1,by omega⟩
def rulesF (u:V):List Nat→Option V:=
 (updF (updF (updF (updF (updF (updF (updF (updF (updF (updF (updF (updF (updF (updF (updF (updF (updF (updF (fun _=>none) [83,85,77] (zfH 1 9223372036854775807 true true 216 u)) [77,73,78] (zfH 1 9223372036854775807 true true 217 u)) [77,65,88] (zfH 1 9223372036854775807 true true 218 u)) [67,79,85,78,84] (zfH 1 9223372036854775807 true false 219 u)) [65,78,68] (zfH 1 9223372036854775807 true true 220 u)) [79,82] (zfH 1 9223372036854775807 true true 221 u)) [73,70] (zfH 2 3 false false 222 u)) [78,79,84] (zfH 1 1 false true 223 u)) [65,66,83] (zfH 1 1 false true 224 u)) [77,79,68] (zfH 2 2 false true 225 u)) [76,69,78] (zfH 1 1 false true 226 u)) [76,69,70,84] (zfH 2 2 false true 227 u)) [82,73,71,72,84] (zfH 2 2 false true 228 u)) [77,73,68] (zfH 3 3 false true 229 u)) [67,79,78,67,65,84] (zfH 1 9223372036854775807 true true 230 u)) [73,83,69,82,82] (zfH 1 1 false false 231 u)) [82,79,87,83] (zfH 1 1 true false 232 u)) [67,79,76,83] (zfH 1 1 true false 233 u))
theorem of_ok (u:V) (hu:C1 u) (s:List Nat) (r:V) (hr:rulesF u s=some r) (hl:∃ a b c d g,r=zfH a b c d g u) (h:Hp):Ans EE 161 [.agg [u],.str s] h fun x h'=>x=.tup [r,.bool true]∧Ext h.n h h':=by
 apply a_fun_call_of
 unfold zfX
 refine zW (cs:=[u]) (by simp [zh,hu.2]) fun h1 b1 w1=>?_
 refine zq zdp fun h2 b2 w2=>?_
 refine pu_mkmapX fun h3 b3 w3=>?_
 have n1:=w1.n
 have e1:=w1.b
 have n2:=w2.n
 have e2:=w2.b
 have n3:=w3.n
 have e3:=w3.b
 have S:OfAt h b1 b2 b3 u (fun _=>none) h3:=⟨⟨by omega,fun c hc=>by rw [w3.old c (by omega),w2.old c (by omega),w1.old c (by omega)]⟩,by rw [w3.old b1 (by omega),w2.old b1 (by omega)]; exact w1.at_,⟨_,rfl,by rw [w3.old b2 (by omega)]; exact w2.at_⟩,zbP.empty w3.at_,by omega⟩
 have q0:h.n≤b3:=by omega
 have q1:b1 ≠ b3:=by omega
 have q2:b2 ≠ b3:=by omega
 have q3:h.n≤b2:=by omega
 clear w1 w2 w3 n1 e1 n2 e2 n3 e3
 refine zb3 S q0 q1 q2 _ _ _ _ _ _ fun h4 S=>?_
 refine zb3 S q0 q1 q2 _ _ _ _ _ _ fun h4 S=>?_
 refine zb3 S q0 q1 q2 _ _ _ _ _ _ fun h4 S=>?_
 refine zb3 S q0 q1 q2 _ _ _ _ _ _ fun h4 S=>?_
 refine zb3 S q0 q1 q2 _ _ _ _ _ _ fun h4 S=>?_
 refine zb3 S q0 q1 q2 _ _ _ _ _ _ fun h4 S=>?_
 refine zb3 S q0 q1 q2 _ _ _ _ _ _ fun h4 S=>?_
 refine zb3 S q0 q1 q2 _ _ _ _ _ _ fun h4 S=>?_
 refine zb3 S q0 q1 q2 _ _ _ _ _ _ fun h4 S=>?_
 refine zb3 S q0 q1 q2 _ _ _ _ _ _ fun h4 S=>?_
 refine zb3 S q0 q1 q2 _ _ _ _ _ _ fun h4 S=>?_
 refine zb3 S q0 q1 q2 _ _ _ _ _ _ fun h4 S=>?_
 refine zb3 S q0 q1 q2 _ _ _ _ _ _ fun h4 S=>?_
 refine zb3 S q0 q1 q2 _ _ _ _ _ _ fun h4 S=>?_
 refine zb3 S q0 q1 q2 _ _ _ _ _ _ fun h4 S=>?_
 refine zb3 S q0 q1 q2 _ _ _ _ _ _ fun h4 S=>?_
 refine zb3 S q0 q1 q2 _ _ _ _ _ _ fun h4 S=>?_
 refine zb3 S q0 q1 q2 _ _ _ _ _ _ fun h4 S=>?_
 have hr':rulesF u s=some r:=hr
 unfold rulesF at hr'
 show (Pu EE).look h4 231 (.mp b3) (keyS s) true _
 rw [pu_lookok m_rules k_strS S.m s hr',zao,zam]
 obtain ⟨a,b,c,d,g,rfl⟩:=hl
 have l4:=S.l
 refine zq zdp fun h5 b5 w5=>?_
 have n5:=w5.n
 have e5:=w5.b
 refine zC zdp w5.at_ (x:=zfH a b c d g u) rfl rfl (r:=[.int .i64 a,.int .i64 b,.bool c,.bool d,.fn (.func g) [.agg [u]] []]) rfl fun h6 w6=>?_
 have n6:=w6.n
 rw [zd zdp w6.at_ (l:=[.int .i64 a,.int .i64 b,.bool c,.bool d,.fn (.func g) [.agg [u]] []]) rfl]
 obtain ⟨cs,hcl,hb4⟩:=S.g4
 have hb:h6.t.get b2=some (.cells cs 192 false):=by rw [w6.other b2 (by omega),w5.old b2 (by omega)]; exact hb4
 refine zC zdp hb (x:=zfH a b c d g u) rfl rfl (r:=[.int .i64 a,.int .i64 b,.bool c,.bool d,.fn (.func g) [.agg [u]] []]) (by
  match cs,hcl with
  | [x1,x2,x3,x4,x5],_=>rfl) fun h7 w7=>?_
 have n7:=w7.n
 have n4:=S.x.n
 rw [zd zdp w7.at_ (l:=[.int .i64 a,.int .i64 b,.bool c,.bool d,.fn (.func g) [.agg [u]] []]) rfl]
 exact ⟨rfl,by omega,fun c hc=>by rw [w7.other c (by omega),w6.other c (by omega),w5.old c (by omega),S.x.old c hc]⟩
def sumK:List Nat:=[83,85,77]
def ifK:List Nat:=[73,70]
theorem rule_sum (u:V):rulesF u sumK=some (zfH 1 9223372036854775807 true true 216 u):=by unfold rulesF sumK; simp [updF]
theorem rule_if (u:V):rulesF u ifK=some (zfH 2 3 false false 222 u):=by unfold rulesF ifK; simp [updF]
end
end Go.Proofs.YtbchdlelmkmagaaGreatDoor.VM
namespace Go.Proofs.YtbchdlelmkmagaaGreatDoor.VM
open Go
set_option linter.unusedVariables false
set_option linter.unusedSectionVars false
set_option linter.unusedSimpArgs false
set_option maxRecDepth 20000
noncomputable section
attribute [local instance] syZ
theorem noIntV:∃ iu,EE.ty.get 39=some iu∧∀ k,iu.k ≠ .int k:=by
 obtain ⟨i,h1,h2⟩:=zM; exact ⟨i,h1,fun k=>by rw [h2]; simp⟩
abbrev OwnV (N:Nat) (h:Hp) (v:V) (l:List Vl):Prop:=Own N h v 48 3 l.length (vlCs l)
abbrev RdV (h:Hp) (v:V) (l:List Vl):Prop:=Rd h 3 v l.length (vlCs l)
theorem append_val {N:Nat} {h:Hp} {v:V} {l:List Vl} (o:OwnV N h v l) (s:Vl) (hlen:l.length+1≤1048576) (hN:N≤h.n) (q:V→Hp→Prop)
  (hq:∀ v' h',OwnV N h' v' (l++[s])→Ext N h h'→(∀ c,c < h.n→zI v ≠ some c→h'.t.get c=h.t.get c)→(∀ c,zI v'=some c→zI v=some c∨h.n≤c)→q v' h'):
  (Pu EE).bsl h 39 1 [(0,valV s)] fun x h1 _=>(Pu EE).ebui h1 #[39,39] .append [v,x] q:=by
 rw [zcL zM ze _ rfl (by omega)]
 have o1:OwnV N (h.new (.cells (vlC s) 48 false)) v l:=o.keep (Nat.le_succ _) (fun c hc=>by rw [Hp.get_new,if_neg (Nat.ne_of_lt (o.in_ c hc))])
 obtain ⟨v',h',h1,h2,h3,h4,h5⟩:=zdj (ts:=#[39,39]) o1 rfl rfl zM noIntV ze (zfx (zfu (h:=h) (e:=48) (ws:=vlC s) rfl).rd).1 (fun e=>by cases e) rfl hlen (Nat.le_succ_of_le hN)
 refine (h1 q).2 (hq v' h' ?_ ((Ext.new hN _).trans h3) (fun c hc hne=>?_) (fun c hc=>?_))
 ·have e:vlCs (l++[s])=vlCs l++vlC s:=by rw [vlCs_app]; simp [vlCs]
  show Own _ _ _ _ _ (l++[s]).length _
  rw [List.length_append,e]
  exact h2
 ·rw [h4 c (Nat.lt_succ_of_lt hc) hne,Hp.get_new,if_neg (Nat.ne_of_lt hc)]
 ·rcases h5 c hc with h6 | h6
  ·exact .inl h6
  ·exact .inr (Nat.le_of_succ_le h6)
theorem rd_val {h:Hp} {w:V} {l:List Vl} (r:RdV h w l) {i:Nat} {x:Vl} (hx:l[i]? = some x):
  ∃ b o,(∀ (k:IntKind) (q:V→Prop),(Pu EE).iaddr 39 w (.int k i) q↔q (.ptr b o))∧(∀ q:V→Prop,(Pu EE).load h 48 (.ptr b o) q↔q (valV x))∧zI w=some b:=by
 obtain ⟨b,o,h1,h2,h3,_⟩:=zfT r zM ze (by omega) (List.getElem?_eq_some_iff.1 hx).1 (vlCs_at l i x hx)
 exact ⟨b,o,h1,h2,h3⟩
theorem vbox (x:Vl) {h:Hp} {K:V→Hp→Prop} (hk:∀ h1 b,New h h1 b (.cells (vlC x) 48 false)→K (.ptr b 0) h1):
  (Pu EE).alloc h 48 fun x4 h5 b6=>(Pu EE).store h5 48 x4 (valV x) fun h7=>K x4 h7:=by
 refine zq ze fun h1 b w=>?_
 refine zC ze w.at_ (x:=valV x) rfl rfl (r:=vlC x) rfl fun h2 w2=>hk h2 b ?_
 exact ⟨w2.at_,by rw [w2.n]; exact w.n,w.b,fun c hc=>by rw [w2.other c (by have:=w.b; omega),w.old c hc]⟩
theorem neqK (a b:Nat) (z:Int) (hz:z=(b:Int)) (t:Nat) (cx cy:Bool) (q:V→Prop):(Pu EE).bin .neq t cx cy (.int .i64 (a:Int)) (.int .i64 z) q↔q (.bool (!decide (a=b))):=by subst hz; exact neqN a b t cx cy q
def zhf (l:List Vl):List Vl:=l.filter fun v=>decide (v.k=1)
theorem ints_loop2 {h0:Hp} {w v9 v10 v11:V} {l:List Vl} {b5:Nat} {c:Int} (hr:RdV h0 w l) (hw:In h0.n w) (h5:b5 < h0.n) (hb5:h0.t.get b5=some (.cells [.bool true,.int .i64 c,w] 133 false)) (hl:l.length≤1000000) {Q:QQ}
  (hq:∀ h' o',Ext h0.n h0 h'→OwnV h0.n h' o' (zhf l)→zeJ Q o' (.ptr b5 0) v9 v10 v11 w (.int .i64 l.length) (.int .i64 l.length) h'):
  ∀ m i (h:Hp) (o:V),l.length - i≤m→i≤l.length→Ext h0.n h0 h→OwnV h0.n h o (zhf (l.take i))→zeJ Q o (.ptr b5 0) v9 v10 v11 w (.int .i64 l.length) (.int .i64 i) h:=by
 intro m
 induction m with
 | zero=>
  intro i h o hm hi x ho
  have:i=l.length:=by omega
  subst this
  rw [List.take_length] at ho
  exact hq h o x ho
 | succ m ih=>
  intro i h o hm hi x ho
  by_cases hil:i < l.length
  ·have xn:=x.n
   apply zhu
   unfold zcp
   rw [zak,decide_eq_true (by omega),zc]
   obtain ⟨y,hy⟩:∃ y,l[i]? = some y:=⟨l[i],List.getElem?_eq_getElem hil⟩
   obtain ⟨b,of,k1,k2,_⟩:=rd_val (hr.ext x hw) hy
   rw [k1,k2]
   refine vbox y fun h1 b1 w1=>?_
   have n1:=w1.n
   have e1:=w1.b
   have x1:Ext h0.n h0 h1:=x.trans (w1.ext (by omega))
   have o1:OwnV h0.n h1 o (zhf (l.take i)):=ho.keep (by omega) fun c hc=>w1.old c (ho.in_ c hc)
   have tk:l.take (i+1)=l.take i++[y]:=by rw [List.take_add_one,hy]; rfl
   rw [zF,za zm w1.at_ rfl,eqlK y.k 1 1 rfl]
   by_cases h1k:y.k=1
   ·rw [decide_eq_true h1k,zc,zd ze w1.at_ (l:=vlC y) rfl]
    refine append_val o1 y ?_ (by omega) _ fun o2 h2 q2 x2 _ _=>?_
    ·have:(zhf (l.take i)).length≤(l.take i).length:=List.length_filter_le _ _
     rw [List.length_take] at this
     omega
    rw [zK _ _ _ _ (by omega)]
    refine ih (i+1) h2 o2 (by omega) (by omega) (x1.trans x2) ?_
    unfold zhf at q2 ⊢
    rw [tk,List.filter_append,List.filter_cons_of_pos (by simpa using h1k),List.filter_nil]
    exact q2
   ·have hst:zhf (l.take (i+1))=zhf (l.take i):=by
     unfold zhf
     rw [tk,List.filter_append,List.filter_cons_of_neg (by simpa using h1k),List.filter_nil,List.append_nil]
    have hb:h1.t.get b5=some (.cells [.bool true,.int .i64 c,w] 133 false):=by rw [x1.old b5 h5]; exact hb5
    rw [decide_eq_false h1k,zb,zF,za zm w1.at_ rfl,neqK y.k 0 0 rfl]
    by_cases h0k:y.k=0
    ·rw [decide_eq_true h0k,Bool.not_true]
     simp only [zS]
     rw [zo,zb,zK _ _ _ _ (by omega)]
     exact ih (i+1) h1 o (by omega) (by omega) x1 (by rw [hst]; exact o1)
    ·rw [decide_eq_false h0k,Bool.not_false]
     simp only [zu]
     rw [zdl,za l_bool hb rfl,zaE,Bool.not_true,zB,zb,zK _ _ _ _ (by omega)]
     exact ih (i+1) h1 o (by omega) (by omega) x1 (by rw [hst]; exact o1)
  ·have:i=l.length:=by omega
   subst this
   rw [List.take_length] at ho
   exact hq h o x ho
end
end Go.Proofs.YtbchdlelmkmagaaGreatDoor.VM
namespace Go.Proofs.YtbchdlelmkmagaaGreatDoor.VM
open Go
set_option linter.unusedVariables false
set_option linter.unusedSectionVars false
set_option linter.unusedSimpArgs false
set_option maxRecDepth 20000
noncomputable section
attribute [local instance] syZ
theorem spl_full:∀ (ws l:List V),l.length=ws.length→spl l 0 ws=some ws:=by
 intro ws
 induction ws with
 | nil=>intro l hl; cases l with | nil=>rfl | cons _ _=>cases hl
 | cons w ws ih=>intro l hl; cases l with
  | nil=>cases hl
  | cons a l=>simp only [spl,ih l (by simpa using hl),Option.bind_some]
theorem sbox {e sz:Nat} {z:List V} (he:El EE e sz z true) (cs:List V) (hl:cs.length=sz) (hc:zh cs=true) {h:Hp} {K:V→Hp→Prop} (hk:∀ h1 b,New h h1 b (.cells cs e false)→K (.ptr b 0) h1):
  (Pu EE).alloc h e fun x4 h5 b6=>(Pu EE).store h5 e x4 (.agg cs) fun h7=>K x4 h7:=by
 refine zq he fun h1 b w=>?_
 refine zC he w.at_ (x:=.agg cs) (by show cs.length=sz; exact hl) (by show zh cs=true; exact hc) (r:=cs) (spl_full cs z (by rw [he.len,hl])) fun h2 w2=>hk h2 b ?_
 exact ⟨w2.at_,by rw [w2.n]; exact w.n,w.b,fun c hc=>by rw [w2.other c (by have:=w.b; omega),w.old c hc]⟩
structure Arg1 (h:Hp) (u:V) (c:Int) (w:V) (l:List Vl):Prop where
 ru:Rd h 3 u 1 [.bool true,.int .i64 c,w]
 rw_:RdV h w l
 iu:In h.n u
 iw:In h.n w
 hl:l.length≤1000000
theorem Arg1.ext {h h':Hp} {u:V} {c:Int} {w:V} {l:List Vl} (a:Arg1 h u c w l) (x:Ext h.n h h'):Arg1 h' u c w l:=⟨a.ru.ext x a.iu,a.rw_.ext x a.iw,a.iu.mono x.n,a.iw.mono x.n,a.hl⟩
theorem Arg1.c1 {h:Hp} {u:V} {c:Int} {w:V} {l:List Vl} (a:Arg1 h u c w l):zh [.bool true,.int .i64 c,w]=true:=by have:=a.rw_.c1.2; simpa [zh,V.isCell] using this
theorem ints_ok {h:Hp} {u:V} {c:Int} {w:V} {l:List Vl} (a:Arg1 h u c w l):Ans EE 262 [.agg [u]] h fun x h'=>∃ o,x=.tup [o,.bool true]∧OwnV h.n h' o (zhf l)∧Ext h.n h h':=by
 apply a_fun_call_ints
 unfold zex
 refine zW (cs:=[u]) (by have:=a.ru.c1; simp [zh,this.2]) fun h1 b1 w1=>?_
 have n1:=w1.n
 have a1:=a.ext (w1.ext (Nat.le_refl _))
 rw [zh2,za zjZ w1.at_ rfl,zp a1.ru zQ]
 apply zhG
 unfold zcs
 rw [show ((.int .i64 (1:Nat)):V)=.int .i64 1 from rfl,zak,decide_eq_true (by decide),zc]
 obtain ⟨b,o,k1,k2,_⟩:=zfT a1.ru zQ zau (by omega) (i:=0) (by omega) (l:=[.bool true,.int .i64 c,w]) rfl
 have k1':=k1 .i64
 rw [show ((0:Nat):Int)=0 from rfl] at k1'
 rw [k1',k2]
 refine sbox zau _ rfl a.c1 fun h2 b2 w2=>?_
 have n2:=w2.n
 have e2:=w2.b
 have a2:=a1.ext (w2.ext (Nat.le_refl _))
 rw [zaw,za zN w2.at_ rfl,zp a2.rw_ zM]
 refine ints_loop2 a2.rw_ a2.iw (by omega) w2.at_ a.hl (fun h3 o3 x3 q3=>?_) l.length 0 h2 .nils (by omega) (by omega) (Ext.refl _ _) (Own.nil _ _ _ _)
 have n3:=x3.n
 apply zhu
 unfold zcp
 rw [zak,decide_eq_false (by omega),zb,pu_add,show IntKind.i64.wrap (0+1)=1 from by decide]
 apply zhG
 unfold zcs
 rw [zak,decide_eq_false (by decide),zb]
 exact ⟨o3,rfl,q3.mono (by omega),(w1.ext (Nat.le_refl _)).trans ((w2.ext (by omega)).trans (x3.mono (by omega)))⟩
def zki:List Vl→Vl→Vl
 | [],a=>a
 | v::l,a=>zki l (twoS 16 a v)
theorem foldV_snoc:∀ (l:List Vl) (v a:Vl),zki (l++[v]) a=twoS 16 (zki l a) v
 | [],v,a=>rfl
 | x::l,v,a=>foldV_snoc l v (twoS 16 a x)
theorem zhK:∀ (l:List Vl) (a:Vl),zki (zhf l) a=addAll l a
 | [],a=>rfl
 | v::l,a=>by
  unfold zhf addAll
  by_cases h:v.k=1
  ·rw [List.filter_cons_of_pos (by simpa using h),if_pos h]; exact zhK l _
  ·rw [List.filter_cons_of_neg (by simpa using h),if_neg h]; exact zhK l _
theorem may_fold:∀ (l:List Vl) (a:Vl),(∀ v ∈ l,MayV v)→MayV a→MayV (zki l a)
 | [],a,_,h=>h
 | v::l,a,hl,h=>may_fold l _ (fun x hx=>hl x (List.mem_cons_of_mem _ hx)) (may_two h (hl v List.mem_cons_self) (.inr (.inr (.inl rfl))))
theorem sum_loop {h0:Hp} {w:V} {l:List Vl} {b2 b5:Nat} (hr:RdV h0 w l) (hw:In h0.n w) (hb2:b2 < h0.n) (hb25:b2 ≠ b5) (h5:b5 < h0.n) {cs:List V} (hc:cs.length=3) (hg2:h0.t.get b2=some (.cells cs 48 false)) (hw5:∀ b,zI w=some b→b ≠ b5) (hm:∀ v ∈ l,MayV v) (hl:l.length≤1000000) {Q:QQ}
  (hq:∀ h',h0.n≤h'.n→(∀ c,c < h0.n→c ≠ b5→c ≠ b2→h'.t.get c=h0.t.get c)→Q (valV (zki l (vlN 0))) h'):
  ∀ m i (h:Hp),l.length - i≤m→i≤l.length→h0.n≤h.n→(∀ c,c < h0.n→c ≠ b5→h.t.get c=h0.t.get c)→h.t.get b5=some (.cells (vlC (zki (l.take i) (vlN 0))) 48 false)→zfn Q (.ptr b2 0) (.ptr b5 0) w (.int .i64 l.length) (.int .i64 i) h:=by
 have fin:∀ (h:Hp),h0.n≤h.n→(∀ c,c < h0.n→c ≠ b5→h.t.get c=h0.t.get c)→h.t.get b5=some (.cells (vlC (zki l (vlN 0))) 48 false)→zfn Q (.ptr b2 0) (.ptr b5 0) w (.int .i64 l.length) (.int .i64 l.length) h:=by
  intro h hn hk hb5
  apply zix
  unfold zc1
  rw [zak,decide_eq_false (by omega),zb,zd ze hb5 (l:=vlC _) rfl]
  refine retV ((hk b2 hb2 hb25).trans hg2) hc _ fun h' w'=>hq h' (by rw [w'.n]; omega) fun c h1 h2 h3=>by rw [w'.other c h3,hk c h1 h2]
 intro m
 induction m with
 | zero=>
  intro i h hm2 hi hn hk hb5
  have:i=l.length:=by omega
  subst this
  rw [List.take_length] at hb5
  exact fin h hn hk hb5
 | succ m ih=>
  intro i h hm2 hi hn hk hb5
  by_cases hil:i < l.length
  ·apply zix
   unfold zc1
   rw [zak,decide_eq_true (by omega),zc]
   obtain ⟨y,hy⟩:∃ y,l[i]? = some y:=⟨l[i],List.getElem?_eq_getElem hil⟩
   have hr':RdV h w l:=hr.same fun c hc=>hk c (hw c hc) (hw5 c hc)
   obtain ⟨b,of,k1,k2,_⟩:=rd_val hr' hy
   rw [k1,k2]
   refine vbox y fun h1 b1 w1=>?_
   have n1:=w1.n
   have e1:=w1.b
   have hb5':h1.t.get b5=some (.cells (vlC (zki (l.take i) (vlN 0))) 48 false):=by rw [w1.old b5 (by omega)]; exact hb5
   rw [zd ze hb5' (l:=vlC _) rfl,zd ze w1.at_ (l:=vlC y) rfl]
   have hy':y ∈ l:=List.mem_of_getElem? hy
   refine (two_ok 16 (zki (l.take i) (vlN 0)) y (may_fold _ _ (fun v hv=>hm v (List.mem_of_mem_take hv)) (mayN (by simp [zar]))) (hm y hy') (.inr (.inr (.inl rfl))) h1).mono ?_
   rintro z h2 ⟨rfl,x2⟩
   have n2:=x2.n
   refine zC ze (by rw [x2.old b5 (by omega)]; exact hb5') (x:=valV (twoS 16 (zki (l.take i) (vlN 0)) y)) rfl rfl (r:=vlC (twoS 16 (zki (l.take i) (vlN 0)) y)) rfl fun h3 w3=>?_
   have n3:=w3.n
   rw [zK _ _ _ _ (by omega)]
   refine ih (i+1) h3 (by omega) (by omega) (by omega) (fun c h1' h2'=>?_) ?_
   ·rw [w3.other c h2',x2.old c (by omega),w1.old c (by omega),hk c h1' h2']
   ·have tk:l.take (i+1)=l.take i++[y]:=by rw [List.take_add_one,hy]; rfl
    rw [tk,foldV_snoc]
    exact w3.at_
  ·have:i=l.length:=by omega
   subst this
   rw [List.take_length] at hb5
   exact fin h hn hk hb5
theorem sum_ok {h:Hp} {u:V} {c:Int} {w:V} {l:List Vl} (a:Arg1 h u c w l) (hm:∀ v ∈ l,MayV v):Ans EE 216 [.agg [u]] h fun x h'=>x=valV (addAll l (vlN 0))∧Ext h.n h h':=by
 apply a_fun_call_sum
 unfold zfh
 refine zW (cs:=[u]) (by have:=a.ru.c1; simp [zh,this.2]) fun h1 b1 w1=>?_
 refine zq ze fun h2 b2 w2=>?_
 have n1:=w1.n
 have e1:=w1.b
 have n2:=w2.n
 have e2:=w2.b
 have hb1:h2.t.get b1=some (.cells [u] 189 false):=by rw [w2.old b1 (by omega)]; exact w1.at_
 rw [zd zcC hb1 (l:=[u]) rfl]
 have X2:Ext h.n h h2:=(w1.ext (Nat.le_refl _)).trans (w2.ext (by omega))
 refine (ints_ok (a.ext X2)).mono ?_
 rintro y h3 ⟨o,rfl,ho,x3⟩
 have n3:=x3.n
 rw [zao,zam,zaE,Bool.not_true,zb]
 refine (num_ok 0 h3).mono ?_
 rintro y h4 ⟨rfl,x4⟩
 have n4:=x4.n
 refine vbox (vlN 0) fun h5 b5 w5=>?_
 have n5:=w5.n
 have e5:=w5.b
 have hh:∀ b,zI o=some b→b < h3.n:=fun b hb=>ho.in_ b hb
 have ho5:OwnV h2.n h5 o (zhf l):=ho.keep (by omega) fun d hd=>by rw [w5.old d (by have:=hh d hd; omega),x4.old d (hh d hd)]
 rw [zp ho5.rd zM]
 have hlen:(zhf l).length≤l.length:=List.length_filter_le _ _
 have hl:=a.hl
 have hb2:h5.t.get b2=some (.cells [.int .i64 0,.int .i64 0,.str []] 48 false):=by rw [w5.old b2 (by omega),x4.old b2 (by omega),x3.old b2 (by omega)]; exact w2.at_
 refine sum_loop (l:=zhf l) ho5.rd (fun b hb=>by have:=hh b hb; omega) (by omega) (by omega) (by omega) rfl hb2 (fun b hb=>by have:=hh b hb; omega) (fun v hv=>hm v ((List.mem_filter.1 hv).1)) (by omega) (fun h6 k1 k2=>⟨by rw [zhK],by omega,fun d hd=>?_⟩) (zhf l).length 0 h5 (by omega) (by omega) (Nat.le_refl _) (fun _ _ _=>rfl) w5.at_
 rw [k2 d (by omega) (by omega) (by omega),w5.old d (by omega),x4.old d (by omega),x3.old d (by omega),X2.old d hd]
end
end Go.Proofs.YtbchdlelmkmagaaGreatDoor.VM
namespace Go.Proofs.YtbchdlelmkmagaaGreatDoor.VM
open Go
set_option linter.unusedVariables false
set_option linter.unusedSectionVars false
set_option linter.unusedSimpArgs false
set_option maxRecDepth 20000
noncomputable section
attribute [local instance] syZ
def argCs (ws:List V):List V:=ws.flatMap fun w=>[.bool false,.int .i64 0,w]
structure ArgN (h:Hp) (u:V) (ws:List V) (l:List Vl):Prop where
 ru:Rd h 3 u ws.length (argCs ws)
 len:ws.length=l.length
 iu:In h.n u
 at_:∀ (i:Nat) (w:V) (x:Vl),ws[i]? = some w→l[i]? = some x→RdV h w [x]∧In h.n w
theorem ArgN.ext {h h':Hp} {u:V} {ws:List V} {l:List Vl} (a:ArgN h u ws l) (x:Ext h.n h h'):ArgN h' u ws l:=
 ⟨a.ru.ext x a.iu,a.len,a.iu.mono x.n,fun i w y h1 h2=>⟨(a.at_ i w y h1 h2).1.ext x (a.at_ i w y h1 h2).2,(a.at_ i w y h1 h2).2.mono x.n⟩⟩
theorem argCs_at:∀ (ws:List V) (i:Nat) (w:V),ws[i]? = some w→((argCs ws).drop (i * 3)).take 3=[.bool false,.int .i64 0,w]
 | [],i,s,h=>by simp at h
 | a::l,0,s,h=>by
  simp only [List.getElem?_cons_zero,Option.some.injEq] at h
  subst h
  simp [argCs]
 | a::l,i+1,s,h=>by
  simp only [List.getElem?_cons_succ] at h
  have:=argCs_at l i s h
  have e:(argCs (a::l)).drop ((i+1) * 3)=(argCs l).drop (i * 3):=by
   have:(i+1) * 3=3+i * 3:=by omega
   rw [this]
   unfold argCs
   rw [List.flatMap_cons,← List.drop_drop]
   congr 1
  rw [e,this]
theorem ArgN.get {h:Hp} {u:V} {ws:List V} {l:List Vl} (a:ArgN h u ws l) {i:Nat} {x:Vl} (hx:l[i]? = some x):
  ∃ w b o vs f ro,ws[i]? = some w∧RdV h w [x]∧In h.n w∧(∀ (k:IntKind) (q:V→Prop),(Pu EE).iaddr 131 u (.int k i) q↔q (.ptr b o))∧(∀ q:V→Prop,(Pu EE).load h 133 (.ptr b o) q↔q (.agg [.bool false,.int .i64 0,w]))∧h.t.get b=some (.cells vs f ro)∧vs[o+2]? = some w:=by
 have hi:=(List.getElem?_eq_some_iff.1 hx).1
 have hiw:i < ws.length:=by rw [a.len]; exact hi
 have hw:ws[i]? = some ws[i]:=List.getElem?_eq_getElem hiw
 obtain ⟨b,o,h1,h2,h3,vs,f,ro,h4,h5,h6⟩:=zfT a.ru zQ zau (by omega) hiw (argCs_at ws i _ hw)
 exact ⟨ws[i],b,o,vs,f,ro,hw,(a.at_ i _ x hw hx).1,(a.at_ i _ x hw hx).2,h1,h2,h4,h6 2 _ rfl⟩
theorem one_ok {h:Hp} {u:V} {ws:List V} {l:List Vl} (a:ArgN h u ws l) {i:Nat} {x:Vl} (hx:l[i]? = some x) (z:Int) (hz:z=(i:Int)):Ans EE 267 [.agg [u],.int .i64 z] h fun y h'=>y=valV x∧Ext h.n h h':=by
 subst hz
 apply a_fun_call_one
 unfold zfj
 refine zW (cs:=[u]) (by have:=a.ru.c1; simp [zh,this.2]) fun h1 b1 w1=>?_
 refine zq ze fun h2 b2 w2=>?_
 have n1:=w1.n
 have e1:=w1.b
 have n2:=w2.n
 have e2:=w2.b
 have hb1:h2.t.get b1=some (.cells [u] 189 false):=by rw [w2.old b1 (by omega)]; exact w1.at_
 have X2:Ext h.n h h2:=(w1.ext (Nat.le_refl _)).trans (w2.ext (by omega))
 rw [zh2,za zjZ hb1 rfl]
 obtain ⟨w,b,o,vs,f,ro,g1,g2,g3,g4,g5,g6,g7⟩:=(a.ext X2).get hx
 rw [g4,zaw,za zN g6 g7]
 obtain ⟨b',o',k1,k2,_⟩:=rd_val (l:=[x]) g2 (i:=0) (x:=x) rfl
 have k1':=k1 .i64
 rw [show ((0:Nat):Int)=0 from rfl] at k1'
 rw [k1',k2]
 refine retV w2.at_ rfl x fun h3 w3=>⟨rfl,by rw [w3.n]; omega,fun c hc=>?_⟩
 rw [w3.other c (by omega),X2.old c hc]
theorem fork_ok {h:Hp} {u:V} {ws:List V} {x y z:Vl} (a:ArgN h u ws [x,y,z]) (mx:MayV x):Ans EE 222 [.agg [u]] h fun v h'=>v=valV (ifS x y z)∧Ext h.n h h':=by
 apply a_fun_call_fork
 unfold zer
 refine zW (cs:=[u]) (by have:=a.ru.c1; simp [zh,this.2]) fun h1 b1 w1=>?_
 refine zq ze fun h2 b2 w2=>?_
 have n1:=w1.n
 have e1:=w1.b
 have n2:=w2.n
 have e2:=w2.b
 have hb1:h2.t.get b1=some (.cells [u] 189 false):=by rw [w2.old b1 (by omega)]; exact w1.at_
 have X2:Ext h.n h h2:=(w1.ext (Nat.le_refl _)).trans (w2.ext (by omega))
 rw [zd zcC hb1 (l:=[u]) rfl]
 refine (one_ok (a.ext X2) (i:=0) (x:=x) rfl 0 rfl).mono ?_
 rintro v h3 ⟨rfl,x3⟩
 have n3:=x3.n
 refine vbox x fun h4 b4 w4=>?_
 have n4:=w4.n
 have e4:=w4.b
 rw [zd ze w4.at_ (l:=vlC x) rfl]
 refine (truth_ok x mx h4).mono ?_
 rintro v h5 ⟨rfl,x5⟩
 have n5:=x5.n
 have hb4:h5.t.get b4=some (.cells (vlC x) 48 false):=by rw [x5.old b4 (by omega)]; exact w4.at_
 have hb1':h5.t.get b1=some (.cells [u] 189 false):=by rw [x5.old b1 (by omega),w4.old b1 (by omega),x3.old b1 (by omega)]; exact hb1
 have hb2:h5.t.get b2=some (.cells [.int .i64 0,.int .i64 0,.str []] 48 false):=by rw [x5.old b2 (by omega),w4.old b2 (by omega),x3.old b2 (by omega)]; exact w2.at_
 have X5:Ext h.n h h5:=⟨by omega,fun c hc=>by rw [x5.old c (by omega),w4.old c (by omega),x3.old c (by omega),X2.old c hc]⟩
 have fin:∀ (h':Hp) (v:Vl),v=ifS x y z→Ext h5.n h5 h'→(Pu EE).store h' 48 (.ptr b2 0) (valV v) fun h58=>(Pu EE).load h58 48 (.ptr b2 0) fun x59=>x59=valV (ifS x y z)∧Ext h.n h h58:=by
  intro h' v e x'
  subst e
  have n':=x'.n
  refine retV ((x'.old b2 (by omega)).trans hb2) rfl _ fun h2 w=>⟨rfl,by have:=w.n; omega,fun c hc=>?_⟩
  rw [w.other c (by omega),x'.old c (by omega),X5.old c hc]
 rw [zao,zam,zF,za zm hb4 rfl,eqlK x.k 4 4 rfl]
 by_cases hk:x.k=4
 ·rw [decide_eq_true hk,zc,zd ze hb4 (l:=vlC x) rfl]
  exact fin h5 x (by unfold ifS; rw [if_pos hk]) (Ext.refl _ _)
 rw [decide_eq_false hk,zb,zaE]
 cases ht:ziB x with
 | none=>
  rw [Option.isSome_none,Bool.not_false,zc]
  refine (err_ok 1 1 rfl h5).mono ?_
  rintro v h6 ⟨rfl,x6⟩
  exact fin h6 _ (by unfold ifS; rw [if_neg hk,ht]) x6
 | some t=>
  rw [Option.isSome_some,Bool.not_true,zb,Option.getD_some]
  cases t with
  | true=>
   rw [zc,zd zcC hb1' (l:=[u]) rfl]
   refine (one_ok (a.ext X5) (i:=1) (x:=y) rfl 1 rfl).mono ?_
   rintro v h6 ⟨rfl,x6⟩
   exact fin h6 _ (by unfold ifS; rw [if_neg hk,ht]) x6
  | false=>
   have a5:=a.ext X5
   have hl3:ws.length=3:=a.len
   rw [zb,zh2,za zjZ hb1' rfl,zp a5.ru zQ,eqlK ws.length 2 2 rfl,decide_eq_false (by omega),zb,zd zcC hb1' (l:=[u]) rfl]
   refine (one_ok a5 (i:=2) (x:=z) rfl 2 rfl).mono ?_
   rintro v h6 ⟨rfl,x6⟩
   exact fin h6 _ (by unfold ifS; rw [if_neg hk,ht]) x6
end
end Go.Proofs.YtbchdlelmkmagaaGreatDoor.VM
