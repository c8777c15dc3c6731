/- DpH DpI DpA3 DpJ DpK DpA4 DpL DpM DpA7 DpN DpO -/
import Derived.Test.YtbchdlelmkmagaaGreatDoorMg9
namespace Go.Proofs.YtbchdlelmkmagaaGreatDoor.VM
open Go
set_option linter.unusedVariables false
set_option linter.unusedSectionVars false
set_option linter.unusedSimpArgs false
set_option maxRecDepth 20000
noncomputable section
attribute [local instance] syZ
theorem app_all {N:Nat} {h:Hp} {v:V} {el sz len:Nat} {cs:List V} (o:Own N h v el sz len cs) {t:Nat} (ht:IsSl EE t el) {z:List V} {ag:Bool} (he:El EE el sz z ag) {y:V} {n:Nat} {ws:List V} (r:Rd h sz y n ws) (hw:zh ws=true) (hlen:len+n≤1048576) (hN:N≤h.n) {q:V→Hp→Prop}
  (hq:∀ v' h',Own N h' v' el sz (len+n) (cs++ws)→Ext N h h'→(∀ c,c < h.n→zI v ≠ some c→h'.t.get c=h.t.get c)→(∀ c,zI v'=some c→zI v=some c∨h.n≤c)→q v' h'):(Pu EE).ebui h #[t,t] .append [v,y] q:=by
 have hni:∃ iu,EE.ty.get t=some iu∧∀ k,iu.k ≠ .int k:=by obtain ⟨i,h1,h2⟩:=ht; exact ⟨i,h1,fun k=>by rw [h2]; simp⟩
 obtain ⟨e1,e2⟩:=zfx r
 obtain ⟨v',h',h1,h2,h3,h4,h5⟩:=zdj (ts:=#[t,t]) o rfl rfl ht hni he e1 (fun q=>by rw [e2] at q; cases q) hw hlen hN
 exact (h1 q).2 (hq v' h' h2 h3 h4 h5)
theorem pu_bsl0 {h:Hp} {t e sz:Nat} {z:List V} {ag:Bool} (ht:IsSl EE t e) (he:El EE e sz z ag) (q:V→Hp→Blk→Prop):(Pu EE).bsl h t 0 [] q↔q (.sl h.n 0 0 0) (h.new (.cells [] e false)) (.cells [] e false):=by
 obtain ⟨ti,h1,h2⟩:=ht
 obtain ⟨⟨j,h3,h4,h5,h6,h7⟩,h8⟩:=he
 have:zbk EE t 0 []=some (.sl 0 0,.cells [] e false):=by
  have hb:(Nat.ble (0 * j.size) 16777216 && Nat.beq ((j.zero.getD []).length) j.size)=true:=by
   rw [h5,h4]
   simp [h8]
  simp only [zbk,h1,Option.bind_some,h2,h3]
  rw [hb]
  simp only [cond_true,h5,Option.bind_some]
  rfl
 show (∃ y,zbk EE t 0 []=some y∧q (y.1.at h.n) (h.new y.2) y.2)↔_
 rw [this]
 constructor
 ·rintro ⟨y,h9,h10⟩; cases h9; exact h10
 ·intro h9; exact ⟨_,rfl,h9⟩
theorem del_one {N:Nat} {h:Hp} {v:V} {el sz len:Nat} {cs:List V} (o:Own N h v el sz len cs) {t:Nat} (ht:IsSl EE t el) {z:List V} {ag:Bool} (he:El EE el sz z ag) (hw:zh cs=true) {k:Nat} (hk:k < len) (hlen:len≤1000000) {q:V→Hp→Prop}
  (hq:∀ v' h',Own h.n h' v' el sz (len - 1) (cs.take (k * sz)++cs.drop ((k+1) * sz))→Ext h.n h h'→q v' h'):
  (Pu EE).bsl h t 0 [] fun x1 h1 _=>(Pu EE).slice t v none (some (.int .i64 k)) none fun x2=>(Pu EE).ebui h1 #[t,t] .append [x1,x2] fun x3 h2=>(Pu EE).bin .add 3 false true (.int .i64 k) (.int .i64 1) fun x4=>(Pu EE).slice t v (some x4) none none fun x5=>(Pu EE).ebui h2 #[t,t] .append [x3,x5] q:=by
 rw [pu_bsl0 ht he]
 obtain ⟨h1,hh1⟩:∃ h1,h1=h.new (.cells [] el false):=⟨_,rfl⟩
 rw [← hh1]
 have n1:h1.n=h.n+1:=by rw [hh1]; rfl
 have x1:Ext h.n h h1:=by rw [hh1]; exact Ext.new (Nat.le_refl _) _
 have o1:Own h.n h1 (.sl h.n 0 0 0) el sz 0 []:=⟨by simp,.inr ⟨h.n,Nat.le_refl _,by omega,by rw [hh1,Hp.get_new,if_pos rfl],.inr rfl⟩⟩
 obtain ⟨u,c1,c2,c3,_,_⟩:=cut_sub (o.rd.ext x1 o.in_) o.fits.1 ht he o.fits.2 (lo:=none) (hi:=some (.int .i64 (k:Nat))) (a:=0) (b:=k) (by omega) (by omega) fun cap hcap=>bounds_to _ _ cap _ (by omega)
 rw [c1]
 have hcs:=o.sized
 have hmk:k * sz≤len * sz:=Nat.mul_le_mul_right _ (by omega)
 have hmk2:(k+1) * sz≤len * sz:=Nat.mul_le_mul_right _ (by omega)
 have sub_c:∀ l:List V,(∀ x ∈ l,x ∈ cs)→zh l=true:=fun l hl=>zU.2 fun x hx=>zU.1 hw x (hl x hx)
 simp only [Nat.zero_mul,List.drop_zero,Nat.sub_zero] at c2
 refine app_all o1 ht he c2 (sub_c _ fun x hx=>List.mem_of_mem_take hx) (by omega) (by omega) fun v2 h2 o2 x2 f2 _=>?_
 have n2:=x2.n
 have x2':Ext h.n h h2:=x1.trans x2
 rw [zK _ _ _ _ (by omega)]
 obtain ⟨u3,d1,d2,d3,_,_⟩:=cut_sub (o.rd.ext x2' o.in_) o.fits.1 ht he o.fits.2 (lo:=some (.int .i64 ((k+1:Nat):Int))) (hi:=none) (a:=k+1) (b:=len) (by omega) (by omega) fun cap hcap=>bounds_from _ _ cap _ (by omega)
 rw [d1]
 have e1:(cs.drop ((k+1) * sz)).take ((len - (k+1)) * sz)=cs.drop ((k+1) * sz):=by
  apply List.take_of_length_le
  rw [List.length_drop,hcs,Nat.sub_mul]
  omega
 rw [e1] at d2
 refine app_all o2 ht he d2 (sub_c _ fun x hx=>List.mem_of_mem_drop hx) (by omega) (by omega) fun v4 h4 o4 x4 _ _=>hq v4 h4 ?_ (x2'.trans x4)
 rw [List.nil_append,show 0+k+(len - (k+1))=len - 1 by omega] at o4
 exact o4
theorem spCs_take:∀ (l:List Spt) (k:Nat),(spCs l).take (k * 3)=spCs (l.take k)
 | [],k=>by simp [spCs]
 | a::l,0=>by simp [spCs]
 | a::l,k+1=>by
  have e:(k+1) * 3=3+k * 3:=by omega
  rw [e,List.take_succ_cons]
  show (spC a++spCs l).take (3+k * 3)=spC a++spCs (l.take k)
  rw [← spCs_take l k,List.take_append]
  congr 1
  ·exact List.take_of_length_le (by simp [spC])
  ·congr 1
   simp [spC]
theorem spCs_drop:∀ (l:List Spt) (k:Nat),(spCs l).drop (k * 3)=spCs (l.drop k)
 | [],k=>by simp [spCs]
 | a::l,0=>by simp
 | a::l,k+1=>by
  have e:(k+1) * 3=3+k * 3:=by omega
  rw [e,List.drop_succ_cons,← spCs_drop l k,← List.drop_drop]
  rfl
theorem spCs_del (l:List Spt) (k:Nat):(spCs l).take (k * 3)++(spCs l).drop ((k+1) * 3)=spCs (l.take k++l.drop (k+1)):=by rw [spCs_take,spCs_drop,spCs_app]
theorem erase_at:∀ {l:List Spt} {k:Nat} (hd:l.Nodup) (hk:k < l.length),l.erase l[k]=l.take k++l.drop (k+1)
 | [],k,_,hk=>by simp at hk
 | a::l,0,_,_=>by simp
 | a::l,k+1,hd,hk=>by
  have h1:=List.nodup_cons.1 hd
  simp only [List.length_cons] at hk
  have hne:a ≠ l[k]:=fun e=>h1.1 (e ▸ List.getElem_mem _)
  simp only [List.getElem_cons_succ,List.take_succ_cons,List.drop_succ_cons,List.cons_append]
  rw [List.erase_cons_tail (by simpa using hne),erase_at h1.2 (by omega)]
section
variable (Q:V→Hp→Prop) (nd:Spt→List Spt) (B:Nat) (hB:Hp) (F:List Spt) (hF:F.length≤100000) (hnl:∀ s ∈ F,(nd s).length≤100000)
structure LS (h:Hp) (v4 v5 v10:V) (l out:List Spt) (ws:List V):Prop where
 left:OwnS 0 h v4 l
 needs:Own 0 h v5 32 1 l.length ws
 wc:zh ws=true
 el:∀ (k:Nat) (s:Spt) (w:V),l[k]? = some s→ws[k]? = some w→Sps h w (nd s)∧In B w
 own:OwnS B h v10 out
 sep:∀ c,zI v10=some c→zI v4 ≠ some c∧zI v5 ≠ some c
 n:B≤h.n
 ext:Ext B hB h
 sub:l.Sublist F
 fit:out.length+l.length≤100000
include hF hnl
theorem order_loop (hnd:F.Nodup) (hq:∀ (v10 v4:V) (h:Hp) (O C:List Spt),OwnS B h v10 O→OwnS 0 h v4 C→Ext B hB h→(O,C)=zbp nd F.length F→Q (.tup [v10,v4]) h):
  ∀ (m:Nat) (l out:List Spt) (ws:List V) (h:Hp) (v4 v5 v10:V),l.length=m→LS nd B hB F h v4 v5 v10 l out ws→(out++(zbp nd l.length l).1,(zbp nd l.length l).2)=zbp nd F.length F→ziP Q v4 v5 v10 h:=by
 intro m
 induction m using Nat.strongRecOn with
 | ind m ih=>
 intro l out ws h v4 v5 v10 hm S hres
 apply r_r7_Order_2
 unfold zjj
 have hln:l.length≤100000:=Nat.le_trans S.sub.length_le hF
 have hwl:ws.length=l.length:=by have:=S.needs.sized; omega
 have key:∀ (d k:Nat),l.length - k=d→k≤l.length→∀ hh:Hp,LS nd B hB F hh v4 v5 v10 l out ws→(∀ j (hj:j < k) (hjl:j < l.length),waits (nd l[j]) l=true)→L_r7_Order_3 Q v4 v5 v10 (.int .i64 k) hh:=by
  intro d
  induction d with
  | zero=>
   intro k hd hk hh S hw
   have hkl:k=l.length:=by omega
   apply r_r7_Order_3
   unfold zgA
   rw [zp S.left.sps zg,zr,decide_eq_false (by omega:¬ k < l.length)]
   simp only [zS,pu_geff_ft,zo,zb]
   rw [zp S.left.sps zg,eqlN,decide_eq_true hkl,zc]
   have hp:pickR nd l=none:=by
    unfold pickR
    rw [List.find?_eq_none]
    intro s hs
    obtain ⟨j,hj,e⟩:=List.getElem_of_mem hs
    have:=hw j (by omega) hj
    rw [e] at this
    simp [this]
   rw [zc8 hp] at hres
   exact hq v10 v4 hh out l S.own S.left S.ext (by rw [← hres]; simp)
  | succ d ihd=>
   intro k hd hk hh S hw
   have hkl:k < l.length:=by omega
   apply r_r7_Order_3
   unfold zgA
   rw [zp S.left.sps zg,zr,decide_eq_true hkl]
   simp only [zu,ze9,zB]
   obtain ⟨w,hwk⟩:∃ w,ws[k]? = some w:=⟨_,List.getElem?_eq_getElem (by omega)⟩
   obtain ⟨hel,hin⟩:=S.el k l[k] w (List.getElem?_eq_getElem hkl) hwk
   obtain ⟨b1,o1,g1,g2,_⟩:=zde S.needs.rd zcY zfD hwk
   rw [g1,g2]
   refine (waits_ok hh w v4 (nd l[k]) l hel S.left.sps (Nat.lt_of_le_of_lt (hnl _ (S.sub.mem (List.getElem_mem _))) (by omega)) (by omega)).mono ?_
   rintro y h2 ⟨rfl,rfl⟩
   cases hwt:waits (nd l[k]) l with
   | true=>
    rw [zc,zK _ _ _ _ (by omega)]
    refine ihd (k+1) (by omega) (by omega) h2 S fun j hj hjl=>?_
    by_cases e:j=k
    ·subst e; exact hwt
    ·exact hw j (by omega) hjl
   | false=>
    rw [zb,zp S.left.sps zg,eqlN,decide_eq_false (by omega:¬ k=l.length),zb]
    obtain ⟨b2,o2,g3,g4,_⟩:=zaT S.left.sps zg zf (List.getElem?_eq_getElem hkl)
    rw [g3,g4]
    have hfit:=S.fit
    refine zcg S.own l[k] (by omega) S.n _ fun v11 h3 o3 x3 f3 b3=>?_
    have n3:=x3.n
    have k4:OwnS 0 h3 v4 l:=S.left.keep x3.n fun c hc=>f3 c (S.left.in_ c hc) fun e=>(S.sep c e).1 hc
    have k5:Own 0 h3 v5 32 1 l.length ws:=S.needs.keep x3.n fun c hc=>f3 c (S.needs.in_ c hc) fun e=>(S.sep c e).2 hc
    refine del_one k4 zg zf (spCs_cells l) hkl (by omega) fun v12 h4 o4 x4=>?_
    have n4:=x4.n
    rw [spCs_del] at o4
    refine del_one (k5.keep x4.n fun c hc=>x4.old c (k5.in_ c hc)) zcY zfD S.wc hkl (by omega) fun v13 h5 o5 x5=>?_
    have n5:=x5.n
    rw [Nat.mul_one,Nat.mul_one] at o5
    have hnl2:l.Nodup:=hnd.sublist S.sub
    have hlen':(l.take k++l.drop (k+1)).length=l.length - 1:=by simp; omega
    have hpick:pickR nd l=some l[k]:=by
     unfold pickR
     refine List.find?_eq_some_iff_getElem.2 ⟨by simp [hwt],k,hkl,rfl,fun j hj=>?_⟩
     have:=hw j hj (by omega)
     simp [this]
    have her:=erase_at hnl2 hkl
    refine ih (l.length - 1) (by omega) (l.take k++l.drop (k+1)) (out++[l[k]]) (ws.take k++ws.drop (k+1)) h5 v12 v13 v11 hlen' ⟨?_,?_,?_,?_,?_,?_,by have:=S.n; omega,S.ext.trans (x3.trans ((x4.mono (by have:=S.n; omega)).trans (x5.mono (by have:=S.n; omega)))),?_,?_⟩ ?_
    ·have o4':OwnS h3.n h4 v12 (l.take k++l.drop (k+1)):=by
      show Own _ _ _ _ _ (l.take k++l.drop (k+1)).length _
      rw [hlen']; exact o4
     exact (o4'.keep x5.n fun c hc=>x5.old c (o4'.in_ c hc)).mono (by omega)
    ·rw [hlen']; exact o5.mono (by omega)
    ·refine zU.2 fun x hx=>zU.1 S.wc x ?_
     rcases List.mem_append.1 hx with hx | hx
     ·exact List.mem_of_mem_take hx
     ·exact List.mem_of_mem_drop hx
    ·intro j s u hs hu
     have hj:∃ j':Nat,l[j']? = some s∧ws[j']? = some u:=by
      by_cases hjk:j < k
      ·refine ⟨j,?_,?_⟩
       ·rw [List.getElem?_append_left (by simp; omega),List.getElem?_take_of_lt hjk] at hs; exact hs
       ·rw [List.getElem?_append_left (by simp; omega),List.getElem?_take_of_lt hjk] at hu; exact hu
      ·refine ⟨j+1,?_,?_⟩
       ·rw [List.getElem?_append_right (by simp; omega),List.getElem?_drop] at hs
        rw [← hs]; congr 1; simp; omega
       ·rw [List.getElem?_append_right (by simp; omega),List.getElem?_drop] at hu
        rw [← hu]; congr 1; simp; omega
     obtain ⟨j',h6,h7⟩:=hj
     obtain ⟨h8,h9⟩:=S.el j' s u h6 h7
     exact ⟨h8.ext (x3.trans ((x4.mono (by have:=S.n; omega)).trans (x5.mono (by have:=S.n; omega)))) h9,h9⟩
    ·have o3':=o3.keep x4.n fun c hc=>x4.old c (o3.in_ c hc)
     exact o3'.keep x5.n fun c hc=>x5.old c (o3'.in_ c hc)
    ·intro c hc
     have hc3:c < h3.n:=o3.in_ c hc
     refine ⟨fun e=>?_,fun e=>?_⟩
     ·have:=o4.ge c e; omega
     ·have:=o5.ge c e; omega
    ·exact ((List.erase_sublist (a:=l[k])).trans S.sub |> fun q=>by rw [her] at q; exact q)
    ·rw [List.length_append,hlen']; simp; omega
    ·rw [hlen',← her,← hres]
     obtain ⟨f,hf⟩:∃ f,l.length=f+1:=⟨l.length - 1,by omega⟩
     rw [hf,zf3 hpick,Nat.add_sub_cancel]
     simp
 exact key l.length 0 (by omega) (by omega) h S fun j hj=>absurd hj (by omega)
end
end
end Go.Proofs.YtbchdlelmkmagaaGreatDoor.VM
namespace Go.Proofs.YtbchdlelmkmagaaGreatDoor.VM
open Go
set_option linter.unusedVariables false
set_option linter.unusedSectionVars false
set_option linter.unusedSimpArgs false
set_option maxRecDepth 20000
noncomputable section
attribute [local instance] syZ
theorem append_sl {N:Nat} {h:Hp} {v:V} {len:Nat} {ws:List V} (o:Own N h v 32 1 len ws) (w:V) (hc:C1 w) (hlen:len+1≤1048576) (hN:N≤h.n) (q:V→Hp→Prop)
  (hq:∀ v' h',Own N h' v' 32 1 (len+1) (ws++[w])→Ext N h h'→(∀ c,c < h.n→zI v ≠ some c→h'.t.get c=h.t.get c)→(∀ c,zI v'=some c→zI v=some c∨h.n≤c)→q v' h'):
  (Pu EE).bsl h 81 1 [(0,w)] fun x h1 _=>(Pu EE).ebui h1 #[81,81] .append [v,x] q:=by
 rw [zcL zcY zfD _ (by rw [hc.1]; rfl) (by omega)]
 have o1:Own N (h.new (.cells w.cells 32 false)) v 32 1 len ws:=o.keep (Nat.le_succ _) (fun c hc=>by rw [Hp.get_new,if_neg (Nat.ne_of_lt (o.in_ c hc))])
 refine app_all o1 zcY zfD (zfu (h:=h) (e:=32) (ws:=w.cells) (by rw [hc.1]; rfl)).rd (by rw [hc.1]; simp [zh,hc.2]) hlen (Nat.le_succ_of_le hN) fun v' h' o2 x2 f2 b2=>hq v' h' ?_ ((Ext.new hN _).trans x2) (fun c hc hne=>?_) (fun c hc=>?_)
 ·rw [hc.1] at o2; exact o2
 ·rw [f2 c (Nat.lt_succ_of_lt hc) hne,Hp.get_new,if_neg (Nat.ne_of_lt hc)]
 ·rcases b2 c hc with h6 | h6
  ·exact .inl h6
  ·exact .inr (Nat.le_of_succ_le h6)
def hasF (bk:Bok) (s:Spt):Bool:=(zg3 (getC bk s)).isSome
def zt (bk:Bok):List Spt:=(zJ bk).filter (hasF bk)
theorem ndR_len {bk:Bok} (g:Good bk) (s:Spt):(ndR bk s).length≤100000:=Nat.le_trans (List.length_filter_le _ _) g.fit.spots
theorem zcE {bk:Bok} (g:Good bk):(zt bk).length≤100000:=Nat.le_trans (List.length_filter_le _ _) g.fit.spots
theorem fCells_ris {bk:Bok} (g:Good bk):Ris (zt bk):=(zgN g.ris).sub List.filter_sublist
structure OB (bk:Bok) (N:Nat) (h0 h:Hp) (v4 v5:V) (acc:List Spt) (ws:List V):Prop where
 left:OwnS N h v4 acc
 needs:Own N h v5 32 1 acc.length ws
 wc:zh ws=true
 el:∀ (k:Nat) (s:Spt) (w:V),acc[k]? = some s→ws[k]? = some w→Sps h w (ndR bk s)∧In h.n w∧∀ c,zI w=some c→zI v4 ≠ some c∧zI v5 ≠ some c
 sep:∀ c,zI v4=some c→zI v5 ≠ some c
 n:N≤h.n
 ext:Ext N h0 h
theorem OB.keep {bk:Bok} {N:Nat} {h0 h h':Hp} {v4 v5:V} {acc:List Spt} {ws:List V} (S:OB bk N h0 h v4 v5 acc ws) (x:Ext h.n h h'):OB bk N h0 h' v4 v5 acc ws:=
 ⟨S.left.keep x.n fun c hc=>x.old c (S.left.in_ c hc),S.needs.keep x.n fun c hc=>x.old c (S.needs.in_ c hc),S.wc,fun k s w h1 h2=>by
  obtain ⟨a,b,c⟩:=S.el k s w h1 h2
  exact ⟨a.ext x b,b.mono x.n,c⟩,S.sep,Nat.le_trans S.n x.n,S.ext.trans (x.mono S.n)⟩
theorem build_loop (Q:V→Hp→Prop) (M N b:Nat) (h0:Hp) (sv av:V) (bk:Bok) (g:Good bk) (hN0:N=h0.n) (hM:M≤N) (hb:b < N) (hbox:h0.t.get b=some (.cells [sv] 26 false)) (hs:zdB M h0 sv bk) (hav:Sps h0 av (zJ bk)) (hai:In N av)
  (hq:∀ (h:Hp) (v4 v5:V) (ws:List V),OB bk N h0 h v4 v5 (zt bk) ws→ziP Q v4 v5 .nils h):
  ∀ (k i:Nat),(zJ bk).length - i=k→i≤(zJ bk).length→∀ (h:Hp) (v4 v5:V) (acc:List Spt) (ws:List V),OB bk N h0 h v4 v5 acc ws→acc=((zJ bk).take i).filter (hasF bk) →
   L_r7_Order_1 Q (.ptr b 0) v4 v5 av (.int .i64 i) h:=by
 have hfit:=g.fit.spots
 intro k
 induction k with
 | zero=>
  intro i hk hi h v4 v5 acc ws S ha
  apply r_r7_Order_1
  unfold zgD
  rw [zp (hav.ext S.ext hai) zg,zr,zi]
  refine ⟨fun h1=>absurd h1 (by omega),fun _=>?_⟩
  rw [List.take_of_length_le (by omega)] at ha
  subst ha
  exact hq h v4 v5 ws S
 | succ k ih=>
  intro i hk hi h v4 v5 acc ws S ha
  apply r_r7_Order_1
  unfold zgD
  rw [zp (hav.ext S.ext hai) zg,zr,zi]
  refine ⟨fun h1=>?_,fun h1=>absurd (by omega) h1⟩
  have hbx:∀ h':Hp,Ext N h0 h'→h'.t.get b=some (.cells [sv] 26 false):=fun h' x=>by rw [x.old b hb]; exact hbox
  obtain ⟨s,hse⟩:∃ s,s=(zJ bk)[i]:=⟨_,rfl⟩
  have hsi:(zJ bk)[i]? = some s:=by rw [hse]; exact List.getElem?_eq_getElem h1
  have hbk:∀ h':Hp,Ext N h0 h'→zir M h' (.agg [sv]) bk:=fun h' x=>⟨sv,rfl,hs.ext (x.mono hM)⟩
  rw [zd zy (hbx h S.ext) (l:=[sv]) rfl]
  obtain ⟨b1,o1,g1,g2,_⟩:=zaT (hav.ext S.ext hai) zg zf hsi
  rw [g1,g2]
  have hal:acc.length≤i:=by
   rw [ha]
   have:=List.length_filter_le (hasF bk) ((zJ bk).take i)
   have:=List.length_take_le i (zJ bk)
   omega
  have hsn:=S.n
  refine (rget_ok M h _ bk s (hbk h S.ext) (by omega) g.fit.len).mono ?_
  rintro y h2 ⟨rfl,hx2⟩
  have n2:=hx2.n
  have ht:=g.get s
  refine (rform_ok ht h2).mono ?_
  rintro y h3 ⟨hx3,hp⟩
  have n3:=hx3.n
  have x3:Ext h.n h h3:=hx2.trans (hx3.mono n2)
  have S3:=S.keep x3
  have hfil:((zJ bk).take (i+1)).filter (hasF bk)=acc++(if hasF bk s then [s] else []):=by
   rw [take_snocS h1,List.filter_append,← ha,← hse]
   congr 1
   by_cases q:hasF bk s=true <;> simp [q]
  cases hf:zg3 (getC bk s) with
  | none=>
   rw [hf] at hp
   simp only at hp
   subst hp
   rw [zao,zam,zb,zK _ _ _ _ (by omega)]
   refine ih (i+1) (by omega) (by omega) h3 v4 v5 acc ws S3 ?_
   rw [hfil]
   unfold hasF
   rw [hf]
   simp
  | some ds=>
   rw [hf] at hp
   obtain ⟨nv,ds',rfl,hnd,hlen,hrc⟩:=hp
   rw [zao,zam,zc]
   obtain ⟨b2,o2,g3,g4,_⟩:=zaT (hav.ext S3.ext hai) zg zf hsi
   rw [g3,g4]
   refine zcg S3.left s (by omega) S3.n _ fun v6 h4 o4 x4 f4 b4=>?_
   have n4:=x4.n
   have hs3n:=S3.n
   have xh4:Ext N h0 h4:=S3.ext.trans x4
   have k5:Own N h4 v5 32 1 acc.length ws:=S3.needs.keep x4.n fun c hc=>f4 c (S3.needs.in_ c hc) fun e=>S3.sep c e hc
   have e4:∀ (k:Nat) (s:Spt) (w:V),acc[k]? = some s→ws[k]? = some w→Sps h4 w (ndR bk s)∧In h3.n w∧∀ c,zI w=some c→zI v6 ≠ some c∧zI v5 ≠ some c:=fun k s' w q1 q2=>by
    obtain ⟨a1,a2,a3⟩:=S3.el k s' w q1 q2
    refine ⟨?_,a2,fun c hc=>⟨fun e=>?_,(a3 c hc).2⟩⟩
    ·refine ⟨a1.sized,a1.at_.imp id ?_⟩
     rintro ⟨bb,off,vs,r1,r2,r3⟩
     refine ⟨bb,off,vs,?_,r2,r3⟩
     have hbb:zI w=some bb:=by rcases r3 with ⟨c,rfl⟩ | ⟨lo,z,rfl⟩ <;> rfl
     unfold zas at r1 ⊢
     rw [f4 bb (a2 bb hbb) (a3 bb hbb).1]
     exact r1
    ·rcases b4 c e with q | q
     ·exact (a3 c hc).1 q
     ·have:=a2 c hc; omega
   rw [zd zy (hbx h4 xh4) (l:=[sv]) rfl]
   obtain ⟨b3,o3,g5,g6,_⟩:=zaT (hav.ext xh4 hai) zg zf hsi
   rw [g5,g6]
   refine (rneeds_ok M h4 _ bk s (hbk h4 xh4) (by omega) g).mono ?_
   rintro w h5 ⟨o5,x5⟩
   have n5:=x5.n
   have k5':=k5.keep x5.n fun c hc=>x5.old c (k5.in_ c hc)
   refine append_sl k5' w o5.rd.c1 (by omega) (by omega) _ fun v7 h6 o6 x6 f6 b6=>?_
   have n6:=x6.n
   rw [zK _ _ _ _ (by omega)]
   have hwl:ws.length=acc.length:=by have:=S.needs.sized; omega
   have hl4:v6=v6:=rfl
   have o4':=o4.keep x5.n fun c hc=>x5.old c (o4.in_ c hc)
   have sep65:∀ c,zI v6=some c→zI v5 ≠ some c:=fun c hc e=>by
    rcases b4 c hc with q | q
    ·exact S3.sep c q e
    ·have:=S3.needs.in_ c e; omega
   refine ih (i+1) (by omega) (by omega) h6 v6 v7 (acc++[s]) (ws++[w]) ⟨?_,?_,?_,?_,?_,by omega,xh4.trans ((x5.mono (by omega)).trans x6)⟩ ?_
   ·exact o4'.keep x6.n fun c hc=>f6 c (o4'.in_ c hc) fun e=>sep65 c hc e
   ·rw [List.length_append]; exact o6
   ·refine zU.2 fun x hx=>?_
    rcases List.mem_append.1 hx with hx | hx
    ·exact zU.1 S.wc x hx
    ·rw [List.mem_singleton.1 hx]; exact o5.rd.c1.2
   ·intro j s' u hsj huj
    by_cases hj:j < acc.length
    ·rw [List.getElem?_append_left hj] at hsj
     rw [List.getElem?_append_left (by omega)] at huj
     obtain ⟨a1,a2,a3⟩:=e4 j s' u hsj huj
     refine ⟨?_,a2.mono (by omega),fun c hc=>⟨(a3 c hc).1,fun e=>?_⟩⟩
     ·refine ⟨a1.sized,a1.at_.imp id ?_⟩
      rintro ⟨bb,off,vs,r1,r2,r3⟩
      refine ⟨bb,off,vs,?_,r2,r3⟩
      have hbb:zI u=some bb:=by rcases r3 with ⟨c,rfl⟩ | ⟨lo,z,rfl⟩ <;> rfl
      have hbn:=a2 bb hbb
      unfold zas at r1 ⊢
      rw [f6 bb (by omega) (a3 bb hbb).2,x5.old bb (by omega)]
      exact r1
     ·rcases b6 c e with q | q
      ·exact (a3 c hc).2 q
      ·have:=a2 c hc; omega
    ·rw [List.getElem?_append_right (by omega)] at hsj huj
     have hj0:j - acc.length=0:=by
      have:=(List.getElem?_eq_some_iff.1 hsj).1
      simp at this; omega
     rw [hj0] at hsj
     rw [hwl,hj0] at huj
     simp only [List.getElem?_cons_zero,Option.some.injEq] at hsj huj
     subst hsj; subst huj
     have hsp:=o5.sps
     have hiw:=o5.in_
     have hge:=o5.ge
     refine ⟨?_,hiw.mono n6,fun c hc=>⟨fun e=>?_,fun e=>?_⟩⟩
     ·refine ⟨hsp.sized,hsp.at_.imp id ?_⟩
      rintro ⟨bb,off,vs,r1,r2,r3⟩
      refine ⟨bb,off,vs,?_,r2,r3⟩
      have hbb:zI w=some bb:=by rcases r3 with ⟨c,rfl⟩ | ⟨lo,z,rfl⟩ <;> rfl
      have hbn:=hiw bb hbb
      have hbg:=hge bb hbb
      unfold zas at r1 ⊢
      rw [f6 bb hbn fun e=>by have:=k5.in_ bb e; omega]
      exact r1
     ·have:=o4.in_ c e; have:=hge c hc; omega
     ·rcases b6 c e with q | q
      ·have:=k5.in_ c q; have:=hge c hc; omega
      ·have:=hiw c hc; omega
   ·intro c hc e
    rcases b6 c e with q | q
    ·exact sep65 c hc q
    ·have:=o4'.in_ c hc; omega
   ·rw [hfil]
    unfold hasF
    rw [hf]
    simp
theorem rorder_own (M:Nat) (h:Hp) (v:V) (bk:Bok) (hv:zir M h v bk) (hM:M≤h.n) (g:Good bk):
  Ans EE 22 [v] h fun x h'=>∃ ov cv,x=.tup [ov,cv]∧OwnS 0 h' ov (zbp (ndR bk) (zt bk).length (zt bk)).1∧OwnS 0 h' cv (zbp (ndR bk) (zt bk).length (zt bk)).2∧Ext h.n h h':=by
 have hv0:=hv
 obtain ⟨sv,rfl,hs⟩:=hv
 obtain ⟨cs,hrd⟩:=hs.rd
 have hcell:zh [sv]=true:=by have:=hrd.c1; simp [zh,this.2]
 apply a_r7_Order
 unfold zi4
 refine zW (cs:=[sv]) hcell fun h1 b w=>?_
 have n1:=w.n
 have e1:=w.b
 have hx:=w.ext (Nat.le_refl h.n)
 rw [zd zy w.at_ (l:=[sv]) rfl]
 refine (all_ok M h1 _ bk (hv0.ext (hx.mono hM)) (by omega) g.fit).mono ?_
 rintro av h2 ⟨o2,x2⟩
 have n2:=x2.n
 have hx2:Ext h.n h h2:=hx.trans (x2.mono (by omega))
 refine build_loop _ M h2.n b h2 sv av bk g rfl (by omega) (by omega) (by rw [x2.old b (by omega)]; exact w.at_) (hs.ext (hx2.mono hM)) o2.sps o2.in_ (fun h3 v4 v5 ws S=>?_) _ 0 rfl (by omega) h2 .nils .nils [] []
  ⟨OwnS.nil _ _,Own.nil _ _ _ _,rfl,fun k s w q=>(by simp at q),fun c q=>(by cases q),Nat.le_refl _,Ext.refl _ _⟩ (by simp)
 have hsn:=S.n
 refine order_loop _ (ndR bk) h3.n h3 (zt bk) (zcE g) (fun s _=>ndR_len g s) (fCells_ris g).nodup (fun v10 v4 h4 O C k1 k2 k3 k4=>?_) _ (zt bk) [] ws h3 v4 v5 .nils rfl
  ⟨S.left.mono (Nat.zero_le _),S.needs.mono (Nat.zero_le _),S.wc,fun k s w q1 q2=>⟨(S.el k s w q1 q2).1,(S.el k s w q1 q2).2.1⟩,OwnS.nil _ _,fun c q=>(by cases q),Nat.le_refl _,Ext.refl _ _,List.Sublist.refl _,by simp; exact zcE g⟩ (by simp)
 have hO:O=(zbp (ndR bk) (zt bk).length (zt bk)).1:=by rw [← k4]
 have hC:C=(zbp (ndR bk) (zt bk).length (zt bk)).2:=by rw [← k4]
 rw [← hO,← hC]
 exact ⟨v10,v4,rfl,k1.mono (Nat.zero_le _),k2,hx2.trans ((S.ext.mono (by omega)).trans (k3.mono (by omega)))⟩
end
end Go.Proofs.YtbchdlelmkmagaaGreatDoor.VM
namespace Go.Proofs.YtbchdlelmkmagaaGreatDoor.VM
open Go
set_option linter.unusedVariables false
set_option maxRecDepth 100000
noncomputable section
noncomputable def c_book_May:Code:=match Tryz.f16.body with | some c=>c | none=>.skip
noncomputable def zfM:Fl:=⟨Tryz.f16,c_book_May,[([false,true,false,true,true],[1,10,11,12])]⟩
abbrev zje (Q:QQ) (v1 v10 v11 v12:V) (h:Hp):Prop:=zfM.L EE Q 1 [v1,v10,v11,v12] h
noncomputable def zjb (p:Pr) (l:LL) (Q:QQ) (v0:V) (h:Hp):Prop:=
 p.box h 26 v0 fun x1 h2 b3=>
 p.faddr 26 x1 0 fun x4=>
 p.load h2 24 x4 fun x5=>
 p.lbui h2 #[24] .len [x5] fun x6=>
 p.bin .gtr 3 false true x6 (.int .i64 5) fun x7=>
 p.cond x7
 (fun _=>
  Q (.bool false) h2)
 (fun _=>
  p.faddr 26 x1 0 fun x8=>
  p.load h2 24 x8 fun x9=>
  p.lbui h2 #[24] .len [x9] fun x10=>
  l 1 [x1,x9,x10,(.int .i64 0)] h2)
theorem q_book_May_0 (p:Pr) (l:LL) (Q:QQ) (v0:V) (h:Hp):zjb p l Q v0 h=zfM.K p EE l Q [] ([v0]++List.replicate 36 zj) h:=by kernel_rfl
theorem a_book_May {Q:QQ} {v0:V} {h:Hp} (H:zjb (Pu EE) (zfM.L EE Q) Q v0 h):Ans EE 16 [v0] h Q:=
 ansL (F:=zfM) (by kernel_rfl) (by kernel_rfl) (by kernel_rfl) (by kernel_rfl) (cast (q_book_May_0 _ _ _ v0 h) H)
noncomputable def zgJ (p:Pr) (l:LL) (Q:QQ) (v1 v10 v11 v12:V) (h:Hp):Prop:=
 p.bin .lss 3 false false v12 v11 fun x1=>
 p.cond x1
 (fun _=>
  p.iaddr 24 v10 v12 fun x2=>
  p.load h 38 x2 fun x3=>
  p.alloc h 38 fun x4 h5 b6=>
  p.store h5 38 x4 x3 fun h7=>
  p.bin .gtr 3 false true v12 (.int .i64 0) fun x8=>
  p.gval x8 true (fun k9=>
  p.faddr 26 v1 0 fun x10=>
  k9 x10) fun x11=>
  p.gval x8 true (fun k12=>
  p.load h7 24 x11 fun x13=>
  k12 x13) fun x14=>
  p.gval x8 true (fun k15=>
  k15 v12) fun x16=>
  p.gval x8 true (fun k17=>
  p.bin .sub 3 false true x16 (.int .i64 1) fun x18=>
  k17 x18) fun x19=>
  p.gval x8 true (fun k20=>
  p.iaddr 24 x14 x19 fun x21=>
  k20 x21) fun x22=>
  p.gval x8 true (fun k23=>
  p.faddr 38 x22 0 fun x24=>
  k23 x24) fun x25=>
  p.gval x8 true (fun k26=>
  p.load h7 9 x25 fun x27=>
  k26 x27) fun x28=>
  p.gval x8 true (fun k29=>
  p.faddr 38 x4 0 fun x30=>
  k29 x30) fun x31=>
  p.gval x8 true (fun k32=>
  p.load h7 9 x31 fun x33=>
  k32 x33) fun x34=>
  p.gval x8 true (fun k35=>
  p.bin .geq 9 false false x28 x34 fun x36=>
  k35 x36) fun x37=>
  p.pick x8 (some x37) (some (.bool false)) fun x38=>
  p.gval x38 false (fun k39=>
  p.load h7 38 x4 fun x40=>
  k39 x40) fun x41=>
  p.geff x38 false (fun k42=>
  p.call 40 [x41] h7 fun x43 h44=>
  k42 x43 h44) h7 fun x45 h46=>
  p.gval x38 false (fun k47=>
  p.un .not x45 fun x48=>
  k47 x48) fun x49=>
  p.pick x38 (some (.bool true)) (some x49) fun x50=>
  p.cond x50
  (fun _=>
  Q (.bool false) h46)
  (fun _=>
  p.bin .add 3 false true v12 (.int .i64 1) fun x51=>
  l 1 [v1,v10,v11,x51] h46))
 (fun _=>
  Q (.bool true) h)
theorem q_book_May_1 (p:Pr) (l:LL) (Q:QQ) (s:List V) (h:Hp):zgJ p l Q (nth s 1) (nth s 10) (nth s 11) (nth s 12) h=zfM.K p EE l Q [true,true,false,true,false] (nths s 37 0) h:=by kernel_rfl
theorem r_book_May_1 {Q:QQ} {v1 v10 v11 v12:V} {h:Hp} (H:zgJ (Pu EE) (zfM.L EE Q) Q v1 v10 v11 v12 h):zje Q v1 v10 v11 v12 h:=
 labR (path:=[true,true,false,true,false]) rfl rfl fun s e=>by cases e; exact cast (q_book_May_1 _ _ _ s h) H
noncomputable def c_book_maySheet:Code:=match Tryz.f40.body with | some c=>c | none=>.skip
noncomputable def zaW:Fl:=⟨Tryz.f40,c_book_maySheet,[([false,true,false,true,true],[1,28,29,30]),([false,true,true,true,false,false,true,true,false,false,true,false,true,true],[1,28,29,30,39,40,41])]⟩
abbrev zeF (Q:QQ) (v1 v28 v29 v30:V) (h:Hp):Prop:=zaW.L EE Q 1 [v1,v28,v29,v30] h
abbrev zhB (Q:QQ) (v1 v28 v29 v30 v39 v40 v41:V) (h:Hp):Prop:=zaW.L EE Q 2 [v1,v28,v29,v30,v39,v40,v41] h
noncomputable def zeD (p:Pr) (l:LL) (Q:QQ) (v0:V) (h:Hp):Prop:=
 p.box h 38 v0 fun x1 h2 b3=>
 p.faddr 38 x1 0 fun x4=>
 p.load h2 9 x4 fun x5=>
 p.call 72 [x5] h2 fun x6 h7=>
 p.un .not x6 fun x8=>
 p.gval x8 false (fun k9=>
  p.faddr 38 x1 1 fun x10=>
  k9 x10) fun x11=>
 p.gval x8 false (fun k12=>
  p.load h7 3 x11 fun x13=>
  k12 x13) fun x14=>
 p.gval x8 false (fun k15=>
  p.bin .lss 3 false true x14 (.int .i64 0) fun x16=>
  k15 x16) fun x17=>
 p.pick x8 (some (.bool true)) (some x17) fun x18=>
 p.gval x18 false (fun k19=>
  p.faddr 38 x1 1 fun x20=>
  k19 x20) fun x21=>
 p.gval x18 false (fun k22=>
  p.load h7 3 x21 fun x23=>
  k22 x23) fun x24=>
 p.gval x18 false (fun k25=>
  p.bin .gtr 3 false true x24 (.int .i64 12) fun x26=>
  k25 x26) fun x27=>
 p.pick x18 (some (.bool true)) (some x27) fun x28=>
 p.gval x28 false (fun k29=>
  p.faddr 38 x1 2 fun x30=>
  k29 x30) fun x31=>
 p.gval x28 false (fun k32=>
  p.load h7 36 x31 fun x33=>
  k32 x33) fun x34=>
 p.gval x28 false (fun k35=>
  p.lbui h7 #[36] .len [x34] fun x36=>
  k35 x36) fun x37=>
 p.gval x28 false (fun k38=>
  p.bin .gtr 3 false true x37 (.int .i64 24) fun x39=>
  k38 x39) fun x40=>
 p.pick x28 (some (.bool true)) (some x40) fun x41=>
 p.cond x41
 (fun _=>
  Q (.bool false) h7)
 (fun _=>
  p.faddr 38 x1 2 fun x42=>
  p.load h7 36 x42 fun x43=>
  p.lbui h7 #[36] .len [x43] fun x44=>
  l 1 [x1,x43,x44,(.int .i64 0)] h7)
theorem q_book_maySheet_0 (p:Pr) (l:LL) (Q:QQ) (v0:V) (h:Hp):zeD p l Q v0 h=zaW.K p EE l Q [] ([v0]++List.replicate 49 zj) h:=by kernel_rfl
theorem a_book_maySheet {Q:QQ} {v0:V} {h:Hp} (H:zeD (Pu EE) (zaW.L EE Q) Q v0 h):Ans EE 40 [v0] h Q:=
 ansL (F:=zaW) (by kernel_rfl) (by kernel_rfl) (by kernel_rfl) (by kernel_rfl) (cast (q_book_maySheet_0 _ _ _ v0 h) H)
noncomputable def zcy (p:Pr) (l:LL) (Q:QQ) (v1 v28 v29 v30:V) (h:Hp):Prop:=
 p.bin .lss 3 false false v30 v29 fun x1=>
 p.cond x1
 (fun _=>
  p.iaddr 36 v28 v30 fun x2=>
  p.load h 40 x2 fun x3=>
  p.lbui h #[40] .len [x3] fun x4=>
  p.faddr 38 v1 1 fun x5=>
  p.load h 3 x5 fun x6=>
  p.bin .neq 3 false false x4 x6 fun x7=>
  p.cond x7
  (fun _=>
  Q (.bool false) h)
  (fun _=>
  p.lbui h #[40] .len [x3] fun x8=>
  l 2 [v1,v28,v29,v30,x3,x8,(.int .i64 0)] h))
 (fun _=>
  Q (.bool true) h)
theorem q_book_maySheet_1 (p:Pr) (l:LL) (Q:QQ) (s:List V) (h:Hp):zcy p l Q (nth s 1) (nth s 28) (nth s 29) (nth s 30) h=zaW.K p EE l Q [true,true,false,true,false] (nths s 50 0) h:=by kernel_rfl
theorem zhA {Q:QQ} {v1 v28 v29 v30:V} {h:Hp} (H:zcy (Pu EE) (zaW.L EE Q) Q v1 v28 v29 v30 h):zeF Q v1 v28 v29 v30 h:=
 labR (path:=[true,true,false,true,false]) rfl rfl fun s e=>by cases e; exact cast (q_book_maySheet_1 _ _ _ s h) H
noncomputable def zcx (p:Pr) (l:LL) (Q:QQ) (v1 v28 v29 v30 v39 v40 v41:V) (h:Hp):Prop:=
 p.bin .lss 3 false false v41 v40 fun x1=>
 p.cond x1
 (fun _=>
  p.iaddr 40 v39 v41 fun x2=>
  p.load h 9 x2 fun x3=>
  p.call 47 [x3] h fun x4 h5=>
  p.un .not x4 fun x6=>
  p.cond x6
  (fun _=>
  Q (.bool false) h5)
  (fun _=>
  p.bin .add 3 false true v41 (.int .i64 1) fun x7=>
  l 2 [v1,v28,v29,v30,v39,v40,x7] h5))
 (fun _=>
  p.bin .add 3 false true v30 (.int .i64 1) fun x8=>
  l 1 [v1,v28,v29,x8] h)
theorem q_book_maySheet_2 (p:Pr) (l:LL) (Q:QQ) (s:List V) (h:Hp):zcx p l Q (nth s 1) (nth s 28) (nth s 29) (nth s 30) (nth s 39) (nth s 40) (nth s 41) h=zaW.K p EE l Q [true,true,false,true,false,false,true,true,false,false,true,true,true,false] (nths s 50 0) h:=by kernel_rfl
theorem zho {Q:QQ} {v1 v28 v29 v30 v39 v40 v41:V} {h:Hp} (H:zcx (Pu EE) (zaW.L EE Q) Q v1 v28 v29 v30 v39 v40 v41 h):zhB Q v1 v28 v29 v30 v39 v40 v41 h:=
 labR (path:=[true,true,false,true,false,false,true,true,false,false,true,true,true,false]) rfl rfl fun s e=>by cases e; exact cast (q_book_maySheet_2 _ _ _ s h) H
noncomputable def c_book_Get:Code:=match Tryz.f21.body with | some c=>c | none=>.skip
noncomputable def F_book_Get:Fl:=⟨Tryz.f21,c_book_Get,[]⟩
noncomputable def zi3 (p:Pr) (l:LL) (Q:QQ) (v0 v1:V) (h:Hp):Prop:=
 p.box h 26 v0 fun x1 h2 b3=>
 p.box h2 42 v1 fun x4 h5 b6=>
 p.load h5 26 x1 fun x7=>
 p.load h5 42 x4 fun x8=>
 p.call 49 [x7,x8] h5 fun x9 h10=>
 p.extr x9 0 fun x11=>
 p.extr x9 1 fun x12=>
 p.un .not x12 fun x13=>
 p.cond x13
 (fun _=>
  Q (.str []) h10)
 (fun _=>
  p.faddr 26 x1 0 fun x14=>
  p.load h10 24 x14 fun x15=>
  p.iaddr 24 x15 x11 fun x16=>
  p.faddr 38 x16 2 fun x17=>
  p.load h10 36 x17 fun x18=>
  p.faddr 42 x4 1 fun x19=>
  p.load h10 3 x19 fun x20=>
  p.iaddr 36 x18 x20 fun x21=>
  p.load h10 40 x21 fun x22=>
  p.faddr 42 x4 2 fun x23=>
  p.load h10 3 x23 fun x24=>
  p.iaddr 40 x22 x24 fun x25=>
  p.load h10 9 x25 fun x26=>
  Q x26 h10)
theorem q_book_Get_0 (p:Pr) (l:LL) (Q:QQ) (v0 v1:V) (h:Hp):zi3 p l Q v0 v1 h=F_book_Get.K p EE l Q [] ([v0,v1]++List.replicate 27 zj) h:=by kernel_rfl
theorem a_book_Get {Q:QQ} {v0 v1:V} {h:Hp} (H:zi3 (Pu EE) (F_book_Get.L EE Q) Q v0 v1 h):Ans EE 21 [v0,v1] h Q:=
 ansL (F:=F_book_Get) (by kernel_rfl) (by kernel_rfl) (by kernel_rfl) (by kernel_rfl) (cast (q_book_Get_0 _ _ _ v0 v1 h) H)
noncomputable def c_book_Has:Code:=match Tryz.f49.body with | some c=>c | none=>.skip
noncomputable def F_book_Has:Fl:=⟨Tryz.f49,c_book_Has,[]⟩
noncomputable def zjL (p:Pr) (l:LL) (Q:QQ) (v0 v1:V) (h:Hp):Prop:=
 p.box h 26 v0 fun x1 h2 b3=>
 p.box h2 42 v1 fun x4 h5 b6=>
 p.load h5 26 x1 fun x7=>
 p.faddr 42 x4 0 fun x8=>
 p.load h5 9 x8 fun x9=>
 p.call 19 [x7,x9] h5 fun x10 h11=>
 p.bin .lss 3 false true x10 (.int .i64 0) fun x12=>
 p.gval x12 false (fun k13=>
  p.faddr 42 x4 1 fun x14=>
  k13 x14) fun x15=>
 p.gval x12 false (fun k16=>
  p.load h11 3 x15 fun x17=>
  k16 x17) fun x18=>
 p.gval x12 false (fun k19=>
  p.bin .lss 3 false true x18 (.int .i64 0) fun x20=>
  k19 x20) fun x21=>
 p.pick x12 (some (.bool true)) (some x21) fun x22=>
 p.gval x22 false (fun k23=>
  p.faddr 42 x4 1 fun x24=>
  k23 x24) fun x25=>
 p.gval x22 false (fun k26=>
  p.load h11 3 x25 fun x27=>
  k26 x27) fun x28=>
 p.gval x22 false (fun k29=>
  p.faddr 26 x1 0 fun x30=>
  k29 x30) fun x31=>
 p.gval x22 false (fun k32=>
  p.load h11 24 x31 fun x33=>
  k32 x33) fun x34=>
 p.gval x22 false (fun k35=>
  k35 x10) fun x36=>
 p.gval x22 false (fun k37=>
  p.iaddr 24 x34 x36 fun x38=>
  k37 x38) fun x39=>
 p.gval x22 false (fun k40=>
  p.faddr 38 x39 2 fun x41=>
  k40 x41) fun x42=>
 p.gval x22 false (fun k43=>
  p.load h11 36 x42 fun x44=>
  k43 x44) fun x45=>
 p.gval x22 false (fun k46=>
  p.lbui h11 #[36] .len [x45] fun x47=>
  k46 x47) fun x48=>
 p.gval x22 false (fun k49=>
  p.bin .geq 3 false false x28 x48 fun x50=>
  k49 x50) fun x51=>
 p.pick x22 (some (.bool true)) (some x51) fun x52=>
 p.cond x52
 (fun _=>
  Q (.tup [x10,(.bool false)]) h11)
 (fun _=>
  p.faddr 42 x4 2 fun x53=>
  p.load h11 3 x53 fun x54=>
  p.bin .geq 3 false true x54 (.int .i64 0) fun x55=>
  p.gval x55 true (fun k56=>
  p.faddr 42 x4 2 fun x57=>
  k56 x57) fun x58=>
  p.gval x55 true (fun k59=>
  p.load h11 3 x58 fun x60=>
  k59 x60) fun x61=>
  p.gval x55 true (fun k62=>
  p.faddr 26 x1 0 fun x63=>
  k62 x63) fun x64=>
  p.gval x55 true (fun k65=>
  p.load h11 24 x64 fun x66=>
  k65 x66) fun x67=>
  p.gval x55 true (fun k68=>
  k68 x10) fun x69=>
  p.gval x55 true (fun k70=>
  p.iaddr 24 x67 x69 fun x71=>
  k70 x71) fun x72=>
  p.gval x55 true (fun k73=>
  p.faddr 38 x72 2 fun x74=>
  k73 x74) fun x75=>
  p.gval x55 true (fun k76=>
  p.load h11 36 x75 fun x77=>
  k76 x77) fun x78=>
  p.gval x55 true (fun k79=>
  p.faddr 42 x4 1 fun x80=>
  k79 x80) fun x81=>
  p.gval x55 true (fun k82=>
  p.load h11 3 x81 fun x83=>
  k82 x83) fun x84=>
  p.gval x55 true (fun k85=>
  p.iaddr 36 x78 x84 fun x86=>
  k85 x86) fun x87=>
  p.gval x55 true (fun k88=>
  p.load h11 40 x87 fun x89=>
  k88 x89) fun x90=>
  p.gval x55 true (fun k91=>
  p.lbui h11 #[40] .len [x90] fun x92=>
  k91 x92) fun x93=>
  p.gval x55 true (fun k94=>
  p.bin .lss 3 false false x61 x93 fun x95=>
  k94 x95) fun x96=>
  p.pick x55 (some x96) (some (.bool false)) fun x97=>
  p.gchk x55 true (fun k98=>
  p.lbui h11 #[40] .len [x90] fun x99=>
  p.same x99 x93 (
  k98)) (
  p.gchk x55 true (fun k100=>
  p.load h11 40 x87 fun x101=>
  p.same x101 x90 (
  k100)) (
  p.gchk x55 true (fun k102=>
  p.load h11 3 x81 fun x103=>
  p.same x103 x84 (
  k102)) (
  p.gchk x55 true (fun k104=>
  p.load h11 36 x75 fun x105=>
  p.same x105 x78 (
  k104)) (
  p.gchk x55 true (fun k106=>
  p.load h11 24 x64 fun x107=>
  p.same x107 x67 (
  k106)) (
  p.gchk x55 true (fun k108=>
  p.load h11 3 x58 fun x109=>
  p.same x109 x61 (
  k108)) (
  Q (.tup [x10,x97]) h11)))))))
theorem q_book_Has_0 (p:Pr) (l:LL) (Q:QQ) (v0 v1:V) (h:Hp):zjL p l Q v0 v1 h=F_book_Has.K p EE l Q [] ([v0,v1]++List.replicate 49 zj) h:=by kernel_rfl
theorem a_book_Has {Q:QQ} {v0 v1:V} {h:Hp} (H:zjL (Pu EE) (F_book_Has.L EE Q) Q v0 v1 h):Ans EE 49 [v0,v1] h Q:=
 ansL (F:=F_book_Has) (by kernel_rfl) (by kernel_rfl) (by kernel_rfl) (by kernel_rfl) (cast (q_book_Has_0 _ _ _ v0 v1 h) H)
noncomputable def c_book_Find:Code:=match Tryz.f19.body with | some c=>c | none=>.skip
noncomputable def zkW:Fl:=⟨Tryz.f19,c_book_Find,[]⟩
noncomputable def ziq (p:Pr) (l:LL) (Q:QQ) (v0 v1:V) (h:Hp):Prop:=
 p.box h 26 v0 fun x1 h2 b3=>
 p.box h2 9 v1 fun x4 h5 b6=>
 p.faddr 26 x1 0 fun x7=>
 p.load h5 24 x7 fun x8=>
 p.call 45 [x8,(.fn (.func 46) [] [x4])] h5 fun x9 h10=>
 Q x9 h10
theorem q_book_Find_0 (p:Pr) (l:LL) (Q:QQ) (v0 v1:V) (h:Hp):ziq p l Q v0 v1 h=zkW.K p EE l Q [] ([v0,v1]++List.replicate 7 zj) h:=by kernel_rfl
theorem a_book_Find {Q:QQ} {v0 v1:V} {h:Hp} (H:ziq (Pu EE) (zkW.L EE Q) Q v0 v1 h):Ans EE 19 [v0,v1] h Q:=
 ansL (F:=zkW) (by kernel_rfl) (by kernel_rfl) (by kernel_rfl) (by kernel_rfl) (cast (q_book_Find_0 _ _ _ v0 v1 h) H)
noncomputable def c_book_Find_1:Code:=match Tryz.f46.body with | some c=>c | none=>.skip
noncomputable def zh9:Fl:=⟨Tryz.f46,c_book_Find_1,[]⟩
noncomputable def zgg (p:Pr) (l:LL) (Q:QQ) (v0 v1:V) (h:Hp):Prop:=
 p.box h 38 v0 fun x1 h2 b3=>
 p.faddr 38 x1 0 fun x4=>
 p.load h2 9 x4 fun x5=>
 p.load h2 9 v1 fun x6=>
 p.bin .eql 9 false false x5 x6 fun x7=>
 Q x7 h2
theorem q_book_Find_1_0 (p:Pr) (l:LL) (Q:QQ) (v0 v1:V) (h:Hp):zgg p l Q v0 v1 h=zh9.K p EE l Q [] ([v0,v1]++List.replicate 6 zj) h:=by kernel_rfl
theorem a_book_Find_1 {Q:QQ} {v0 v1:V} {h:Hp} (H:zgg (Pu EE) (zh9.L EE Q) Q v0 v1 h):Ans EE 46 [v0,v1] h Q:=
 ansL (F:=zh9) (by kernel_rfl) (by kernel_rfl) (by kernel_rfl) (by kernel_rfl) (cast (q_book_Find_1_0 _ _ _ v0 v1 h) H)
noncomputable def zcr:Code:=match Tryz.f45.body with | some c=>c | none=>.skip
noncomputable def zO:Fl:=⟨Tryz.f45,zcr,[([false,true,false,true],[0,1,7,8])]⟩
abbrev za4 (Q:QQ) (v0 v1 v7 v8:V) (h:Hp):Prop:=zO.L EE Q 1 [v0,v1,v7,v8] h
noncomputable def zaB (p:Pr) (l:LL) (Q:QQ) (v0 v1:V) (h:Hp):Prop:=
 p.lbui h #[24] .len [v0] fun x1=>
 l 1 [v0,v1,x1,(.int .i64 0)] h
theorem zcc (p:Pr) (l:LL) (Q:QQ) (v0 v1:V) (h:Hp):zaB p l Q v0 v1 h=zO.K p EE l Q [] ([v0,v1]++List.replicate 17 zj) h:=by kernel_rfl
theorem zcG {Q:QQ} {v0 v1:V} {h:Hp} (H:zaB (Pu EE) (zO.L EE Q) Q v0 v1 h):Ans EE 45 [v0,v1] h Q:=
 ansL (F:=zO) (by kernel_rfl) (by kernel_rfl) (by kernel_rfl) (by kernel_rfl) (cast (zcc _ _ _ v0 v1 h) H)
noncomputable def zaj (p:Pr) (l:LL) (Q:QQ) (v0 v1 v7 v8:V) (h:Hp):Prop:=
 p.bin .lss 3 false false v8 v7 fun x1=>
 p.cond x1
 (fun _=>
  p.iaddr 24 v0 v8 fun x2=>
  p.load h 38 x2 fun x3=>
  p.callv v1 [x3] h fun x4 h5=>
  p.cond x4
  (fun _=>
  Q v8 h5)
  (fun _=>
  p.bin .add 3 false true v8 (.int .i64 1) fun x6=>
  l 1 [v0,v1,v7,x6] h5))
 (fun _=>
  Q (.int .i64 (-1)) h)
theorem zcb (p:Pr) (l:LL) (Q:QQ) (s:List V) (h:Hp):zaj p l Q (nth s 0) (nth s 1) (nth s 7) (nth s 8) h=zO.K p EE l Q [true,false,true,false] (nths s 19 0) h:=by kernel_rfl
theorem za5 {Q:QQ} {v0 v1 v7 v8:V} {h:Hp} (H:zaj (Pu EE) (zO.L EE Q) Q v0 v1 v7 v8 h):za4 Q v0 v1 v7 v8 h:=
 labR (path:=[true,false,true,false]) rfl rfl fun s e=>by cases e; exact cast (zcb _ _ _ s h) H
end
end Go.Proofs.YtbchdlelmkmagaaGreatDoor.VM
namespace Go.Proofs.YtbchdlelmkmagaaGreatDoor.VM
open Go
set_option linter.unusedVariables false
set_option linter.unusedSectionVars false
set_option linter.unusedSimpArgs false
set_option maxRecDepth 20000
noncomputable section
attribute [local instance] syZ
theorem pu_gchk_y (w:Bool) (f:Prop→Prop) (k:Prop):(Pu EE).gchk (.bool w) w f k↔f k:=by
 show (∃ c,zgt (.bool w) w=some c∧(c=true→f k)∧(c=false→k))↔_
 simp [zgt]
theorem pu_gchk_ft (f:Prop→Prop) (k:Prop):(Pu EE).gchk (.bool false) true f k↔k:=by
 show (∃ c,zgt (.bool false) true=some c∧(c=true→f k)∧(c=false→k))↔_
 simp [zgt]
theorem zab (kd:IntKind) (n:Int) (k:Prop):(Pu EE).same (.int kd n) (.int kd n) k↔k:=by
 show (zd9 _ _=true∧k)↔k
 have:zd9 (.int kd n) (.int kd n)=true:=by simp [zd9,zkf,zbc,zet]
 simp [this]
theorem zbt {h:Hp} {sz len:Nat} {v:V} {cs:List V} (r:Rd h sz v len cs) (k:Prop):(Pu EE).same v v k↔k:=by
 show (zd9 _ _=true∧k)↔k
 have:zd9 v v=true:=by
  rcases r.at_ with ⟨rfl | rfl,_⟩ | ⟨b,off,vs,_,_,⟨c,rfl⟩ | ⟨lo,z,rfl⟩⟩ <;> simp [zd9,zkf]
 simp [this]
theorem find1_ok (N:Nat) (h:Hp) (s:Sht) (rv:V) (nm:List Nat) (b:Nat) (hC:C1 rv) (hb:b < h.n) (hs:h.t.get b=some (.cells [.str nm] 9 false)):Ans EE 46 [.agg (shtC s rv),.ptr b 0] h fun x h'=>x=.bool (decide (s.name=nm))∧Ext h.n h h':=by
 apply a_book_Find_1
 unfold zgg
 have hcl:zh (shtC s rv)=true:=by
  show (bif rv.isCell then zh [] else false)=true
  rw [hC.2]; rfl
 refine zW (cs:=shtC s rv) hcl fun h1 b1 w=>?_
 rw [zbF,za zL w.at_ rfl,za zL (by rw [w.old b hb]; exact hs) rfl,zbj]
 exact ⟨rfl,w.ext (Nat.le_refl _)⟩
theorem indexF_loop (Q:V→Hp→Prop) (M:Nat) (h0:Hp) (sv:V) (bk:Bok) (nm:List Nat) (b:Nat) (hM:M≤h0.n) (hb:b < h0.n) (hs:h0.t.get b=some (.cells [.str nm] 9 false)) (hv:zdB M h0 sv bk) (hbl:bk.length < 1000000):
  ∀ (k i:Nat),bk.length - i=k→i≤bk.length→∀ h:Hp,Ext h0.n h0 h→(∀ (z:Int) (h':Hp),z=(match zcm (bk.drop i) nm i with | some j=>(j:Int) | none=>-1)→Ext h0.n h0 h'→Q (.int .i64 z) h') →
   za4 Q sv (.fn (.func 46) [] [.ptr b 0]) (.int .i64 bk.length) (.int .i64 i) h:=by
 intro k
 induction k with
 | zero=>
  intro i hk hi h x hq
  apply za5
  unfold zaj
  rw [zr,zi]
  refine ⟨fun h1=>absurd h1 (by omega),fun _=>hq (-1) h ?_ x⟩
  rw [List.drop_eq_nil_of_le (by omega)]
  rfl
 | succ k ih=>
  intro i hk hi h x hq
  apply za5
  unfold zaj
  rw [zr,zi]
  refine ⟨fun h1=>?_,fun h1=>absurd (by omega) h1⟩
  have hv1:=hv.ext (x.mono hM)
  obtain ⟨b1,o1,rv,g1,g2,g3,_⟩:=zbu hv1 zl zH (List.getElem?_eq_getElem h1)
  have hC:C1 rv:=by obtain ⟨us,hu⟩:=g3.rd; exact hu.c1
  have hxn:=x.n
  rw [g1,g2]
  refine ⟨(46,[.agg (shtC bk[i] rv),.ptr b 0]),rfl,?_⟩
  refine (find1_ok M h bk[i] rv nm b hC (by omega) (by rw [x.old b hb]; exact hs)).mono ?_
  rintro y h2 ⟨rfl,hx2⟩
  have x2:=x.trans (hx2.mono hxn)
  rw [zcd h1] at hq
  simp only [zcm] at hq
  rw [zi]
  refine ⟨fun e=>hq i h2 (by rw [if_pos e]) x2,fun e=>?_⟩
  rw [if_neg e] at hq
  rw [zK _ _ _ _ (by omega)]
  exact ih (i+1) (by omega) (by omega) h2 x2 hq
theorem zkc (M:Nat) (h:Hp) (v:V) (bk:Bok) (nm:List Nat) (hv:zir M h v bk) (hM:M≤h.n) (hb:bk.length < 1000000):Ans EE 19 [v,.str nm] h fun x h'=>x=.int .i64 (zkn bk nm)∧Ext h.n h h':=by
 obtain ⟨sv,rfl,hs⟩:=hv
 apply a_book_Find
 unfold ziq
 obtain ⟨cs,hrd⟩:=hs.rd
 refine zW (cs:=[sv]) (by have:=hrd.c1; simp [zh,this.2]) fun h1 b1 w1=>?_
 refine (pu_box (x:=.str nm) (e:=9) rfl h1 _).2 ?_
 have w2:=New.mk' h1 (.cells [.str nm] 9 false)
 show (Pu EE).faddr _ _ _ _
 obtain ⟨h2,hh2⟩:∃ h2,h2=h1.new (.cells (V.str nm).cells 9 false):=⟨_,rfl⟩
 rw [← hh2]
 have w2:New h1 h2 h1.n (.cells [.str nm] 9 false):=by rw [hh2]; exact w2
 have n1:=w1.n
 have n2:=w2.n
 have e1:=w1.b
 have x2:Ext h.n h h2:=(w1.ext (Nat.le_refl _)).trans (w2.ext (by omega))
 have hb1:h2.t.get b1=some (.cells [sv] 26 false):=by rw [w2.old b1 (by omega)]; exact w1.at_
 rw [zw,za zk hb1 rfl]
 have hs2:=hs.ext (x2.mono hM)
 obtain ⟨cs2,hrd2⟩:=hs2.rd
 refine Ans.mono (Q:=fun x h'=>x=.int .i64 (zkn bk nm)∧Ext h2.n h2 h') ?_ (fun x h' q=>⟨q.1,x2.trans (q.2.mono (by omega))⟩)
 apply zcG
 unfold zaB
 rw [zp hrd2 zl]
 exact indexF_loop _ M h2 sv bk nm h1.n (by omega) (by omega) w2.at_ hs2 hb _ 0 rfl (by omega) h2 (Ext.refl _ _) fun z h' e x=>⟨by rw [e]; rfl,x⟩
def hasC (bk:Bok) (s:Spt):Bool:=match findR bk s.s with
 | none=>false
 | some t=>insideB t s.r s.c
theorem has_ok (M:Nat) (h:Hp) (v:V) (bk:Bok) (s:Spt) (hv:zir M h v bk) (hM:M≤h.n) (hb:bk.length < 1000000):Ans EE 49 [v,spV s] h fun x h'=>x=.tup [.int .i64 (zkn bk s.s),.bool (hasC bk s)]∧Ext h.n h h':=by
 have hv0:=hv
 obtain ⟨sv,rfl,hs⟩:=hv
 obtain ⟨cs,hrd⟩:=hs.rd
 have hcell:zh [sv]=true:=by have:=hrd.c1; simp [zh,this.2]
 apply a_book_Has
 unfold zjL
 refine zW (cs:=[sv]) hcell fun h1 b1 w1=>?_
 refine zW (cs:=spC s) rfl fun h2 b2 w2=>?_
 have n1:=w1.n
 have n2:=w2.n
 have e1:=w1.b
 have e2:=w2.b
 have hx2:Ext h.n h h2:=(w1.ext (Nat.le_refl h.n)).trans (w2.ext (by omega))
 have hb1:h2.t.get b1=some (.cells [sv] 26 false):=by rw [w2.old b1 (by omega)]; exact w1.at_
 rw [zd zy hb1 (l:=[sv]) rfl,z8,za zL w2.at_ rfl]
 refine (zkc M h2 _ bk s.s (hv0.ext (hx2.mono hM)) (by omega) hb).mono ?_
 rintro x h3 ⟨rfl,hx3⟩
 have hx:Ext h.n h h3:=hx2.trans (hx3.mono (by omega))
 have hs3:=hs.ext (hx.mono hM)
 have hb13:h3.t.get b1=some (.cells [sv] 26 false):=by rw [hx3.old b1 (by omega)]; exact hb1
 have hb23:h3.t.get b2=some (.cells (spC s) 42 false):=by rw [hx3.old b2 (by omega)]; exact w2.at_
 have z0:∀ n:Nat,decide ((n:Int) < 0)=false:=fun n=>decide_eq_false (by omega)
 have g0:∀ n:Nat,decide ((0:Int)≤(n:Int))=true:=fun n=>decide_eq_true (by omega)
 unfold zkn hasC
 cases hf:zcm bk s.s 0 with
 | none=>
  rw [zfN hf]
  simp only
  rw [zak,decide_eq_true (by decide:(-1:Int) < 0)]
  simp only [zaH,zB,zc]
  exact ⟨by first | trivial | rfl,hx⟩
 | some j=>
  obtain ⟨_,t,ht,hnm,hfr⟩:=zbY hf
  rw [Nat.sub_zero] at ht
  rw [hfr]
  simp only
  obtain ⟨b4,o4,rv,g1,g2,g3,vs,f,ro,g4,g5⟩:=zbu hs3 zl zH ht
  obtain ⟨us,hu⟩:=g3.rd
  rw [zak,z0]
  simp only [zu,zo,zae]
  rw [za zm hb23 rfl,zak,z0]
  simp only [zu,zo,zae,zw]
  rw [za zm hb23 rfl,za zk hb13 rfl,g1,zG,za zD g4 (g5 2 _ rfl),zp hu zn,geqN,zi]
  unfold insideB
  refine ⟨fun h9=>?_,fun h9=>?_⟩
  ·rw [List.getElem?_eq_none (by omega)]
   exact ⟨by first | trivial | rfl,hx⟩
  ·obtain ⟨b7,o7,w7,m1,m2,m3⟩:=zbU g3 zn zaz (List.getElem?_eq_getElem (by omega:s.r < t.rows.length))
   rw [zac,za zm hb23 rfl,pu_geq,g0]
   simp only [zu,pu_gchk_y,zB,zac]
   rw [za zm hb23 rfl,za zk hb13 rfl,g1,zG,za zD g4 (g5 2 _ rfl),za zm hb23 rfl,m1,m2,zp m3.1 z7,zr]
   rw [zp m3.1 z7,zab,m2,zbt m3.1,za zm hb23 rfl,zab,za zD g4 (g5 2 _ rfl),zbt hu,za zk hb13 rfl,zbt (hs3.rd.choose_spec),za zm hb23 rfl,zab]
   rw [List.getElem?_eq_getElem (by omega:s.r < t.rows.length)]
   exact ⟨by first | trivial | rfl,hx⟩
theorem pget_ok (M:Nat) (h:Hp) (v:V) (bk:Bok) (s:Spt) (hv:zir M h v bk) (hM:M≤h.n) (hb:bk.length < 1000000):Ans EE 21 [v,spV s] h fun x h'=>x=.str (getC bk s)∧Ext h.n h h':=by
 have hv0:=hv
 obtain ⟨sv,rfl,hs⟩:=hv
 obtain ⟨cs,hrd⟩:=hs.rd
 have hcell:zh [sv]=true:=by have:=hrd.c1; simp [zh,this.2]
 apply a_book_Get
 unfold zi3
 refine zW (cs:=[sv]) hcell fun h1 b1 w1=>?_
 refine zW (cs:=spC s) rfl fun h2 b2 w2=>?_
 have n1:=w1.n
 have n2:=w2.n
 have e1:=w1.b
 have e2:=w2.b
 have hx2:Ext h.n h h2:=(w1.ext (Nat.le_refl h.n)).trans (w2.ext (by omega))
 have hb1:h2.t.get b1=some (.cells [sv] 26 false):=by rw [w2.old b1 (by omega)]; exact w1.at_
 rw [zd zy hb1 (l:=[sv]) rfl,zd zf w2.at_ (l:=spC s) rfl]
 refine (has_ok M h2 _ bk s (hv0.ext (hx2.mono hM)) (by omega) hb).mono ?_
 rintro x h3 ⟨rfl,hx3⟩
 have hx:Ext h.n h h3:=hx2.trans (hx3.mono (by omega))
 have hs3:=hs.ext (hx.mono hM)
 have hb13:h3.t.get b1=some (.cells [sv] 26 false):=by rw [hx3.old b1 (by omega)]; exact hb1
 have hb23:h3.t.get b2=some (.cells (spC s) 42 false):=by rw [hx3.old b2 (by omega)]; exact w2.at_
 rw [zao,zam,zaE]
 unfold zkn hasC getC
 cases hf:zcm bk s.s 0 with
 | none=>
  rw [zfN hf]
  simp only [Bool.not_false,zc]
  exact ⟨by first | trivial | rfl,hx⟩
 | some j=>
  obtain ⟨_,t,ht,hnm,hfr⟩:=zbY hf
  rw [Nat.sub_zero] at ht
  rw [hfr]
  simp only
  unfold insideB
  cases hrow:t.rows[s.r]? with
  | none=>
   simp only [Bool.not_false,zc]
   exact ⟨by first | trivial | rfl,hx⟩
  | some row=>
   simp only [zjI]
   refine ⟨fun h9=>?_,fun h9=>?_⟩
   ·rw [List.getElem?_eq_none (by omega)]
    exact ⟨by first | trivial | rfl,hx⟩
   ·obtain ⟨b4,o4,rv,g1,g2,g3,vs,f,ro,g4,g5⟩:=zbu hs3 zl zH ht
    obtain ⟨b7,o7,w7,m1,m2,m3⟩:=zbU g3 zn zaz hrow
    obtain ⟨b8,o8,m4,m5⟩:=row_get m3 z7 zL (List.getElem?_eq_getElem h9)
    rw [zw,za zk hb13 rfl,g1,zG,za zD g4 (g5 2 _ rfl),zae,za zm hb23 rfl,m1,m2,zac,za zm hb23 rfl,m4,m5,List.getElem?_eq_getElem h9]
    exact ⟨by first | trivial | rfl,hx⟩
end
end Go.Proofs.YtbchdlelmkmagaaGreatDoor.VM
namespace Go.Proofs.YtbchdlelmkmagaaGreatDoor.VM
open Go
set_option linter.unusedVariables false
set_option linter.unusedSectionVars false
set_option linter.unusedSimpArgs false
set_option maxRecDepth 20000
noncomputable section
attribute [local instance] syZ
def NameOKs (nm:List Nat):Prop:=∀ h:Hp,Ans EE 72 [.str nm] h fun v h'=>v=.bool true∧h'=h
theorem nameRun (c:Fin 9) (h:Hp):zax EE (exec EE 60) 72 [.str [65+c.val]] h=some (.bool true,h):=by
 have key:∀ k,k < 9→zax EE (exec EE 60) 72 [.str [65+k]] h=some (.bool true,h):=by
  intro k hk
  rcases (by omega:k=0∨k=1∨k=2∨k=3∨k=4∨k=5∨k=6∨k=7∨k=8) with rfl | rfl | rfl | rfl | rfl | rfl | rfl | rfl | rfl <;> kernel_rfl
 exact key c.val c.isLt
theorem name1 {c:Nat} (h1:65≤c) (h2:c≤73):NameOKs [c]:=fun h=>by
 have:=nameRun ⟨c - 65,by omega⟩ h
 rw [show 65+(⟨c - 65,by omega⟩:Fin 9).val=c by simp; omega] at this
 exact ⟨_,_,⟨60,this⟩,rfl,rfl⟩
structure Mays (bk:Bok):Prop where
 good:Good bk
 len:bk.length≤5
 cols:∀ s ∈ bk,s.cols≤12
 rows:∀ s ∈ bk,s.rows.length≤24
 row:∀ s ∈ bk,∀ r ∈ s.rows,r.length=s.cols
 name:∀ s ∈ bk,NameOKs s.name
section
variable (Q:V→Hp→Prop) (M:Nat) (h0:Hp) (s:Sht) (rv:V) (b:Nat) (hM:M≤h0.n) (hb:b < h0.n) (hbox:h0.t.get b=some (.cells (shtC s rv) 38 false)) (hr:zdz M h0 rv s.rows) (hrl:s.rows.length≤24) (hcl:s.cols≤12) (hrow:∀ r ∈ s.rows,r.length=s.cols) (htx:∀ r ∈ s.rows,∀ t ∈ r,TextIs t)
include hM hb hbox hr hrl hcl hrow htx
theorem mayS_loop2 (r:Nat) (row:List (List Nat)) (wv:V) (hrw:s.rows[r]? = some row) (hrd:RowAt M h0 wv row)
  (hn:∀ h:Hp,Ext h0.n h0 h→zeF Q (.ptr b 0) rv (.int .i64 s.rows.length) (.int .i64 (r+1:Nat)) h):
  ∀ (k c:Nat),row.length - c=k→c≤row.length→∀ h:Hp,Ext h0.n h0 h→zhB Q (.ptr b 0) rv (.int .i64 s.rows.length) (.int .i64 r) wv (.int .i64 row.length) (.int .i64 c) h:=by
 have hrr:=(List.getElem?_eq_some_iff.1 hrw).1
 have hrl2:=hrow row (List.mem_of_getElem? hrw)
 intro k
 induction k with
 | zero=>
  intro c hk hc h x
  apply zho
  unfold zcx
  rw [zr,zi]
  refine ⟨fun h1=>absurd h1 (by omega),fun _=>?_⟩
  rw [zK _ _ _ _ (by omega)]
  exact hn h x
 | succ k ih=>
  intro c hk hc h x
  apply zho
  unfold zcx
  rw [zr,zi]
  refine ⟨fun h1=>?_,fun h1=>absurd (by omega) h1⟩
  obtain ⟨b1,o1,g1,g2⟩:=row_get (hrd.ext (x.mono hM)) z7 zL (List.getElem?_eq_getElem h1)
  rw [g1,g2]
  refine (may_ok (htx row (List.mem_of_getElem? hrw) _ (List.getElem_mem _)) h).mono ?_
  rintro y h2 ⟨rfl,hx2⟩
  rw [zaE]
  simp only [Bool.not_true,zb]
  rw [zK _ _ _ _ (by omega)]
  exact ih (c+1) (by omega) (by omega) h2 (x.trans (hx2.mono x.n))
theorem mayS_loop1 (hq:∀ h:Hp,Ext h0.n h0 h→Q (.bool true) h):
  ∀ (k r:Nat),s.rows.length - r=k→r≤s.rows.length→∀ h:Hp,Ext h0.n h0 h→zeF Q (.ptr b 0) rv (.int .i64 s.rows.length) (.int .i64 r) h:=by
 intro k
 induction k with
 | zero=>
  intro r hk hc h x
  apply zhA
  unfold zcy
  rw [zr,zi]
  exact ⟨fun h1=>absurd h1 (by omega),fun _=>hq h x⟩
 | succ k ih=>
  intro r hk hc h x
  apply zhA
  unfold zcy
  rw [zr,zi]
  refine ⟨fun h1=>?_,fun h1=>absurd (by omega) h1⟩
  have hbx:h.t.get b=some (.cells (shtC s rv) 38 false):=by rw [x.old b hb]; exact hbox
  obtain ⟨b1,o1,w,g1,g2,g3⟩:=zbU (hr.ext (x.mono hM)) zn zaz (List.getElem?_eq_getElem h1)
  obtain ⟨b2,o2,w2,k1,k2,k3⟩:=zbU hr zn zaz (List.getElem?_eq_getElem h1)
  have hl:=hrow _ (List.getElem_mem h1)
  have hww:RowAt M h0 w s.rows[r]:=by
   obtain ⟨vs,q1,q2,q3⟩:=hr
   obtain ⟨u,q4,q5⟩:=q3 r _ (List.getElem?_eq_getElem h1)
   obtain ⟨b3,o3,p1,p2,_⟩:=zde (q1.ext (x.mono hM) q2) zn zaz q4
   have e1:=(g1 .i64 (fun a=>a=.ptr b1 o1)).2 rfl
   rw [p1] at e1
   have e2:=(g2 (fun a=>a=w)).2 rfl
   have e3:V.ptr b3 o3=V.ptr b1 o1:=e1
   rw [← e3,p2] at e2
   rw [← e2]
   exact q5
  rw [g1,g2,zp g3.1 z7,zaI,za zm hbx rfl,pu_neq,zjI]
  refine ⟨fun e=>absurd (by omega) e,fun _=>?_⟩
  rw [zp g3.1 z7]
  exact mayS_loop2 Q M h0 s rv b hM hb hbox hr hrl hcl hrow htx r s.rows[r] w (List.getElem?_eq_getElem h1) hww (fun h' x'=>ih (r+1) (by omega) (by omega) h' x') _ 0 rfl (by omega) h x
end
theorem gtrN (a b:Nat) (t:Nat) (cx cy:Bool) (q:V→Prop):(Pu EE).bin .gtr t cx cy (.int .i64 a) (.int .i64 b) q↔q (.bool (decide (b < a))):=by
 rw [zgc]
 have:decide ((b:Int) < (a:Int))=decide (b < a):=by rw [decide_eq_decide]; omega
 rw [this]
theorem maySheet_ok (M:Nat) (h:Hp) (s:Sht) (rv:V) (hr:zdz M h rv s.rows) (hM:M≤h.n) (hrl:s.rows.length≤24) (hcl:s.cols≤12) (hrow:∀ r ∈ s.rows,r.length=s.cols) (htx:∀ r ∈ s.rows,∀ t ∈ r,TextIs t) (hnm:NameOKs s.name):
  Ans EE 40 [.agg (shtC s rv)] h fun x h'=>x=.bool true∧Ext h.n h h':=by
 apply a_book_maySheet
 unfold zeD
 obtain ⟨us,hu⟩:=hr.rd
 have hcl':zh (shtC s rv)=true:=by
  show (bif rv.isCell then zh [] else false)=true
  rw [hu.c1.2]; rfl
 refine zW (cs:=shtC s rv) hcl' fun h1 b w=>?_
 have n1:=w.n
 have e1:=w.b
 have hx:=w.ext (Nat.le_refl h.n)
 have hr1:=hr.ext (hx.mono hM)
 obtain ⟨us1,hu1⟩:=hr1.rd
 rw [zbF,za zL w.at_ rfl]
 refine (hnm h1).mono ?_
 rintro y h2 ⟨rfl,rfl⟩
 rw [zaE]
 simp only [Bool.not_true,zu,zo,zaI]
 rw [za zm w.at_ rfl,zak,decide_eq_false (by omega:¬ ((s.cols:Int) < 0))]
 simp only [zu,zo,zaI]
 rw [za zm w.at_ rfl,show (12:Int)=((12:Nat):Int) from rfl,gtrN,decide_eq_false (by omega:¬ (12 < s.cols))]
 simp only [zu,zo,zG]
 rw [za zD w.at_ rfl,zp hu1 zn,show (24:Int)=((24:Nat):Int) from rfl,gtrN,decide_eq_false (by omega:¬ (24 < s.rows.length))]
 simp only [zb]
 rw [za zD w.at_ rfl,zp hu1 zn]
 exact mayS_loop1 _ M h2 s rv b (by omega) (by omega) w.at_ hr1 hrl hcl hrow htx (fun h' x'=>⟨rfl,hx.trans (x'.mono (by omega))⟩) _ 0 rfl (by omega) h2 (Ext.refl _ _)
theorem pmay_ok (M:Nat) (h:Hp) (v:V) (bk:Bok) (hv:zir M h v bk) (hM:M≤h.n) (g:Mays bk):Ans EE 16 [v] h fun x h'=>x=.bool true∧Ext h.n h h':=by
 obtain ⟨sv,rfl,hs⟩:=hv
 obtain ⟨cs,hrd⟩:=hs.rd
 have hcell:zh [sv]=true:=by have:=hrd.c1; simp [zh,this.2]
 apply a_book_May
 unfold zjb
 refine zW (cs:=[sv]) hcell fun h1 b w=>?_
 have n1:=w.n
 have e1:=w.b
 have hx:=w.ext (Nat.le_refl h.n)
 have hs1:=hs.ext (hx.mono hM)
 obtain ⟨cs1,hrd1⟩:=hs1.rd
 have hlen:=g.len
 rw [zw,za zk w.at_ rfl,zp hrd1 zl,show (5:Int)=((5:Nat):Int) from rfl,gtrN,decide_eq_false (by omega:¬ (5 < List.length bk)),zb,zw,za zk w.at_ rfl,zp hrd1 zl]
 have loop:∀ (k i:Nat),bk.length - i=k→i≤bk.length→∀ h2:Hp,Ext h1.n h1 h2→zje (fun x h'=>x=.bool true∧Ext h.n h h') (.ptr b 0) sv (.int .i64 bk.length) (.int .i64 i) h2:=by
  intro k
  induction k with
  | zero=>
   intro i hk hi h2 x
   apply r_book_May_1
   unfold zgJ
   rw [zr,zi]
   exact ⟨fun q=>absurd q (by omega),fun _=>⟨rfl,hx.trans (x.mono (by omega))⟩⟩
  | succ k ih=>
   intro i hk hi h2 x
   apply r_book_May_1
   unfold zgJ
   rw [zr,zi]
   refine ⟨fun q=>?_,fun q=>absurd (by omega) q⟩
   have n2:=x.n
   have hx2:Ext h.n h h2:=hx.trans (x.mono (by omega))
   obtain ⟨b4,o4,rv,g1,g2,g3,_⟩:=zbu (hs.ext (hx2.mono hM)) zl zH (List.getElem?_eq_getElem q)
   obtain ⟨us,hu⟩:=g3.rd
   have hcl':zh (shtC bk[i] rv)=true:=by
    show (bif rv.isCell then zh [] else false)=true
    rw [hu.c1.2]; rfl
   rw [g1,g2]
   refine zq zH fun h3 b3 w3=>?_
   refine zC zH w3.at_ (x:=.agg (shtC bk[i] rv)) rfl hcl' (r:=shtC bk[i] rv) rfl fun h4 w4=>?_
   have n3:=w3.n
   have e3:=w3.b
   have n4:=w4.n
   have x4:Ext h1.n h1 h4:=x.trans ((w3.ext x.n).trans (w4.ext (by omega)))
   have hb4:h4.t.get b=some (.cells [sv] 26 false):=by rw [x4.old b (by omega)]; exact w.at_
   have hxx:Ext h.n h h4:=hx.trans (x4.mono (by omega))
   have hs4:=hs.ext (hxx.mono hM)
   have call:∀ P:Prop,P=((Pu EE).load h4 38 (.ptr b3 0) fun x40=>(Pu EE).call 40 [x40] h4 fun x45 h46=>(Pu EE).un .not x45 fun x49=>(Pu EE).cond x49 (fun _=>(fun x h'=>x=V.bool true∧Ext h.n h h') (.bool false) h46) (fun _=>(Pu EE).bin .add 3 false true (.int .i64 i) (.int .i64 1) fun x51=>zje (fun x h'=>x=.bool true∧Ext h.n h h') (.ptr b 0) sv (.int .i64 bk.length) x51 h46))→P:=by
    rintro P rfl
    rw [zd zH w4.at_ (l:=shtC bk[i] rv) rfl]
    have hm:bk[i] ∈ bk:=List.getElem_mem _
    have g34:zdz M h4 rv bk[i].rows:=g3.ext (((w3.ext (Nat.le_refl _)).trans (w4.ext (by omega))).mono (by omega))
    refine (maySheet_ok M h4 bk[i] rv g34 (by omega) (g.rows _ hm) (g.cols _ hm) (g.row _ hm) (g.good.text _ hm) (g.name _ hm)).mono ?_
    rintro y h5 ⟨rfl,hx5⟩
    rw [zaE]
    simp only [Bool.not_true,zb]
    rw [zK _ _ _ _ (by omega)]
    exact ih (i+1) (by omega) (by omega) h5 (x4.trans (hx5.mono (by omega)))
   rw [show (0:Int)=((0:Nat):Int) from rfl,gtrN]
   by_cases hi0:0 < i
   ·rw [decide_eq_true hi0]
    simp only [zu,zw,zB]
    obtain ⟨b6,o6,rv6,k1,k2,k3,vs6,f6,ro6,k4,k5⟩:=zbu hs4 zl zH (List.getElem?_eq_getElem (by omega:i - 1 < bk.length))
    have hsub:∀ q:V→Prop,(Pu EE).bin .sub 3 false true (.int .i64 i) (.int .i64 1) q↔q (.int .i64 ((i - 1:Nat):Int)):=fun q=>by
     rw [zdf,show (i:Int) - 1=((i - 1:Nat):Int) by omega,w64 _ (by omega)]
    rw [za zk hb4 rfl,hsub,k1,zbF,za zL k4 (k5 0 _ rfl)]
    try simp only [zbF]
    rw [za zL w4.at_ rfl,pu_sgeq]
    have hlt:slt bk[i - 1].name bk[i].name=true:=by
     have:=List.pairwise_iff_getElem.1 g.good.ris (i - 1) i (by omega) (by omega) (by omega)
     exact this
    rw [hlt]
    simp only [Bool.not_true,zu,ze9,zo]
    exact call _ rfl
   ·rw [decide_eq_false hi0]
    simp only [zS,zo,zu,ze9]
    exact call _ rfl
 exact loop _ 0 rfl (by omega) h1 (Ext.refl _ _)
end
end Go.Proofs.YtbchdlelmkmagaaGreatDoor.VM
namespace Go.Proofs.YtbchdlelmkmagaaGreatDoor.VM
open Go
set_option linter.unusedVariables false
set_option maxRecDepth 100000
noncomputable section
noncomputable def c_deps_formulas:Code:=match Tryz.f26.body with | some c=>c | none=>.skip
noncomputable def zav:Fl:=⟨Tryz.f26,c_deps_formulas,[([false,true,false,true,true],[3,11,12,13]),([false,true,true,false,false,true,true,false,false,true,false,true,true],[3,5,11,12,13,18,19,20]),([false,true,true,false,false,true,true,false,false,true,true,false,false,true,true,false,false,true,false,true,true],[3,5,6,11,12,13,18,19,20,25,26,27])]⟩
abbrev zep (Q:QQ) (v3 v11 v12 v13:V) (h:Hp):Prop:=zav.L EE Q 1 [v3,v11,v12,v13] h
abbrev zes (Q:QQ) (v3 v5 v11 v12 v13 v18 v19 v20:V) (h:Hp):Prop:=zav.L EE Q 2 [v3,v5,v11,v12,v13,v18,v19,v20] h
abbrev zeK (Q:QQ) (v3 v5 v6 v11 v12 v13 v18 v19 v20 v25 v26 v27:V) (h:Hp):Prop:=zav.L EE Q 3 [v3,v5,v6,v11,v12,v13,v18,v19,v20,v25,v26,v27] h
noncomputable def zeo (p:Pr) (l:LL) (Q:QQ) (v0:V) (h:Hp):Prop:=
 p.box h 26 v0 fun x1 h2 b3=>
 p.faddr 26 x1 0 fun x4=>
 p.load h2 24 x4 fun x5=>
 p.lbui h2 #[24] .len [x5] fun x6=>
 l 1 [.nils,x5,x6,(.int .i64 0)] h2
theorem q_deps_formulas_0 (p:Pr) (l:LL) (Q:QQ) (v0:V) (h:Hp):zeo p l Q v0 h=zav.K p EE l Q [] ([v0]++List.replicate 50 zj) h:=by kernel_rfl
theorem a_deps_formulas {Q:QQ} {v0:V} {h:Hp} (H:zeo (Pu EE) (zav.L EE Q) Q v0 h):Ans EE 26 [v0] h Q:=
 ansL (F:=zav) (by kernel_rfl) (by kernel_rfl) (by kernel_rfl) (by kernel_rfl) (cast (q_deps_formulas_0 _ _ _ v0 h) H)
noncomputable def zcD (p:Pr) (l:LL) (Q:QQ) (v3 v11 v12 v13:V) (h:Hp):Prop:=
 p.bin .lss 3 false false v13 v12 fun x1=>
 p.cond x1
 (fun _=>
  p.iaddr 24 v11 v13 fun x2=>
  p.load h 38 x2 fun x3=>
  p.alloc h 38 fun x4 h5 b6=>
  p.store h5 38 x4 x3 fun h7=>
  p.faddr 38 x4 2 fun x8=>
  p.load h7 36 x8 fun x9=>
  p.lbui h7 #[36] .len [x9] fun x10=>
  l 2 [v3,x4,v11,v12,v13,x9,x10,(.int .i64 0)] h7)
 (fun _=>
  Q v3 h)
theorem q_deps_formulas_1 (p:Pr) (l:LL) (Q:QQ) (s:List V) (h:Hp):zcD p l Q (nth s 3) (nth s 11) (nth s 12) (nth s 13) h=zav.K p EE l Q [true,true,false,true,false] (nths s 51 0) h:=by kernel_rfl
theorem zhw {Q:QQ} {v3 v11 v12 v13:V} {h:Hp} (H:zcD (Pu EE) (zav.L EE Q) Q v3 v11 v12 v13 h):zep Q v3 v11 v12 v13 h:=
 labR (path:=[true,true,false,true,false]) rfl rfl fun s e=>by cases e; exact cast (q_deps_formulas_1 _ _ _ s h) H
noncomputable def zcv (p:Pr) (l:LL) (Q:QQ) (v3 v5 v11 v12 v13 v18 v19 v20:V) (h:Hp):Prop:=
 p.bin .lss 3 false false v20 v19 fun x1=>
 p.cond x1
 (fun _=>
  p.iaddr 36 v18 v20 fun x2=>
  p.load h 40 x2 fun x3=>
  p.lbui h #[40] .len [x3] fun x4=>
  l 3 [v3,v5,v20,v11,v12,v13,v18,v19,v20,x3,x4,(.int .i64 0)] h)
 (fun _=>
  p.bin .add 3 false true v13 (.int .i64 1) fun x5=>
  l 1 [v3,v11,v12,x5] h)
theorem q_deps_formulas_2 (p:Pr) (l:LL) (Q:QQ) (s:List V) (h:Hp):zcv p l Q (nth s 3) (nth s 5) (nth s 11) (nth s 12) (nth s 13) (nth s 18) (nth s 19) (nth s 20) h=zav.K p EE l Q [true,true,false,true,false,false,true,true,false,false,true,true,false] (nths s 51 0) h:=by kernel_rfl
theorem zhI {Q:QQ} {v3 v5 v11 v12 v13 v18 v19 v20:V} {h:Hp} (H:zcv (Pu EE) (zav.L EE Q) Q v3 v5 v11 v12 v13 v18 v19 v20 h):zes Q v3 v5 v11 v12 v13 v18 v19 v20 h:=
 labR (path:=[true,true,false,true,false,false,true,true,false,false,true,true,false]) rfl rfl fun s e=>by cases e; exact cast (q_deps_formulas_2 _ _ _ s h) H
noncomputable def zcz (p:Pr) (l:LL) (Q:QQ) (v3 v5 v6 v11 v12 v13 v18 v19 v20 v25 v26 v27:V) (h:Hp):Prop:=
 p.bin .lss 3 false false v27 v26 fun x1=>
 p.cond x1
 (fun _=>
  p.iaddr 40 v25 v27 fun x2=>
  p.load h 9 x2 fun x3=>
  p.bin .neq 9 false true x3 (.str []) fun x4=>
  p.gval x4 true (fun k5=>
  k5 x3) fun x6=>
  p.gval x4 true (fun k7=>
  p.index 9 x6 (.int .i64 0) fun x8=>
  k7 x8) fun x9=>
  p.gval x4 true (fun k10=>
  p.bin .eql 5 false true x9 (.int .u8 61) fun x11=>
  k10 x11) fun x12=>
  p.pick x4 (some x12) (some (.bool false)) fun x13=>
  p.cond x13
  (fun _=>
  p.faddr 38 v5 0 fun x14=>
  p.load h 9 x14 fun x15=>
  p.build 42 [(0,x15),(1,v6),(2,v27)] fun x16=>
  p.bsl h 32 1 [(0,x16)] fun x17 h18 b19=>
  p.ebui h18 #[32,32] .append [v3,x17] fun x20 h21=>
  p.bin .add 3 false true v27 (.int .i64 1) fun x22=>
  l 3 [x20,v5,v6,v11,v12,v13,v18,v19,v20,v25,v26,x22] h21)
  (fun _=>
  p.bin .add 3 false true v27 (.int .i64 1) fun x23=>
  l 3 [v3,v5,v6,v11,v12,v13,v18,v19,v20,v25,v26,x23] h))
 (fun _=>
  p.bin .add 3 false true v20 (.int .i64 1) fun x24=>
  l 2 [v3,v5,v11,v12,v13,v18,v19,x24] h)
theorem q_deps_formulas_3 (p:Pr) (l:LL) (Q:QQ) (s:List V) (h:Hp):zcz p l Q (nth s 3) (nth s 5) (nth s 6) (nth s 11) (nth s 12) (nth s 13) (nth s 18) (nth s 19) (nth s 20) (nth s 25) (nth s 26) (nth s 27) h=zav.K p EE l Q [true,true,false,true,false,false,true,true,false,false,true,true,false,false,true,true,false,false,true,true,false] (nths s 51 0) h:=by kernel_rfl
theorem zht {Q:QQ} {v3 v5 v6 v11 v12 v13 v18 v19 v20 v25 v26 v27:V} {h:Hp} (H:zcz (Pu EE) (zav.L EE Q) Q v3 v5 v6 v11 v12 v13 v18 v19 v20 v25 v26 v27 h):zeK Q v3 v5 v6 v11 v12 v13 v18 v19 v20 v25 v26 v27 h:=
 labR (path:=[true,true,false,true,false,false,true,true,false,false,true,true,false,false,true,true,false,false,true,true,false]) rfl rfl fun s e=>by cases e; exact cast (q_deps_formulas_3 _ _ _ s h) H
noncomputable def c_deps_Needs:Code:=match Tryz.f27.body with | some c=>c | none=>.skip
noncomputable def zan:Fl:=⟨Tryz.f27,c_deps_Needs,[([false,true,false,true,true,true,true],[2,3,7,24,25,26]),([false,true,true,true,true,true,true,true,true,false,false,true,true,false,false,true,false,true,true,true,true],[2,3,7,9,10,12,13,24,25,26]),([false,true,false,false,true,false,false,true,true,true,true,true,true,true,true,false,false,true,true,false,false,true,false,true,true,true,true],[2,3,7,9,10,12,13,14,24,25,26]),([true,true,false,false,true,true,false,false,true,false,true,true,true,true],[2,3,7,9,24,25,26]),([true,true,true,true,false,false,true,true,false,false,true,false,true,true,true,true],[2,3,7,9,10,24,25,26])]⟩
abbrev zbZ (Q:QQ) (v2 v3 v7 v24 v25 v26:V) (h:Hp):Prop:=zan.L EE Q 1 [v2,v3,v7,v24,v25,v26] h
abbrev zg5 (Q:QQ) (v2 v3 v7 v9 v10 v12 v13 v24 v25 v26:V) (h:Hp):Prop:=zan.L EE Q 2 [v2,v3,v7,v9,v10,v12,v13,v24,v25,v26] h
abbrev zkO (Q:QQ) (v2 v3 v7 v9 v10 v12 v13 v14 v24 v25 v26:V) (h:Hp):Prop:=zan.L EE Q 3 [v2,v3,v7,v9,v10,v12,v13,v14,v24,v25,v26] h
abbrev zkA (Q:QQ) (v2 v3 v7 v9 v24 v25 v26:V) (h:Hp):Prop:=zan.L EE Q 4 [v2,v3,v7,v9,v24,v25,v26] h
abbrev zkx (Q:QQ) (v2 v3 v7 v9 v10 v24 v25 v26:V) (h:Hp):Prop:=zan.L EE Q 5 [v2,v3,v7,v9,v10,v24,v25,v26] h
noncomputable def zhg (p:Pr) (l:LL) (Q:QQ) (v0 v1:V) (h:Hp):Prop:=
 p.box h 26 v0 fun x1 h2 b3=>
 p.box h2 42 v1 fun x4 h5 b6=>
 p.load h5 26 x1 fun x7=>
 p.load h5 42 x4 fun x8=>
 p.call 21 [x7,x8] h5 fun x9 h10=>
 p.call 20 [x9] h10 fun x11 h12=>
 p.extr x11 0 fun x13=>
 p.extr x11 1 fun x14=>
 p.un .not x14 fun x15=>
 p.cond x15
 (fun _=>
  Q .nils h12)
 (fun _=>
  p.lbui h12 #[43] .len [x13] fun x16=>
  l 1 [x1,x4,.nils,x13,x16,(.int .i64 0)] h12)
theorem q_deps_Needs_0 (p:Pr) (l:LL) (Q:QQ) (v0 v1:V) (h:Hp):zhg p l Q v0 v1 h=zan.K p EE l Q [] ([v0,v1]++List.replicate 96 zj) h:=by kernel_rfl
theorem a_deps_Needs {Q:QQ} {v0 v1:V} {h:Hp} (H:zhg (Pu EE) (zan.L EE Q) Q v0 v1 h):Ans EE 27 [v0,v1] h Q:=
 ansL (F:=zan) (by kernel_rfl) (by kernel_rfl) (by kernel_rfl) (by kernel_rfl) (cast (q_deps_Needs_0 _ _ _ v0 v1 h) H)
noncomputable def zeR (p:Pr) (l:LL) (Q:QQ) (v2 v3 v7 v24 v25 v26:V) (h:Hp):Prop:=
 p.bin .lss 3 false false v26 v25 fun x1=>
 p.cond x1
 (fun _=>
  p.iaddr 43 v24 v26 fun x2=>
  p.load h 88 x2 fun x3=>
  p.alloc h 88 fun x4 h5 b6=>
  p.store h5 88 x4 x3 fun h7=>
  p.faddr 88 x4 0 fun x8=>
  p.load h7 3 x8 fun x9=>
  p.bin .eql 3 false true x9 (.int .i64 5) fun x10=>
  p.cond x10
  (fun _=>
  p.faddr 88 x4 3 fun x11=>
  p.load h7 85 x11 fun x12=>
  p.faddr 88 x4 4 fun x13=>
  p.store h7 85 x13 x12 fun h14=>
  l 4 [v2,v3,v7,x4,v24,v25,v26] h14)
  (fun _=>
  p.faddr 88 x4 0 fun x15=>
  p.load h7 3 x15 fun x16=>
  p.bin .neq 3 false true x16 (.int .i64 6) fun x17=>
  p.cond x17
  (fun _=>
   p.bin .add 3 false true v26 (.int .i64 1) fun x18=>
   l 1 [v2,v3,v7,v24,v25,x18] h7)
  (fun _=>
   l 4 [v2,v3,v7,x4,v24,v25,v26] h7)))
 (fun _=>
  p.call 55 [v7] h fun x19 h20=>
  Q x19 h20)
theorem q_deps_Needs_1 (p:Pr) (l:LL) (Q:QQ) (s:List V) (h:Hp):zeR p l Q (nth s 2) (nth s 3) (nth s 7) (nth s 24) (nth s 25) (nth s 26) h=zan.K p EE l Q [true,true,true,true,false,true,false] (nths s 98 0) h:=by kernel_rfl
theorem zkQ {Q:QQ} {v2 v3 v7 v24 v25 v26:V} {h:Hp} (H:zeR (Pu EE) (zan.L EE Q) Q v2 v3 v7 v24 v25 v26 h):zbZ Q v2 v3 v7 v24 v25 v26 h:=
 labR (path:=[true,true,true,true,false,true,false]) rfl rfl fun s e=>by cases e; exact cast (q_deps_Needs_1 _ _ _ s h) H
noncomputable def ze0 (p:Pr) (l:LL) (Q:QQ) (v2 v3 v7 v9 v10 v12 v13 v24 v25 v26:V) (h:Hp):Prop:=
 p.faddr 88 v9 4 fun x1=>
 p.faddr 85 x1 2 fun x2=>
 p.load h 3 x2 fun x3=>
 p.lbui h #[36] .len [v12] fun x4=>
 p.bin .sub 3 false true x4 (.int .i64 1) fun x5=>
 p.lbui h #[3,3] .min [x3,x5] fun x6=>
 p.bin .leq 3 false false v13 x6 fun x7=>
 p.cond x7
 (fun _=>
  p.faddr 88 v9 3 fun x8=>
  p.faddr 85 x8 1 fun x9=>
  p.load h 3 x9 fun x10=>
  l 3 [v2,v3,v7,v9,v10,v12,v13,x10,v24,v25,v26] h)
 (fun _=>
  p.bin .add 3 false true v26 (.int .i64 1) fun x11=>
  l 1 [v2,v3,v7,v24,v25,x11] h)
theorem q_deps_Needs_2 (p:Pr) (l:LL) (Q:QQ) (s:List V) (h:Hp):ze0 p l Q (nth s 2) (nth s 3) (nth s 7) (nth s 9) (nth s 10) (nth s 12) (nth s 13) (nth s 24) (nth s 25) (nth s 26) h=zan.K p EE l Q [true,true,true,true,false,true,false,false,true,true,false,false,true,true,true,true,true,true,true,true,false] (nths s 98 0) h:=by kernel_rfl
theorem zkH {Q:QQ} {v2 v3 v7 v9 v10 v12 v13 v24 v25 v26:V} {h:Hp} (H:ze0 (Pu EE) (zan.L EE Q) Q v2 v3 v7 v9 v10 v12 v13 v24 v25 v26 h):zg5 Q v2 v3 v7 v9 v10 v12 v13 v24 v25 v26 h:=
 labR (path:=[true,true,true,true,false,true,false,false,true,true,false,false,true,true,true,true,true,true,true,true,false]) rfl rfl fun s e=>by cases e; exact cast (q_deps_Needs_2 _ _ _ s h) H
noncomputable def zeM (p:Pr) (l:LL) (Q:QQ) (v2 v3 v7 v9 v10 v12 v13 v14 v24 v25 v26:V) (h:Hp):Prop:=
 p.faddr 88 v9 4 fun x1=>
 p.faddr 85 x1 1 fun x2=>
 p.load h 3 x2 fun x3=>
 p.iaddr 36 v12 v13 fun x4=>
 p.load h 40 x4 fun x5=>
 p.lbui h #[40] .len [x5] fun x6=>
 p.bin .sub 3 false true x6 (.int .i64 1) fun x7=>
 p.lbui h #[3,3] .min [x3,x7] fun x8=>
 p.bin .leq 3 false false v14 x8 fun x9=>
 p.cond x9
 (fun _=>
  p.build 42 [(0,v10),(1,v13),(2,v14)] fun x10=>
  p.bsl h 32 1 [(0,x10)] fun x11 h12 b13=>
  p.ebui h12 #[32,32] .append [v7,x11] fun x14 h15=>
  p.bin .add 3 false true v14 (.int .i64 1) fun x16=>
  l 3 [v2,v3,x14,v9,v10,v12,v13,x16,v24,v25,v26] h15)
 (fun _=>
  p.bin .add 3 false true v13 (.int .i64 1) fun x17=>
  l 2 [v2,v3,v7,v9,v10,v12,x17,v24,v25,v26] h)
theorem q_deps_Needs_3 (p:Pr) (l:LL) (Q:QQ) (s:List V) (h:Hp):zeM p l Q (nth s 2) (nth s 3) (nth s 7) (nth s 9) (nth s 10) (nth s 12) (nth s 13) (nth s 14) (nth s 24) (nth s 25) (nth s 26) h=zan.K p EE l Q [true,true,true,true,false,true,false,false,true,true,false,false,true,true,true,true,true,true,true,true,false,false,true,false,false,true,false] (nths s 98 0) h:=by kernel_rfl
theorem zkq {Q:QQ} {v2 v3 v7 v9 v10 v12 v13 v14 v24 v25 v26:V} {h:Hp} (H:zeM (Pu EE) (zan.L EE Q) Q v2 v3 v7 v9 v10 v12 v13 v14 v24 v25 v26 h):zkO Q v2 v3 v7 v9 v10 v12 v13 v14 v24 v25 v26 h:=
 labR (path:=[true,true,true,true,false,true,false,false,true,true,false,false,true,true,true,true,true,true,true,true,false,false,true,false,false,true,false]) rfl rfl fun s e=>by cases e; exact cast (q_deps_Needs_3 _ _ _ s h) H
noncomputable def zg6 (p:Pr) (l:LL) (Q:QQ) (v2 v3 v7 v9 v24 v25 v26:V) (h:Hp):Prop:=
 p.faddr 88 v9 3 fun x1=>
 p.faddr 85 x1 0 fun x2=>
 p.load h 9 x2 fun x3=>
 p.bin .eql 9 false true x3 (.str []) fun x4=>
 p.cond x4
 (fun _=>
  p.faddr 42 v3 0 fun x5=>
  p.load h 9 x5 fun x6=>
  l 5 [v2,v3,v7,v9,x6,v24,v25,v26] h)
 (fun _=>
  l 5 [v2,v3,v7,v9,x3,v24,v25,v26] h)
theorem q_deps_Needs_4 (p:Pr) (l:LL) (Q:QQ) (s:List V) (h:Hp):zg6 p l Q (nth s 2) (nth s 3) (nth s 7) (nth s 9) (nth s 24) (nth s 25) (nth s 26) h=zan.K p EE l Q [true,true,true,true,false,true,false,false,true,true,false,false,true,true] (nths s 98 0) h:=by kernel_rfl
theorem r_deps_Needs_4 {Q:QQ} {v2 v3 v7 v9 v24 v25 v26:V} {h:Hp} (H:zg6 (Pu EE) (zan.L EE Q) Q v2 v3 v7 v9 v24 v25 v26 h):zkA Q v2 v3 v7 v9 v24 v25 v26 h:=
 labR (path:=[true,true,true,true,false,true,false,false,true,true,false,false,true,true]) rfl rfl fun s e=>by cases e; exact cast (q_deps_Needs_4 _ _ _ s h) H
noncomputable def zg0 (p:Pr) (l:LL) (Q:QQ) (v2 v3 v7 v9 v10 v24 v25 v26:V) (h:Hp):Prop:=
 p.load h 26 v2 fun x1=>
 p.call 19 [x1,v10] h fun x2 h3=>
 p.bin .lss 3 false true x2 (.int .i64 0) fun x4=>
 p.cond x4
 (fun _=>
  p.bin .add 3 false true v26 (.int .i64 1) fun x5=>
  l 1 [v2,v3,v7,v24,v25,x5] h3)
 (fun _=>
  p.faddr 26 v2 0 fun x6=>
  p.load h3 24 x6 fun x7=>
  p.iaddr 24 x7 x2 fun x8=>
  p.faddr 38 x8 2 fun x9=>
  p.load h3 36 x9 fun x10=>
  p.faddr 88 v9 3 fun x11=>
  p.faddr 85 x11 2 fun x12=>
  p.load h3 3 x12 fun x13=>
  l 2 [v2,v3,v7,v9,v10,x10,x13,v24,v25,v26] h3)
theorem q_deps_Needs_5 (p:Pr) (l:LL) (Q:QQ) (s:List V) (h:Hp):zg0 p l Q (nth s 2) (nth s 3) (nth s 7) (nth s 9) (nth s 10) (nth s 24) (nth s 25) (nth s 26) h=zan.K p EE l Q [true,true,true,true,false,true,false,false,true,true,false,false,true,true,true,true] (nths s 98 0) h:=by kernel_rfl
theorem r_deps_Needs_5 {Q:QQ} {v2 v3 v7 v9 v10 v24 v25 v26:V} {h:Hp} (H:zg0 (Pu EE) (zan.L EE Q) Q v2 v3 v7 v9 v10 v24 v25 v26 h):zkx Q v2 v3 v7 v9 v10 v24 v25 v26 h:=
 labR (path:=[true,true,true,true,false,true,false,false,true,true,false,false,true,true,true,true]) rfl rfl fun s e=>by cases e; exact cast (q_deps_Needs_5 _ _ _ s h) H
noncomputable def c_deps_rising:Code:=match Tryz.f55.body with | some c=>c | none=>.skip
noncomputable def zim:Fl:=⟨Tryz.f55,c_deps_rising,[]⟩
noncomputable def zgf (p:Pr) (l:LL) (Q:QQ) (v0:V) (h:Hp):Prop:=
 p.call 90 [v0,(.fn (.func 91) [] [])] h fun x1 h2=>
 p.call 93 [v0] h2 fun x3 h4=>
 p.call 92 [x3] h4 fun x5 h6=>
 Q x5 h6
theorem q_deps_rising_0 (p:Pr) (l:LL) (Q:QQ) (v0:V) (h:Hp):zgf p l Q v0 h=zim.K p EE l Q [] ([v0]++List.replicate 7 zj) h:=by kernel_rfl
theorem a_deps_rising {Q:QQ} {v0:V} {h:Hp} (H:zgf (Pu EE) (zim.L EE Q) Q v0 h):Ans EE 55 [v0] h Q:=
 ansL (F:=zim) (by kernel_rfl) (by kernel_rfl) (by kernel_rfl) (by kernel_rfl) (cast (q_deps_rising_0 _ _ _ v0 h) H)
noncomputable def c_deps_Cmp:Code:=match Tryz.f91.body with | some c=>c | none=>.skip
noncomputable def F_deps_Cmp:Fl:=⟨Tryz.f91,c_deps_Cmp,[]⟩
noncomputable def zjp (p:Pr) (l:LL) (Q:QQ) (v0 v1:V) (h:Hp):Prop:=
 p.box h 42 v0 fun x1 h2 b3=>
 p.box h2 42 v1 fun x4 h5 b6=>
 p.faddr 42 x1 0 fun x7=>
 p.load h5 9 x7 fun x8=>
 p.faddr 42 x4 0 fun x9=>
 p.load h5 9 x9 fun x10=>
 p.faddr 42 x1 1 fun x11=>
 p.load h5 3 x11 fun x12=>
 p.faddr 42 x4 1 fun x13=>
 p.load h5 3 x13 fun x14=>
 p.faddr 42 x1 2 fun x15=>
 p.load h5 3 x15 fun x16=>
 p.faddr 42 x4 2 fun x17=>
 p.load h5 3 x17 fun x18=>
 p.call 144 [x8,x10] h5 fun x19 h20=>
 p.load h20 3 x17 fun x21=>
 p.same x21 x18 (
 p.load h20 3 x15 fun x22=>
 p.same x22 x16 (
 p.load h20 3 x13 fun x23=>
 p.same x23 x14 (
 p.load h20 3 x11 fun x24=>
 p.same x24 x12 (
 p.call 145 [x12,x14] h20 fun x25 h26=>
 p.load h26 3 x17 fun x27=>
 p.same x27 x18 (
 p.load h26 3 x15 fun x28=>
 p.same x28 x16 (
 p.call 145 [x16,x18] h26 fun x29 h30=>
 p.bsl h30 86 3 [(0,x19),(1,x25),(2,x29)] fun x31 h32 b33=>
 p.call 143 [x31] h32 fun x34 h35=>
 Q x34 h35))))))
theorem q_deps_Cmp_0 (p:Pr) (l:LL) (Q:QQ) (v0 v1:V) (h:Hp):zjp p l Q v0 v1 h=F_deps_Cmp.K p EE l Q [] ([v0,v1]++List.replicate 20 zj) h:=by kernel_rfl
theorem a_deps_Cmp {Q:QQ} {v0 v1:V} {h:Hp} (H:zjp (Pu EE) (F_deps_Cmp.L EE Q) Q v0 v1 h):Ans EE 91 [v0,v1] h Q:=
 ansL (F:=F_deps_Cmp) (by kernel_rfl) (by kernel_rfl) (by kernel_rfl) (by kernel_rfl) (cast (q_deps_Cmp_0 _ _ _ v0 v1 h) H)
noncomputable def c_cmp_Or_int:Code:=match Tryz.f143.body with | some c=>c | none=>.skip
noncomputable def zdo:Fl:=⟨Tryz.f143,c_cmp_Or_int,[([false,true,false,true,true],[3,6,7,8])]⟩
abbrev zkB (Q:QQ) (v3 v6 v7 v8:V) (h:Hp):Prop:=zdo.L EE Q 1 [v3,v6,v7,v8] h
noncomputable def zgZ (p:Pr) (l:LL) (Q:QQ) (v0:V) (h:Hp):Prop:=
 p.lbui h #[86] .len [v0] fun x1=>
 l 1 [(.int .i64 0),v0,x1,(.int .i64 0)] h
theorem q_cmp_Or_int_0 (p:Pr) (l:LL) (Q:QQ) (v0:V) (h:Hp):zgZ p l Q v0 h=zdo.K p EE l Q [] ([v0]++List.replicate 17 zj) h:=by kernel_rfl
theorem a_cmp_Or_int {Q:QQ} {v0:V} {h:Hp} (H:zgZ (Pu EE) (zdo.L EE Q) Q v0 h):Ans EE 143 [v0] h Q:=
 ansL (F:=zdo) (by kernel_rfl) (by kernel_rfl) (by kernel_rfl) (by kernel_rfl) (cast (q_cmp_Or_int_0 _ _ _ v0 h) H)
noncomputable def zeT (p:Pr) (l:LL) (Q:QQ) (v3 v6 v7 v8:V) (h:Hp):Prop:=
 p.bin .lss 3 false false v8 v7 fun x1=>
 p.cond x1
 (fun _=>
  p.iaddr 86 v6 v8 fun x2=>
  p.load h 3 x2 fun x3=>
  p.bin .neq 3 false false x3 v3 fun x4=>
  p.cond x4
  (fun _=>
  Q x3 h)
  (fun _=>
  p.bin .add 3 false true v8 (.int .i64 1) fun x5=>
  l 1 [v3,v6,v7,x5] h))
 (fun _=>
  Q v3 h)
theorem q_cmp_Or_int_1 (p:Pr) (l:LL) (Q:QQ) (s:List V) (h:Hp):zeT p l Q (nth s 3) (nth s 6) (nth s 7) (nth s 8) h=zdo.K p EE l Q [true,true,false,true,false] (nths s 18 0) h:=by kernel_rfl
theorem zkp {Q:QQ} {v3 v6 v7 v8:V} {h:Hp} (H:zeT (Pu EE) (zdo.L EE Q) Q v3 v6 v7 v8 h):zkB Q v3 v6 v7 v8 h:=
 labR (path:=[true,true,false,true,false]) rfl rfl fun s e=>by cases e; exact cast (q_cmp_Or_int_1 _ _ _ s h) H
noncomputable def zkg:Code:=match Tryz.f144.body with | some c=>c | none=>.skip
noncomputable def zcO:Fl:=⟨Tryz.f144,zkg,[]⟩
noncomputable def zb4 (p:Pr) (l:LL) (Q:QQ) (v0 v1:V) (h:Hp):Prop:=
 p.call 205 [v0] h fun x1 h2=>
 p.call 205 [v1] h2 fun x3 h4=>
 p.cond x1
 (fun _=>
  p.cond x3
  (fun _=>
  Q (.int .i64 0) h4)
  (fun _=>
  Q (.int .i64 (-1)) h4))
 (fun _=>
  p.cond x3
  (fun _=>
  Q (.int .i64 1) h4)
  (fun _=>
  p.bin .lss 9 false false v0 v1 fun x5=>
  p.cond x5
  (fun _=>
   Q (.int .i64 (-1)) h4)
  (fun _=>
   p.bin .gtr 9 false false v0 v1 fun x6=>
   p.cond x6
   (fun _=>
   Q (.int .i64 1) h4)
   (fun _=>
   Q (.int .i64 0) h4))))
theorem ziE (p:Pr) (l:LL) (Q:QQ) (v0 v1:V) (h:Hp):zb4 p l Q v0 v1 h=zcO.K p EE l Q [] ([v0,v1]++List.replicate 18 zj) h:=by kernel_rfl
theorem zkh {Q:QQ} {v0 v1:V} {h:Hp} (H:zb4 (Pu EE) (zcO.L EE Q) Q v0 v1 h):Ans EE 144 [v0,v1] h Q:=
 ansL (F:=zcO) (by kernel_rfl) (by kernel_rfl) (by kernel_rfl) (by kernel_rfl) (cast (ziE _ _ _ v0 v1 h) H)
noncomputable def c_cmp_Compare_int:Code:=match Tryz.f145.body with | some c=>c | none=>.skip
noncomputable def zeE:Fl:=⟨Tryz.f145,c_cmp_Compare_int,[]⟩
noncomputable def zbO (p:Pr) (l:LL) (Q:QQ) (v0 v1:V) (h:Hp):Prop:=
 p.call 206 [v0] h fun x1 h2=>
 p.call 206 [v1] h2 fun x3 h4=>
 p.cond x1
 (fun _=>
  p.cond x3
  (fun _=>
  Q (.int .i64 0) h4)
  (fun _=>
  Q (.int .i64 (-1)) h4))
 (fun _=>
  p.cond x3
  (fun _=>
  Q (.int .i64 1) h4)
  (fun _=>
  p.bin .lss 3 false false v0 v1 fun x5=>
  p.cond x5
  (fun _=>
   Q (.int .i64 (-1)) h4)
  (fun _=>
   p.bin .gtr 3 false false v0 v1 fun x6=>
   p.cond x6
   (fun _=>
   Q (.int .i64 1) h4)
   (fun _=>
   Q (.int .i64 0) h4))))
theorem zk5 (p:Pr) (l:LL) (Q:QQ) (v0 v1:V) (h:Hp):zbO p l Q v0 v1 h=zeE.K p EE l Q [] ([v0,v1]++List.replicate 18 zj) h:=by kernel_rfl
theorem zhy {Q:QQ} {v0 v1:V} {h:Hp} (H:zbO (Pu EE) (zeE.L EE Q) Q v0 v1 h):Ans EE 145 [v0,v1] h Q:=
 ansL (F:=zeE) (by kernel_rfl) (by kernel_rfl) (by kernel_rfl) (by kernel_rfl) (cast (zk5 _ _ _ v0 v1 h) H)
noncomputable def c_cmp_isNaN_string:Code:=match Tryz.f205.body with | some c=>c | none=>.skip
noncomputable def zd6:Fl:=⟨Tryz.f205,c_cmp_isNaN_string,[]⟩
noncomputable def zcS (p:Pr) (l:LL) (Q:QQ) (v0:V) (h:Hp):Prop:=
 p.bin .neq 9 false false v0 v0 fun x1=>
 Q x1 h
theorem zke (p:Pr) (l:LL) (Q:QQ) (v0:V) (h:Hp):zcS p l Q v0 h=zd6.K p EE l Q [] ([v0]++List.replicate 5 zj) h:=by kernel_rfl
theorem a_cmp_isNaN_string {Q:QQ} {v0:V} {h:Hp} (H:zcS (Pu EE) (zd6.L EE Q) Q v0 h):Ans EE 205 [v0] h Q:=
 ansL (F:=zd6) (by kernel_rfl) (by kernel_rfl) (by kernel_rfl) (by kernel_rfl) (cast (zke _ _ _ v0 h) H)
noncomputable def c_cmp_isNaN_int:Code:=match Tryz.f206.body with | some c=>c | none=>.skip
noncomputable def zfS:Fl:=⟨Tryz.f206,c_cmp_isNaN_int,[]⟩
noncomputable def zcq (p:Pr) (l:LL) (Q:QQ) (v0:V) (h:Hp):Prop:=
 p.bin .neq 3 false false v0 v0 fun x1=>
 Q x1 h
theorem q_cmp_isNaN_int_0 (p:Pr) (l:LL) (Q:QQ) (v0:V) (h:Hp):zcq p l Q v0 h=zfS.K p EE l Q [] ([v0]++List.replicate 5 zj) h:=by kernel_rfl
theorem zjg {Q:QQ} {v0:V} {h:Hp} (H:zcq (Pu EE) (zfS.L EE Q) Q v0 h):Ans EE 206 [v0] h Q:=
 ansL (F:=zfS) (by kernel_rfl) (by kernel_rfl) (by kernel_rfl) (by kernel_rfl) (cast (q_cmp_isNaN_int_0 _ _ _ v0 h) H)
end
end Go.Proofs.YtbchdlelmkmagaaGreatDoor.VM
namespace Go.Proofs.YtbchdlelmkmagaaGreatDoor.VM
open Go
set_option linter.unusedVariables false
set_option linter.unusedSectionVars false
set_option linter.unusedSimpArgs false
set_option maxRecDepth 20000
noncomputable section
attribute [local instance] syZ
theorem pu_sgtr (t:Nat) (cx cy:Bool) (a b:List Nat) (q:V→Prop):(Pu EE).bin .gtr t cx cy (.str a) (.str b) q↔q (.bool (slt b a)):=by
 show (∃ v,vbin .gtr (.str a) (.str b)=some v∧q v)↔_
 simp only [vbin,zT]
def zkj (a b:List Nat):Int:=if slt a b then -1 else if slt b a then 1 else 0
def icmpZ (a b:Nat):Int:=if a < b then -1 else if b < a then 1 else 0
theorem nanS (a:List Nat) (h:Hp):Ans EE 205 [.str a] h fun x h'=>x=.bool false∧h'=h:=by
 apply a_cmp_isNaN_string
 unfold zcS
 rw [pu_sneq]
 exact ⟨by simp,rfl⟩
theorem nanI (a:Nat) (h:Hp):Ans EE 206 [.int .i64 a] h fun x h'=>x=.bool false∧h'=h:=by
 apply zjg
 unfold zcq
 rw [pu_neq]
 exact ⟨by simp,rfl⟩
theorem cmpS_ok (a b:List Nat) (h:Hp):Ans EE 144 [.str a,.str b] h fun x h'=>x=.int .i64 (zkj a b)∧h'=h:=by
 apply zkh
 unfold zb4
 refine (nanS a h).mono ?_
 rintro x h1 ⟨rfl,rfl⟩
 refine (nanS b h1).mono ?_
 rintro x h2 ⟨rfl,rfl⟩
 rw [zb,zb,pu_slss,ziU]
 unfold zkj
 refine ⟨fun e=>⟨by rw [e]; rfl,rfl⟩,fun e=>?_⟩
 rw [pu_sgtr,ziU]
 rw [e]
 exact ⟨fun e2=>⟨by rw [e2]; rfl,rfl⟩,fun e2=>⟨by rw [e2]; rfl,rfl⟩⟩
theorem cmpI_ok (a b:Nat) (h:Hp):Ans EE 145 [.int .i64 a,.int .i64 b] h fun x h'=>x=.int .i64 (icmpZ a b)∧h'=h:=by
 apply zhy
 unfold zbO
 refine (nanI a h).mono ?_
 rintro x h1 ⟨rfl,rfl⟩
 refine (nanI b h1).mono ?_
 rintro x h2 ⟨rfl,rfl⟩
 rw [zb,zb,zr,zi]
 unfold icmpZ
 refine ⟨fun e=>⟨by rw [if_pos e],rfl⟩,fun e=>?_⟩
 rw [gtrN,zi,if_neg e]
 exact ⟨fun e2=>⟨by rw [if_pos e2],rfl⟩,fun e2=>⟨by rw [if_neg e2],rfl⟩⟩
def orZ:List Int→Int
 | []=>0
 | a::l=>if a=0 then orZ l else a
theorem or_ok (h:Hp) (v:V) (l:List Int) (hv:Rd h 1 v l.length (l.map fun z=>V.int .i64 z)) (hl:l.length < 1000000):Ans EE 143 [v] h fun x h'=>x=.int .i64 (orZ l)∧h'=h:=by
 apply a_cmp_Or_int
 unfold zgZ
 rw [zp hv zbS]
 have loop:∀ (k i:Nat),l.length - i=k→i≤l.length→orZ (l.drop i)=orZ l→zkB (fun x h'=>x=.int .i64 (orZ l)∧h'=h) (.int .i64 0) v (.int .i64 l.length) (.int .i64 i) h:=by
  intro k
  induction k with
  | zero=>
   intro i hk hi he
   apply zkp
   unfold zeT
   rw [zr,zi]
   refine ⟨fun q=>absurd q (by omega),fun _=>⟨?_,rfl⟩⟩
   rw [List.drop_eq_nil_of_le (by omega)] at he
   rw [← he]; rfl
  | succ k ih=>
   intro i hk hi he
   apply zkp
   unfold zeT
   rw [zr,zi]
   refine ⟨fun q=>?_,fun q=>absurd (by omega) q⟩
   obtain ⟨b1,o1,g1,g2,_⟩:=zde hv zbS zm (i:=i) (x:=.int .i64 l[i]) (by rw [List.getElem?_map,List.getElem?_eq_getElem q]; rfl)
   rw [g1,g2,pu_neq,zjI]
   rw [zcd q,orZ] at he
   refine ⟨fun e=>⟨?_,rfl⟩,fun e=>?_⟩
   ·rw [if_neg e] at he; rw [he]
   ·rw [if_pos e] at he
    rw [zK _ _ _ _ (by omega)]
    exact ih (i+1) (by omega) (by omega) he
 exact loop _ 0 rfl (by omega) rfl
def spCmpZ (a b:Spt):Int:=if spLt a b then -1 else if spLt b a then 1 else 0
theorem or_cmp (a b:Spt):orZ [zkj a.s b.s,icmpZ a.r b.r,icmpZ a.c b.c]=spCmpZ a b:=by
 unfold spCmpZ
 simp only [orZ]
 rcases slt_tri a.s b.s with h | h | h
 ·have h1:zkj a.s b.s = -1:=by unfold zkj; rw [h]; rfl
  have h2:spLt a b=true:=(zcI a b).2 (.inl h)
  rw [h1,h2]; rfl
 ·have h1:zkj a.s b.s=0:=by unfold zkj; rw [h,zhb]; rfl
  have hab:spLt a b=true↔a.r < b.r∨a.r=b.r∧a.c < b.c:=by rw [zcI,h,zhb]; simp
  have hba:spLt b a=true↔b.r < a.r∨b.r=a.r∧b.c < a.c:=by rw [zcI,h,zhb]; simp
  have lt_:∀ x y:Nat,x < y→icmpZ x y = -1:=fun x y q=>by unfold icmpZ; rw [if_pos q]
  have gt_:∀ x y:Nat,y < x→icmpZ x y=1:=fun x y q=>by unfold icmpZ; rw [if_neg (by omega),if_pos q]
  have eq_:∀ x y:Nat,x=y→icmpZ x y=0:=fun x y q=>by unfold icmpZ; rw [if_neg (by omega),if_neg (by omega)]
  have no1:¬ (a.r < b.r∨a.r=b.r∧a.c < b.c)→spLt a b=false:=fun q=>by cases e:spLt a b with | false=>rfl | true=>exact absurd (hab.1 e) q
  have no2:¬ (b.r < a.r∨b.r=a.r∧b.c < a.c)→spLt b a=false:=fun q=>by cases e:spLt b a with | false=>rfl | true=>exact absurd (hba.1 e) q
  rcases Nat.lt_trichotomy a.r b.r with k | k | k
  ·simp [h1,lt_ _ _ k,hab.2 (.inl k)]
  ·rcases Nat.lt_trichotomy a.c b.c with q | q | q
   ·simp [h1,eq_ _ _ k,lt_ _ _ q,hab.2 (.inr ⟨k,q⟩)]
   ·simp [h1,eq_ _ _ k,eq_ _ _ q,no1 (by omega),no2 (by omega)]
   ·simp [h1,eq_ _ _ k,gt_ _ _ q,no1 (by omega),hba.2 (.inr ⟨k.symm,q⟩)]
  ·simp [h1,gt_ _ _ k,no1 (by omega),hba.2 (.inl k)]
 ·have h1:zkj a.s b.s=1:=by unfold zkj; rw [h,slt_asym h]; rfl
  have h2:spLt b a=true:=(zcI b a).2 (.inl h)
  rw [h1,h2,spLt_asym h2]; rfl
theorem cmp_ok (a b:Spt) (h:Hp):Ans EE 91 [spV a,spV b] h fun x h'=>x=.int .i64 (spCmpZ a b)∧Ext h.n h h':=by
 apply a_deps_Cmp
 unfold zjp
 refine zW (cs:=spC a) rfl fun h1 b1 w1=>?_
 refine zW (cs:=spC b) rfl fun h2 b2 w2=>?_
 have n1:=w1.n
 have n2:=w2.n
 have e1:=w1.b
 have e2:=w2.b
 have x2:Ext h.n h h2:=(w1.ext (Nat.le_refl _)).trans (w2.ext (by omega))
 have hb1:h2.t.get b1=some (.cells (spC a) 42 false):=by rw [w2.old b1 (by omega)]; exact w1.at_
 have hb2:=w2.at_
 simp only [z8,zae,zac]
 rw [za zL hb1 rfl,za zL hb2 rfl,za zm hb1 rfl,za zm hb2 rfl,za zm hb1 rfl,za zm hb2 rfl]
 refine (cmpS_ok a.s b.s h2).mono ?_
 rintro x h3 ⟨rfl,rfl⟩
 rw [za zm hb2 rfl,zab,za zm hb1 rfl,zab,za zm hb2 rfl,zab,za zm hb1 rfl,zab]
 refine (cmpI_ok a.r b.r h3).mono ?_
 rintro x h4 ⟨rfl,rfl⟩
 rw [za zm hb2 rfl,zab,za zm hb1 rfl,zab]
 refine (cmpI_ok a.c b.c h4).mono ?_
 rintro x h5 ⟨rfl,rfl⟩
 refine pu_bslX zbS zm _ (by simp [zcU]) rfl (by omega) fun h6 b6 w6=>?_
 have hrd:Rd h6 1 (.sl b6 0 3 3) 3 ([zkj a.s b.s,icmpZ a.r b.r,icmpZ a.c b.c].map fun z=>V.int .i64 z):=
  ⟨rfl,.inr ⟨b6,0,_,zcH w6.at_,rfl,.inl ⟨3,rfl⟩⟩⟩
 refine (or_ok h6 _ [zkj a.s b.s,icmpZ a.r b.r,icmpZ a.c b.c] hrd (by simp)).mono ?_
 rintro x h7 ⟨rfl,rfl⟩
 exact ⟨by rw [or_cmp],x2.trans (w6.ext (by omega))⟩
end
end Go.Proofs.YtbchdlelmkmagaaGreatDoor.VM
namespace Go.Proofs.YtbchdlelmkmagaaGreatDoor.VM
open Go
set_option linter.unusedVariables false
set_option linter.unusedSectionVars false
set_option linter.unusedSimpArgs false
set_option maxRecDepth 20000
noncomputable section
attribute [local instance] syZ
theorem ti_string:∃ i,EE.ty.get 9=some i∧i.k=.str:=zhD
theorem eqlB (a b:Nat) (t:Nat) (cx cy:Bool) (q:V→Prop):(Pu EE).bin .eql t cx cy (.int .u8 a) (.int .u8 b) q↔q (.bool (Nat.beq a b)):=by
 rw [zcJ]
 have:decide ((a:Int)=(b:Int))=Nat.beq a b:=by
  rw [Bool.eq_iff_iff,decide_eq_true_iff,Nat.beq_eq]; omega
 rw [this]
def fCols (nm:List Nat) (r:Nat) (row:List (List Nat)) (c n:Nat):List Spt:=(zjc nm r c n).filter fun s=>is61 ((row[s.c]?).getD [])
structure FS (N:Nat) (h0 h:Hp) (v:V) (acc:List Spt):Prop where
 own:OwnS N h v acc
 n:N≤h.n
 ext:Ext N h0 h
structure SB (h:Hp) (v:V) (b4:Nat) (s:Sht) (rv:V):Prop where
 at_:h.t.get b4=some (.cells (shtC s rv) 38 false)
 lt:b4 < h.n
 ne:zI v ≠ some b4
section
variable (Q:V→Hp→Prop) (M N:Nat) (h0:Hp) (sv:V) (bk:Bok) (hN0:N=h0.n) (hM:M≤N) (hs:zdB M h0 sv bk) (hfit:(zJ bk).length≤100000) (hbl:bk.length < 1000000) (hrl:∀ s ∈ bk,s.rows.length < 1000000∧∀ row ∈ s.rows,row.length < 1000000)
include hN0 hM hs hfit hbl hrl
theorem form_loop3 (i r b4:Nat) (s:Sht) (row:List (List Nat)) (rv wv:V) (tot:List Spt) (ht:tot.length≤100000) (hi:bk[i]? = some s) (hrow:s.rows[r]? = some row) (hw:RowAt M h0 wv row)
  (rest:List Spt) (hnext:∀ (h:Hp) (v:V) (acc:List Spt),FS N h0 h v acc→SB h v b4 s rv→acc++rest=tot→zes Q v (.ptr b4 0) sv (.int .i64 bk.length) (.int .i64 i) rv (.int .i64 s.rows.length) (.int .i64 (r+1:Nat)) h):
  ∀ (k c:Nat),row.length - c=k→∀ (h:Hp) (v:V) (acc:List Spt),FS N h0 h v acc→SB h v b4 s rv→acc++(fCols s.name r row c row.length++rest)=tot→c≤row.length →
   zeK Q v (.ptr b4 0) (.int .i64 r) sv (.int .i64 bk.length) (.int .i64 i) rv (.int .i64 s.rows.length) (.int .i64 r) wv (.int .i64 row.length) (.int .i64 c) h:=by
 have hrl1:=hrl s (List.mem_of_getElem? hi)
 have hrr:=(List.getElem?_eq_some_iff.1 hrow).1
 have hrowl:=hrl1.2 row (List.mem_of_getElem? hrow)
 obtain ⟨ti,ti1,ti2⟩:=ti_string
 intro k
 induction k with
 | zero=>
  intro c hk h v acc S B he hc
  apply zht
  unfold zcz
  rw [zr,zi]
  refine ⟨fun h1=>absurd h1 (by omega),fun _=>?_⟩
  rw [zK _ _ _ _ (by omega)]
  unfold fCols at he
  rw [colsL_end (by omega),List.filter_nil,List.nil_append] at he
  exact hnext h v acc S B he
 | succ k ih=>
  intro c hk h v acc S B he hc
  apply zht
  unfold zcz
  rw [zr,zi]
  refine ⟨fun h1=>?_,fun h1=>absurd (by omega) h1⟩
  obtain ⟨b1,o1,g1,g2⟩:=row_get (hw.ext (S.ext.mono hM)) z7 zL (List.getElem?_eq_getElem h1)
  rw [g1,g2,pu_sneq]
  have hstep:fCols s.name r row c row.length=(if is61 row[c]=true then [⟨s.name,r,c⟩] else [])++fCols s.name r row (c+1) row.length:=by
   unfold fCols
   rw [colsL_step h1,List.filter_cons]
   simp only [List.getElem?_eq_getElem h1,Option.getD_some]
   split <;> rfl
  rw [hstep] at he
  have hskip:is61 row[c]=false→zeK Q v (.ptr b4 0) (.int .i64 r) sv (.int .i64 bk.length) (.int .i64 i) rv (.int .i64 s.rows.length) (.int .i64 r) wv (.int .i64 row.length) (.int .i64 (c+1:Nat)) h:=fun e=>by
   rw [e] at he
   exact ih (c+1) (by omega) h v acc S B (by simpa using he) (by omega)
  cases htx:row[c] with
  | nil=>
   rw [htx] at hskip
   simp only [decide_true,Bool.not_true,zS,zo,zb]
   rw [zK _ _ _ _ (by omega)]
   exact hskip rfl
  | cons x xs=>
   rw [htx] at hskip he
   have e1:(!decide ((x::xs)=([]:List Nat)))=true:=by simp
   rw [e1]
   simp only [zu,zB]
   rw [show (0:Int)=((0:Nat):Int) from rfl,pu_sidx _ ti ti1 ti2 (x::xs) .i64 0 (by simp),show (61:Int)=((61:Nat):Int) from rfl,eqlB]
   simp only [List.getElem_cons_zero]
   rw [ziU]
   refine ⟨fun e=>?_,fun e=>?_⟩
   ·rw [zbF,za zL B.at_ rfl,mk_spot]
    have e6:is61 (x::xs)=true:=e
    rw [e6,if_pos rfl] at he
    have hal:acc.length+1≤1048576:=by
     have:=congrArg List.length he
     simp only [List.length_append,List.length_cons] at this
     omega
    refine zcg S.own _ hal S.n _ fun v' h' o' x' f' b'=>?_
    rw [zK _ _ _ _ (by omega)]
    refine ih (c+1) (by omega) h' v' (acc++[⟨s.name,r,c⟩]) ⟨o',Nat.le_trans S.n x'.n,S.ext.trans x'⟩ ⟨by rw [f' b4 B.lt B.ne]; exact B.at_,Nat.lt_of_lt_of_le B.lt x'.n,fun q=>?_⟩ ?_ (by omega)
    ·rcases b' b4 q with q | q
     ·exact B.ne q
     ·have:=B.lt; omega
    ·rw [← he]; simp
   ·rw [zK _ _ _ _ (by omega)]
    exact hskip e
def fRows (nm:List Nat):Nat→List (List (List Nat))→List Spt
 | _,[]=>[]
 | r,row::rows=>fCols nm r row 0 row.length++fRows nm (r+1) rows
theorem form_loop2 (i b4:Nat) (s:Sht) (rv:V) (tot:List Spt) (ht:tot.length≤100000) (hi:bk[i]? = some s) (hrv:zdz M h0 rv s.rows) (rest:List Spt)
  (hnext:∀ (h:Hp) (v:V) (acc:List Spt),FS N h0 h v acc→acc++rest=tot→zep Q v sv (.int .i64 bk.length) (.int .i64 (i+1:Nat)) h):
  ∀ (k r:Nat),s.rows.length - r=k→∀ (h:Hp) (v:V) (acc:List Spt),FS N h0 h v acc→SB h v b4 s rv→acc++(fRows s.name r (s.rows.drop r)++rest)=tot→r≤s.rows.length →
   zes Q v (.ptr b4 0) sv (.int .i64 bk.length) (.int .i64 i) rv (.int .i64 s.rows.length) (.int .i64 r) h:=by
 have hrl1:=hrl s (List.mem_of_getElem? hi)
 have hil:=(List.getElem?_eq_some_iff.1 hi).1
 intro k
 induction k with
 | zero=>
  intro r hk h v acc S B he hr
  apply zhI
  unfold zcv
  rw [zr,zi]
  refine ⟨fun h1=>absurd h1 (by omega),fun _=>?_⟩
  rw [zK _ _ _ _ (by omega)]
  rw [List.drop_eq_nil_of_le (by omega:s.rows.length≤r)] at he
  exact hnext h v acc S he
 | succ k ih=>
  intro r hk h v acc S B he hr
  apply zhI
  unfold zcv
  rw [zr,zi]
  refine ⟨fun h1=>?_,fun h1=>absurd (by omega) h1⟩
  obtain ⟨us,q1,q2,q3⟩:=hrv
  obtain ⟨w,q4,q5⟩:=q3 r _ (List.getElem?_eq_getElem h1)
  obtain ⟨b3,o3,p1,p2,_⟩:=zde (q1.ext (S.ext.mono hM) q2) zn zaz q4
  have hw:=q5.ext (S.ext.mono hM)
  rw [p1,p2,zp hw.1 z7]
  rw [zcd h1,fRows,List.append_assoc] at he
  exact form_loop3 Q M N h0 sv bk hN0 hM hs hfit hbl hrl i r b4 s s.rows[r] rv w tot ht hi (List.getElem?_eq_getElem h1) q5 _ (fun h' v' acc' S' B' he'=>ih (r+1) (by omega) h' v' acc' S' B' he' (by omega)) _ 0 rfl h v acc S B he (by omega)
def fAll:Bok→List Spt
 | []=>[]
 | s::b=>fRows s.name 0 s.rows++fAll b
theorem form_loop1 (tot:List Spt) (ht:tot.length≤100000) (hq:∀ (h:Hp) (v:V),FS N h0 h v tot→Q v h):
  ∀ (k i:Nat),bk.length - i=k→∀ (h:Hp) (v:V) (acc:List Spt),FS N h0 h v acc→acc++fAll (bk.drop i)=tot→i≤bk.length→zep Q v sv (.int .i64 bk.length) (.int .i64 i) h:=by
 intro k
 induction k with
 | zero=>
  intro i hk h v acc S he hi
  apply zhw
  unfold zcD
  rw [zr,zi]
  refine ⟨fun h1=>absurd h1 (by omega),fun _=>?_⟩
  rw [List.drop_eq_nil_of_le (by omega:bk.length≤i)] at he
  have e:acc=tot:=by simpa [fAll] using he
  subst e
  exact hq h v S
 | succ k ih=>
  intro i hk h v acc S he hi
  apply zhw
  unfold zcD
  rw [zr,zi]
  refine ⟨fun h1=>?_,fun h1=>absurd (by omega) h1⟩
  have hsn:=S.n
  obtain ⟨cs,q1,q2,q3⟩:=hs
  obtain ⟨rv,q4,q5⟩:=q3 i _ (List.getElem?_eq_getElem h1)
  obtain ⟨b1,o1,g1,g2,_⟩:=zfT (q1.ext (S.ext.mono hM) q2) zl zH (by omega) h1 q4
  obtain ⟨us,hu⟩:=q5.rd
  have hcl':zh (shtC bk[i] rv)=true:=by
   show (bif rv.isCell then zh [] else false)=true
   rw [hu.c1.2]; rfl
  rw [g1,g2]
  refine zq zH fun h3 b3 w3=>?_
  refine zC zH w3.at_ (x:=.agg (shtC bk[i] rv)) rfl hcl' (r:=shtC bk[i] rv) rfl fun h4 w4=>?_
  have n3:=w3.n
  have e3:=w3.b
  have n4:=w4.n
  have x4:Ext h.n h h4:=(w3.ext (Nat.le_refl _)).trans (w4.ext (by omega))
  have S4:FS N h0 h4 v acc:=⟨S.own.keep x4.n fun c hc=>x4.old c (S.own.in_ c hc),by omega,S.ext.trans (x4.mono hsn)⟩
  have hr4:=q5.ext (S4.ext.mono hM)
  obtain ⟨us4,hu4⟩:=hr4.rd
  rw [zG,za zD w4.at_ rfl,zp hu4 zn]
  rw [zcd h1,fAll] at he
  exact form_loop2 Q M N h0 sv bk hN0 hM ⟨cs,q1,q2,q3⟩ hfit hbl hrl i b3 bk[i] rv tot ht (List.getElem?_eq_getElem h1) q5 _ (fun h' v' acc' S' he'=>ih (i+1) (by omega) h' v' acc' S' he' (by omega)) _ 0 rfl h4 v acc S4
   ⟨w4.at_,by omega,fun q=>by have:=S.own.in_ b3 q; omega⟩ he (by omega)
end
theorem fCols_eq {nm:List Nat} {r:Nat} {row:List (List Nat)}:fCols nm r row 0 row.length=(ze6 nm r row).filter fun s=>is61 ((row[s.c]?).getD []):=by rw [rowSpots_cols]; rfl
theorem fRows_eq (f:Spt→Bool) (nm:List Nat) (all:List (List (List Nat))) (hf:∀ (r:Nat) (row:List (List Nat)) (c:Nat) (t:List Nat),all[r]? = some row→row[c]? = some t→f ⟨nm,r,c⟩=is61 t):
  ∀ (rows:List (List (List Nat))) (r:Nat),all.drop r=rows→fRows nm r rows=(zbl nm r rows).filter f
 | [],r,_=>rfl
 | row::rows,r,h=>by
  have hlt:r < all.length:=by
   have:=congrArg List.length h
   simp at this; omega
  have hrow:all[r]? = some row:=by
   have:(all.drop r)[0]? = some row:=by rw [h]; rfl
   simpa using this
  rw [fRows,zbl,List.filter_append,fRows_eq f nm all hf rows (r+1) (by rw [← List.tail_drop,h]; rfl),fCols_eq]
  congr 1
  apply List.filter_congr
  intro s hs
  obtain ⟨h1,h2,h3⟩:=zjq.1 hs
  obtain ⟨a,b,c⟩:=s
  simp only at h1 h2 h3
  subst h1; subst h2
  rw [hf b row c row[c] hrow (List.getElem?_eq_getElem h3),List.getElem?_eq_getElem h3]
  rfl
theorem fAll_eq (f:Spt→Bool):∀ (bk:Bok),(∀ s ∈ bk,∀ (r:Nat) (row:List (List Nat)) (c:Nat) (t:List Nat),s.rows[r]? = some row→row[c]? = some t→f ⟨s.name,r,c⟩=is61 t)→fAll bk=(zJ bk).filter f
 | [],_=>rfl
 | s::bk,h=>by
  rw [fAll,zJ,List.filter_append,fAll_eq f bk (fun t ht=>h t (by simp [ht])),fRows_eq f s.name s.rows (h s (by simp)) s.rows 0 rfl]
theorem getC_at {bk:Bok} (hr:Rises bk) {s:Sht} (hs:s ∈ bk) {r:Nat} {row:List (List Nat)} {c:Nat} {t:List Nat} (h1:s.rows[r]? = some row) (h2:row[c]? = some t):getC bk ⟨s.name,r,c⟩=t:=by
 unfold getC
 simp only [zj6 hr hs,h1,h2,Option.getD_some]
theorem fAll_cells {bk:Bok} (g:Good bk):fAll bk=zt bk:=by
 refine fAll_eq (hasF bk) bk fun s hs r row c t h1 h2=>?_
 unfold hasF
 rw [getC_at g.ris hs h1 h2]
 have ht:=g.text s hs row (List.mem_of_getElem? h1) t (List.mem_of_getElem? h2)
 rw [← ht.some_,ht.eq61]
theorem formulas_ok (M:Nat) (h:Hp) (v:V) (bk:Bok) (hv:zir M h v bk) (hM:M≤h.n) (g:Good bk):Ans EE 26 [v] h fun x h'=>OwnS h.n h' x (zt bk)∧Ext h.n h h':=by
 obtain ⟨sv,rfl,hs⟩:=hv
 obtain ⟨cs,hrd⟩:=hs.rd
 have hcell:zh [sv]=true:=by have:=hrd.c1; simp [zh,this.2]
 apply a_deps_formulas
 unfold zeo
 refine zW (cs:=[sv]) hcell fun h1 b w=>?_
 have n1:=w.n
 have e1:=w.b
 have hx:=w.ext (Nat.le_refl h.n)
 have hs1:=hs.ext (hx.mono hM)
 obtain ⟨cs1,hrd1⟩:=hs1.rd
 rw [zw,za zk w.at_ rfl,zp hrd1 zl]
 exact form_loop1 _ M h1.n h1 sv bk rfl (by omega) hs1 g.fit.spots g.fit.len g.fit.rows (zt bk) (zcE g) (fun h2 v2 S=>⟨S.own.mono (by omega),hx.trans (S.ext.mono (by omega))⟩) _ 0 rfl h1 .nils [] ⟨OwnS.nil _ _,Nat.le_refl _,Ext.refl _ _⟩ (by simp [fAll_cells g]) (by omega)
end
end Go.Proofs.YtbchdlelmkmagaaGreatDoor.VM
namespace Go.Proofs.YtbchdlelmkmagaaGreatDoor.VM
open Go
set_option linter.unusedVariables false
set_option maxRecDepth 100000
noncomputable section
noncomputable def zc4:Code:=match Tryz.f90.body with | some c=>c | none=>.skip
noncomputable def zaO:Fl:=⟨Tryz.f90,zc4,[]⟩
noncomputable def zaG (p:Pr) (l:LL) (Q:QQ) (v0 v1:V) (h:Hp):Prop:=
 p.lbui h #[32] .len [v0] fun x1=>
 p.conv h 3 180 x1 fun x2=>
 p.call 142 [x2] h fun x3 h4=>
 p.call 141 [v0,(.int .i64 0),x1,x3,v1] h4 fun x5 h6=>
 Q u0 h6
theorem zcN (p:Pr) (l:LL) (Q:QQ) (v0 v1:V) (h:Hp):zaG p l Q v0 v1 h=zaO.K p EE l Q [] ([v0,v1]++List.replicate 12 zj) h:=by kernel_rfl
theorem zdb {Q:QQ} {v0 v1:V} {h:Hp} (H:zaG (Pu EE) (zaO.L EE Q) Q v0 v1 h):Ans EE 90 [v0,v1] h Q:=
 ansL (F:=zaO) (by kernel_rfl) (by kernel_rfl) (by kernel_rfl) (by kernel_rfl) (cast (zcN _ _ _ v0 v1 h) H)
noncomputable def zct:Code:=match Tryz.f195.body with | some c=>c | none=>.skip
noncomputable def zz:Fl:=⟨Tryz.f195,zct,[([false,true],[0,1,2,3,8]),([false,true,false,false,true,false,false,true],[0,1,2,3,8,9])]⟩
abbrev za8 (Q:QQ) (v0 v1 v2 v3 v8:V) (h:Hp):Prop:=zz.L EE Q 1 [v0,v1,v2,v3,v8] h
abbrev zba (Q:QQ) (v0 v1 v2 v3 v8 v9:V) (h:Hp):Prop:=zz.L EE Q 2 [v0,v1,v2,v3,v8,v9] h
noncomputable def zaA (p:Pr) (l:LL) (Q:QQ) (v0 v1 v2 v3:V) (h:Hp):Prop:=
 p.bin .add 3 false true v1 (.int .i64 1) fun x1=>
 l 1 [v0,v1,v2,v3,x1] h
theorem zb8 (p:Pr) (l:LL) (Q:QQ) (v0 v1 v2 v3:V) (h:Hp):zaA p l Q v0 v1 v2 v3 h=zz.K p EE l Q [] ([v0,v1,v2,v3]++List.replicate 49 zj) h:=by kernel_rfl
theorem zcu {Q:QQ} {v0 v1 v2 v3:V} {h:Hp} (H:zaA (Pu EE) (zz.L EE Q) Q v0 v1 v2 v3 h):Ans EE 195 [v0,v1,v2,v3] h Q:=
 ansL (F:=zz) (by kernel_rfl) (by kernel_rfl) (by kernel_rfl) (by kernel_rfl) (cast (zb8 _ _ _ v0 v1 v2 v3 h) H)
noncomputable def zai (p:Pr) (l:LL) (Q:QQ) (v0 v1 v2 v3 v8:V) (h:Hp):Prop:=
 p.bin .lss 3 false false v8 v2 fun x1=>
 p.cond x1
 (fun _=>
  l 2 [v0,v1,v2,v3,v8,v8] h)
 (fun _=>
  Q u0 h)
theorem zb9 (p:Pr) (l:LL) (Q:QQ) (s:List V) (h:Hp):zai p l Q (nth s 0) (nth s 1) (nth s 2) (nth s 3) (nth s 8) h=zz.K p EE l Q [true,false] (nths s 53 0) h:=by kernel_rfl
theorem za6 {Q:QQ} {v0 v1 v2 v3 v8:V} {h:Hp} (H:zai (Pu EE) (zz.L EE Q) Q v0 v1 v2 v3 v8 h):za8 Q v0 v1 v2 v3 v8 h:=
 labR (path:=[true,false]) rfl rfl fun s e=>by cases e; exact cast (zb9 _ _ _ s h) H
noncomputable def zah (p:Pr) (l:LL) (Q:QQ) (v0 v1 v2 v3 v8 v9:V) (h:Hp):Prop:=
 p.bin .gtr 3 false false v9 v1 fun x1=>
 p.gval x1 true (fun k2=>
  k2 v3) fun x3=>
 p.gval x1 true (fun k4=>
  k4 v0) fun x5=>
 p.gval x1 true (fun k6=>
  k6 v9) fun x7=>
 p.gval x1 true (fun k8=>
  p.iaddr 32 x5 x7 fun x9=>
  k8 x9) fun x10=>
 p.gval x1 true (fun k11=>
  p.load h 42 x10 fun x12=>
  k11 x12) fun x13=>
 p.gval x1 true (fun k14=>
  k14 v0) fun x15=>
 p.gval x1 true (fun k16=>
  k16 v9) fun x17=>
 p.gval x1 true (fun k18=>
  p.bin .sub 3 false true x17 (.int .i64 1) fun x19=>
  k18 x19) fun x20=>
 p.gval x1 true (fun k21=>
  p.iaddr 32 x15 x20 fun x22=>
  k21 x22) fun x23=>
 p.gval x1 true (fun k24=>
  p.load h 42 x23 fun x25=>
  k24 x25) fun x26=>
 p.geff x1 true (fun k27=>
  p.callv x3 [x13,x26] h fun x28 h29=>
  k27 x28 h29) h fun x30 h31=>
 p.gval x1 true (fun k32=>
  p.bin .lss 3 false true x30 (.int .i64 0) fun x33=>
  k32 x33) fun x34=>
 p.pick x1 (some x34) (some (.bool false)) fun x35=>
 p.cond x35
 (fun _=>
  p.bin .sub 3 false true v9 (.int .i64 1) fun x36=>
  p.bin .sub 3 false true v9 (.int .i64 1) fun x37=>
  p.iaddr 32 v0 x37 fun x38=>
  p.load h31 42 x38 fun x39=>
  p.iaddr 32 v0 v9 fun x40=>
  p.load h31 42 x40 fun x41=>
  p.iaddr 32 v0 v9 fun x42=>
  p.store h31 42 x42 x39 fun h43=>
  p.iaddr 32 v0 x36 fun x44=>
  p.store h43 42 x44 x41 fun h45=>
  p.bin .sub 3 false true v9 (.int .i64 1) fun x46=>
  l 2 [v0,v1,v2,v3,v8,x46] h45)
 (fun _=>
  p.bin .add 3 false true v8 (.int .i64 1) fun x47=>
  l 1 [v0,v1,v2,v3,x47] h31)
theorem zca (p:Pr) (l:LL) (Q:QQ) (s:List V) (h:Hp):zah p l Q (nth s 0) (nth s 1) (nth s 2) (nth s 3) (nth s 8) (nth s 9) h=zz.K p EE l Q [true,false,false,true,false,false,true,false] (nths s 53 0) h:=by kernel_rfl
theorem za7 {Q:QQ} {v0 v1 v2 v3 v8 v9:V} {h:Hp} (H:zah (Pu EE) (zz.L EE Q) Q v0 v1 v2 v3 v8 v9 h):zba Q v0 v1 v2 v3 v8 v9 h:=
 labR (path:=[true,false,false,true,false,false,true,false]) rfl rfl fun s e=>by cases e; exact cast (zca _ _ _ s h) H
noncomputable def zei:Code:=match Tryz.f92.body with | some c=>c | none=>.skip
noncomputable def za1:Fl:=⟨Tryz.f92,zei,[]⟩
noncomputable def zaR (p:Pr) (l:LL) (Q:QQ) (v0:V) (h:Hp):Prop:=
 p.bin .eql 32 false true v0 .nils fun x1=>
 p.cond x1
 (fun _=>
  Q .nils h)
 (fun _=>
  p.bsl h 32 0 [] fun x2 h3 b4=>
  p.ebui h3 #[32,32] .append [x2,v0] fun x5 h6=>
  Q x5 h6)
theorem zdu (p:Pr) (l:LL) (Q:QQ) (v0:V) (h:Hp):zaR p l Q v0 h=za1.K p EE l Q [] ([v0]++List.replicate 7 zj) h:=by kernel_rfl
theorem zeg {Q:QQ} {v0:V} {h:Hp} (H:zaR (Pu EE) (za1.L EE Q) Q v0 h):Ans EE 92 [v0] h Q:=
 ansL (F:=za1) (by kernel_rfl) (by kernel_rfl) (by kernel_rfl) (by kernel_rfl) (cast (zdu _ _ _ v0 h) H)
noncomputable def zdw:Code:=match Tryz.f93.body with | some c=>c | none=>.skip
noncomputable def zX:Fl:=⟨Tryz.f93,zdw,[([false,true,false,true,true],[0,3]),([false,true,false,true,false,true,false,false,true,false,false,true,false,true,true],[0,3,4,5])]⟩
abbrev zbo (Q:QQ) (v0 v3:V) (h:Hp):Prop:=zX.L EE Q 1 [v0,v3] h
noncomputable def zaJ (p:Pr) (l:LL) (Q:QQ) (v0:V) (h:Hp):Prop:=
 p.lbui h #[32] .len [v0] fun x1=>
 p.bin .lss 3 false true x1 (.int .i64 2) fun x2=>
 p.cond x2
 (fun _=>
  Q v0 h)
 (fun _=>
  l 1 [v0,(.int .i64 1)] h)
theorem zcW (p:Pr) (l:LL) (Q:QQ) (v0:V) (h:Hp):zaJ p l Q v0 h=zX.K p EE l Q [] ([v0]++List.replicate 60 zj) h:=by kernel_rfl
theorem zds {Q:QQ} {v0:V} {h:Hp} (H:zaJ (Pu EE) (zX.L EE Q) Q v0 h):Ans EE 93 [v0] h Q:=
 ansL (F:=zX) (by kernel_rfl) (by kernel_rfl) (by kernel_rfl) (by kernel_rfl) (cast (zcW _ _ _ v0 h) H)
noncomputable def zaq (p:Pr) (l:LL) (Q:QQ) (v0 v3:V) (h:Hp):Prop:=
 p.lbui h #[32] .len [v0] fun x1=>
 p.bin .lss 3 false false v3 x1 fun x2=>
 p.cond x2
 (fun _=>
  p.iaddr 32 v0 v3 fun x3=>
  p.load h 42 x3 fun x4=>
  p.bin .sub 3 false true v3 (.int .i64 1) fun x5=>
  p.iaddr 32 v0 x5 fun x6=>
  p.load h 42 x6 fun x7=>
  p.bin .eql 42 false false x4 x7 fun x8=>
  p.cond x8
  (fun _=>
  p.slice 32 v0 (some v3) none none fun x9=>
  l 2 [v0,v3,x9,(.int .i64 1)] h)
  (fun _=>
  p.bin .add 3 false true v3 (.int .i64 1) fun x10=>
  l 1 [v0,x10] h))
 (fun _=>
  Q v0 h)
theorem zcV (p:Pr) (l:LL) (Q:QQ) (s:List V) (h:Hp):zaq p l Q (nth s 0) (nth s 3) h=zX.K p EE l Q [true,true,false,true,false] (nths s 61 0) h:=by kernel_rfl
theorem zbq {Q:QQ} {v0 v3:V} {h:Hp} (H:zaq (Pu EE) (zX.L EE Q) Q v0 v3 h):zbo Q v0 v3 h:=
 labR (path:=[true,true,false,true,false]) rfl rfl fun s e=>by cases e; exact cast (zcV _ _ _ s h) H
noncomputable def zef:Code:=match Tryz.f141.body with | some c=>c | none=>.skip
noncomputable def z6:Fl:=⟨Tryz.f141,zef,[([false,true,true],[0,1,2,3,4,10,11]),([true,true,true,true,false,false,false,true,true],[0,1,2,3,4,10,11,12]),([true,true,true,true,true,true,false,false,false,true,true],[0,1,2,3,4,10,11,12,13,14]),([true,true,true,true,true,true,true,false,false,false,true,true],[0,1,2,3,4,10,11,12,13])]⟩
abbrev zdr (Q:QQ) (v0 v1 v2 v3 v4 v10 v11:V) (h:Hp):Prop:=z6.L EE Q 1 [v0,v1,v2,v3,v4,v10,v11] h
noncomputable def zaS (p:Pr) (l:LL) (Q:QQ) (v0 v1 v2 v3 v4:V) (h:Hp):Prop:=
 l 1 [v0,v1,v2,v3,v4,(.bool true),(.bool true)] h
theorem zdv (p:Pr) (l:LL) (Q:QQ) (v0 v1 v2 v3 v4:V) (h:Hp):zaS p l Q v0 v1 v2 v3 v4 h=z6.K p EE l Q [] ([v0,v1,v2,v3,v4]++List.replicate 143 zj) h:=by kernel_rfl
theorem zeh {Q:QQ} {v0 v1 v2 v3 v4:V} {h:Hp} (H:zaS (Pu EE) (z6.L EE Q) Q v0 v1 v2 v3 v4 h):Ans EE 141 [v0,v1,v2,v3,v4] h Q:=
 ansL (F:=z6) (by kernel_rfl) (by kernel_rfl) (by kernel_rfl) (by kernel_rfl) (cast (zdv _ _ _ v0 v1 v2 v3 v4 h) H)
noncomputable def zaQ (p:Pr) (l:LL) (Q:QQ) (v0 v1 v2 v3 v4 v10 v11:V) (h:Hp):Prop:=
 p.bin .sub 3 false false v2 v1 fun x1=>
 p.bin .leq 3 false true x1 (.int .i64 12) fun x2=>
 p.cond x2
 (fun _=>
  p.call 195 [v0,v1,v2,v4] h fun x3 h4=>
  Q u0 h4)
 (fun _=>
  p.bin .eql 3 false true v3 (.int .i64 0) fun x5=>
  p.cond x5
  (fun _=>
  p.call 196 [v0,v1,v2,v4] h fun x6 h7=>
  Q u0 h7)
  (fun _=>
  p.un .not v10 fun x8=>
  p.cond x8
  (fun _=>
   p.call 197 [v0,v1,v2,v4] h fun x9 h10=>
   p.bin .sub 3 false true v3 (.int .i64 1) fun x11=>
   l 2 [v0,v1,v2,x11,v4,v10,v11,x1] h10)
  (fun _=>
   l 2 [v0,v1,v2,v3,v4,v10,v11,x1] h)))
theorem zdt (p:Pr) (l:LL) (Q:QQ) (s:List V) (h:Hp):zaQ p l Q (nth s 0) (nth s 1) (nth s 2) (nth s 3) (nth s 4) (nth s 10) (nth s 11) h=z6.K p EE l Q [true,true,false] (nths s 148 0) h:=by kernel_rfl
theorem zdx {Q:QQ} {v0 v1 v2 v3 v4 v10 v11:V} {h:Hp} (H:zaQ (Pu EE) (z6.L EE Q) Q v0 v1 v2 v3 v4 v10 v11 h):zdr Q v0 v1 v2 v3 v4 v10 v11 h:=
 labR (path:=[true,true,false]) rfl rfl fun s e=>by cases e; exact cast (zdt _ _ _ s h) H
end
end Go.Proofs.YtbchdlelmkmagaaGreatDoor.VM
namespace Go.Proofs.YtbchdlelmkmagaaGreatDoor.VM
open Go
set_option linter.unusedVariables false
set_option linter.unusedSectionVars false
set_option linter.unusedSimpArgs false
set_option maxRecDepth 20000
noncomputable section
attribute [local instance] syZ
theorem own_addr {N:Nat} {h:Hp} {v:V} {l:List Spt} (o:OwnS N h v l) {i:Nat} (hi:i < l.length):
  ∃ b,h.t.get b=some (.cells (spCs l) 42 false)∧N≤b∧b < h.n∧zI v=some b∧∀ (k:IntKind) (q:V→Prop),(Pu EE).iaddr 32 v (.int k i) q↔q (.ptr b (i * 3)):=by
 obtain ⟨ti,h1,h2⟩:=zg
 obtain ⟨⟨j,h3,h4,_,_,_⟩,_⟩:=zf
 rcases o.at_ with ⟨_,h0⟩ | ⟨b,hb,hbn,hg,hv⟩
 ·omega
 ·refine ⟨b,hg,hb,hbn,by rcases hv with rfl | rfl <;> rfl,fun k q=>?_⟩
  show (∃ u,zbi EE 32 v (.int k i)=some u∧q u)↔_
  have hbl:Nat.blt i l.length=true:=by rw [Nat.blt_eq]; exact hi
  rcases hv with rfl | rfl <;> simp only [zbi,zbV,h1,Option.bind_some,h2,h3,hbl,cond_true,h4,Nat.zero_add,zT]
theorem spl_spt:∀ (l:List Spt) (i:Nat) (x:Spt),i < l.length→spl (spCs l) (i * 3) (spC x)=some (spCs (l.set i x))
 | [],i,x,h=>by simp at h
 | a::l,0,x,_=>by
  have e:∀ m:List V,spl m 0 []=some m:=fun m=>by cases m <;> rfl
  show ((((spl (spCs l) 0 []).bind fun r=>some (V.int .i64 x.c::r)).bind fun r=>some (V.int .i64 x.r::r)).bind fun r=>some (V.str x.s::r))=_
  rw [e]
  rfl
 | a::l,i+1,x,h=>by
  have ih:=spl_spt l i x (by simpa using h)
  have e:(i+1) * 3=(((i * 3)+1)+1)+1:=by omega
  rw [e]
  show ((((spl (spCs l) (i * 3) (spC x)).bind fun r=>some (V.int .i64 a.c::r)).bind fun r=>some (V.int .i64 a.r::r)).bind fun r=>some (V.str a.s::r))=_
  rw [ih]
  rfl
theorem own_store {N:Nat} {h:Hp} {v:V} {l:List Spt} (o:OwnS N h v l) {i b:Nat} (hi:i < l.length) (hb:zI v=some b) (x:Spt) {q:Hp→Prop} (hq:∀ h',OwnS N h' v (l.set i x)→Ext N h h'→h'.n=h.n→q h'):(Pu EE).store h 42 (.ptr b (i * 3)) (spV x) q:=by
 obtain ⟨b',hg,hbN,hbn,hb',_⟩:=own_addr o hi
 rw [hb] at hb'
 cases hb'
 refine zC zf hg rfl rfl (spl_spt l i x hi) fun h1 w=>hq h1 ⟨by rw [zj9],?_⟩ (w.ext hbN) w.n
 rcases o.at_ with ⟨_,h0⟩ | ⟨b2,h2,h3,h4,h5⟩
 ·omega
 ·have:b2=b:=by rcases h5 with rfl | rfl <;> (cases hb; rfl)
  subst this
  refine .inr ⟨b2,h2,by rw [w.n]; exact h3,w.at_,?_⟩
  rw [List.length_set]
  exact h5
def gD (l:List Spt) (i:Nat):Spt:=l.getD i sp0
theorem gD_at {l:List Spt} {i:Nat} (h:i < l.length):l[i]? = some (gD l i):=by simp [gD,List.getD,h]
theorem gD_set {l:List Spt} {i j:Nat} {x:Spt} (h:i < l.length):gD (l.set i x) j=if j=i then x else gD l j:=by
 unfold gD
 rw [List.getD_eq_getElem?_getD,List.getD_eq_getElem?_getD,List.getElem?_set]
 by_cases e:i=j
 ·subst e; simp [h]
 ·rw [if_neg e,if_neg (fun q=>e q.symm)]
structure InsI (l:List Spt) (i j:Nat):Prop where
 a:∀ p q,p < q→q≤i→p ≠ j→q ≠ j→spLe (gD l p) (gD l q)
 b:∀ q,j < q→q≤i→spLe (gD l j) (gD l q)
def SortedTo (l:List Spt) (i:Nat):Prop:=∀ p q,p < q→q < i→spLe (gD l p) (gD l q)
theorem cmp_lt (a b:Spt):spCmpZ a b < 0↔spLt a b=true:=by
 unfold spCmpZ
 cases spLt a b with
 | true=>simp
 | false=>
  simp
  split <;> omega
theorem ins_loop (Q:V→Hp→Prop) (N:Nat) (n:Nat) (hn:n≤1000) (l0:List Spt) (h0:Hp) (v:V) (hq:∀ (h:Hp) (l:List Spt),OwnS N h v l→l.Perm l0→SortedTo l l.length→Ext N h0 h→N≤h.n→Q u0 h):
  ∀ (k i:Nat),n - i=k→1≤i→∀ (h:Hp) (l:List Spt),l.length=n→OwnS N h v l→l.Perm l0→SortedTo l i→Ext N h0 h→N≤h.n →
   za8 Q v (.int .i64 0) (.int .i64 n) (.fn (.func 91) [] []) (.int .i64 i) h:=by
 intro k
 induction k with
 | zero=>
  intro i hk hi h l hl o hp hs x hNn
  apply za6
  unfold zai
  rw [zr,zi]
  exact ⟨fun q=>absurd q (by omega),fun _=>hq h l o hp (fun p q h1 h2=>hs p q h1 (by omega)) x hNn⟩
 | succ k ih=>
  intro i hk hi h l hl o hp hs x hNn
  apply za6
  unfold zai
  rw [zr,zi]
  refine ⟨fun hin=>?_,fun q=>absurd (by omega) q⟩
  have inner:∀ (j:Nat),j≤i→∀ (h:Hp) (l:List Spt),l.length=n→OwnS N h v l→l.Perm l0→InsI l i j→Ext N h0 h→N≤h.n →
    zba Q v (.int .i64 0) (.int .i64 n) (.fn (.func 91) [] []) (.int .i64 i) (.int .i64 j) h:=by
   intro j
   induction j with
   | zero=>
    intro hj h l hl o hp I x hNn
    apply za7
    unfold zah
    rw [zgc,decide_eq_false (by omega:¬ ((0:Int) < ((0:Nat):Int)))]
    simp only [zS,pu_geff_ft,zo,zb]
    rw [zK _ _ _ _ (by omega)]
    refine ih (i+1) (by omega) (by omega) h l hl o hp (fun p q h1 h2=>?_) x hNn
    by_cases hp0:p=0
    ·subst hp0; exact I.b q h1 (by omega)
    ·exact I.a p q h1 (by omega) hp0 (by omega)
   | succ j ihj=>
    intro hj h l hl o hp I x hNn
    apply za7
    unfold zah
    rw [zgc,decide_eq_true (by omega:((0:Int) < ((j+1:Nat):Int)))]
    simp only [zu,ze9,zB]
    have hjl:j+1 < l.length:=by omega
    have hj0:j < l.length:=by omega
    have hsub:∀ q:V→Prop,(Pu EE).bin .sub 3 false true (.int .i64 ((j+1:Nat):Int)) (.int .i64 1) q↔q (.int .i64 (j:Nat)):=fun q=>by
     rw [zdf,show (((j+1:Nat):Int)) - 1=((j:Nat):Int) by omega,w64 _ (by omega)]
    obtain ⟨b,hg,hbN,hbn,hbv,hia⟩:=own_addr o hjl
    obtain ⟨b',hg',_,_,hbv',hia'⟩:=own_addr o hj0
    have hbb:b'=b:=by rw [hbv] at hbv'; exact (Option.some.inj hbv').symm
    subst hbb
    obtain ⟨p1,q1,g1,g2,_⟩:=zaT o.sps zg zf (gD_at hjl)
    obtain ⟨p2,q2,g3,g4,_⟩:=zaT o.sps zg zf (gD_at hj0)
    rw [g1,g2,hsub,g3,g4]
    refine ⟨(91,[spV (gD l (j+1)),spV (gD l j)]),rfl,?_⟩
    refine (cmp_ok (gD l (j+1)) (gD l j) h).mono ?_
    rintro y h2 ⟨rfl,x2⟩
    have n2:=x2.n
    have o2:OwnS N h2 v l:=o.keep x2.n fun c hc=>x2.old c (o.in_ c hc)
    rw [zak,show decide (spCmpZ (gD l (j+1)) (gD l j) < 0)=decide (spLt (gD l (j+1)) (gD l j)=true) by rw [decide_eq_decide]; exact cmp_lt _ _,zi]
    refine ⟨fun e=>?_,fun e=>?_⟩
    ·obtain ⟨p3,q3,g5,g6,_⟩:=zaT o2.sps zg zf (gD_at hjl)
     obtain ⟨p4,q4,g7,g8,_⟩:=zaT o2.sps zg zf (gD_at hj0)
     rw [hsub,hsub,g7,g8,g5,g6,hia]
     refine own_store o2 hjl hbv (gD l j) fun h3 o3 x3 n3=>?_
     rw [hia']
     refine own_store o3 (by rw [List.length_set]; exact hj0) hbv (gD l (j+1)) fun h4 o4 x4 n4=>?_
     rw [hsub]
     have gs:∀ p,gD ((l.set (j+1) (gD l j)).set j (gD l (j+1))) p=if p=j then gD l (j+1) else if p=j+1 then gD l j else gD l p:=fun p=>by
      rw [gD_set (by rw [List.length_set]; exact hj0),gD_set hjl]
     have hperm:((l.set (j+1) (gD l j)).set j (gD l (j+1))).Perm l:=by
      have:=swap_perm (L:=l) (i:=j+1) (k:=j) hjl hj0
      exact this
     refine ihj (by omega) h4 _ (by simp [hl]) o4 (hperm.trans hp) ⟨fun p q hpq hq' hpj hqj=>?_,fun q hq1 hq2=>?_⟩ (x.trans ((x2.mono hNn).trans (x3.trans x4))) (by omega)
     ·rw [gs,gs,if_neg hpj,if_neg hqj]
      by_cases p1:p=j+1
      ·rw [if_pos p1,if_neg (by omega)]
       exact I.a j q (by omega) hq' (by omega) (by omega)
      ·rw [if_neg p1]
       by_cases q1:q=j+1
       ·rw [if_pos q1]
        exact I.a p j (by omega) (by omega) p1 (by omega)
       ·rw [if_neg q1]
        exact I.a p q hpq hq' p1 q1
     ·rw [gs,gs,if_pos rfl,if_neg (by omega)]
      by_cases q1:q=j+1
      ·rw [if_pos q1]
       exact zdm e
      ·rw [if_neg q1]
       exact I.b q (by omega) hq2
    ·rw [zK _ _ _ _ (by omega)]
     have hle:spLe (gD l j) (gD l (j+1)):=spLe_of_not e
     refine ih (i+1) (by omega) (by omega) h2 l hl o2 hp (fun p q h1 h2=>?_) (x.trans (x2.mono hNn)) (by omega)
     by_cases p1:p=j+1
     ·subst p1; exact I.b q h1 (by omega)
     ·by_cases q1:q=j+1
      ·subst q1
       by_cases p2:p=j
       ·subst p2; exact hle
       ·exact (I.a p j (by omega) (by omega) p1 (by omega)).trans hle
      ·exact I.a p q h1 (by omega) p1 q1
  refine inner i (Nat.le_refl _) h l hl o hp ⟨fun p q h1 h2 h3 h4=>hs p q h1 (by omega),fun q h1 h2=>absurd h1 (by omega)⟩ x hNn
theorem insSort_ok (N:Nat) (h:Hp) (v:V) (l:List Spt) (o:OwnS N h v l) (hl:l.length≤12) (hN:N≤h.n):Ans EE 195 [v,.int .i64 0,.int .i64 l.length,.fn (.func 91) [] []] h fun x h'=>∃ l',OwnS N h' v l'∧l'.Perm l∧l'.Pairwise spLe∧Ext N h h'∧N≤h'.n:=by
 apply zcu
 unfold zaA
 rw [show (0:Int)=((0:Nat):Int) from rfl,zK _ _ _ _ (by omega)]
 refine ins_loop _ N l.length (by omega) l h v (fun h' l' o' p' s' x' n'=>⟨l',o',p',?_,x',n'⟩) _ 1 rfl (Nat.le_refl _) h l rfl o (List.Perm.refl _) (fun p q h1 h2=>absurd h1 (by omega)) (Ext.refl _ _) hN
 refine List.pairwise_iff_getElem.2 fun p q hp hq hpq=>?_
 have:=s' p q hpq hq
 unfold gD at this
 simpa [List.getD,hp,hq] using this
end
end Go.Proofs.YtbchdlelmkmagaaGreatDoor.VM
namespace Go.Proofs.YtbchdlelmkmagaaGreatDoor.VM
open Go
set_option linter.unusedVariables false
set_option linter.unusedSectionVars false
set_option linter.unusedSimpArgs false
set_option maxRecDepth 20000
noncomputable section
attribute [local instance] syZ
theorem i_uint:IsInt EE 180 .u64:=isInt (by kernel_rfl)
theorem pu_conv {s d:Nat} {k k':IntKind} (hs:IsInt EE s k') (hd:IsInt EE d k) (h:Hp) (n:Int) (q:V→Prop):(Pu EE).conv h s d (.int k' n) q↔q (.int k (k.wrap n)):=by
 obtain ⟨i,h1,_⟩:=hs
 obtain ⟨j,h2,h3⟩:=hd
 exact zln h s d i j k k' h1 h2 h3 n q
theorem lenRun (n:Nat) (hn:n≤12) (h:Hp):∃ k:Int,zax EE (exec EE 100) 142 [.int .u64 n] h=some (.int .i64 k,h):=by
 rcases (by omega:n=0∨n=1∨n=2∨n=3∨n=4∨n=5∨n=6∨n=7∨n=8∨n=9∨n=10∨n=11∨n=12) with rfl | rfl | rfl | rfl | rfl | rfl | rfl | rfl | rfl | rfl | rfl | rfl | rfl
 ·exact ⟨0,by kernel_rfl⟩
 ·exact ⟨1,by kernel_rfl⟩
 ·exact ⟨2,by kernel_rfl⟩
 ·exact ⟨2,by kernel_rfl⟩
 ·exact ⟨3,by kernel_rfl⟩
 ·exact ⟨3,by kernel_rfl⟩
 ·exact ⟨3,by kernel_rfl⟩
 ·exact ⟨3,by kernel_rfl⟩
 ·exact ⟨4,by kernel_rfl⟩
 ·exact ⟨4,by kernel_rfl⟩
 ·exact ⟨4,by kernel_rfl⟩
 ·exact ⟨4,by kernel_rfl⟩
 ·exact ⟨4,by kernel_rfl⟩
def SortPost (N:Nat) (v:V) (l:List Spt) (h':Hp):Prop:=∃ l',OwnS N h' v l'∧l'.Perm l∧l'.Pairwise spLe∧N≤h'.n
theorem pdq_ok (N:Nat) (h:Hp) (v:V) (l:List Spt) (z:Int) (o:OwnS N h v l) (hl:l.length≤12) (hN:N≤h.n):Ans EE 141 [v,.int .i64 0,.int .i64 l.length,.int .i64 z,.fn (.func 91) [] []] h fun x h'=>SortPost N v l h'∧Ext N h h':=by
 apply zeh
 unfold zaS
 apply zdx
 unfold zaQ
 rw [zdf,show (l.length:Int) - 0=(l.length:Int) by omega,w64 _ (by omega),show (12:Int)=((12:Nat):Int) from rfl,leqN,decide_eq_true hl,zc]
 refine (insSort_ok N h v l o hl hN).mono ?_
 rintro y h2 ⟨l',o',p',s',x',n'⟩
 exact ⟨⟨l',o',p',s',n'⟩,x'⟩
theorem sortF_ok (N:Nat) (h:Hp) (v:V) (l:List Spt) (o:OwnS N h v l) (hl:l.length≤12) (hN:N≤h.n):Ans EE 90 [v,.fn (.func 91) [] []] h fun x h'=>SortPost N v l h'∧Ext N h h':=by
 apply zdb
 unfold zaG
 rw [zp o.sps zg,pu_conv i_int i_uint]
 have hw:IntKind.u64.wrap (l.length:Int)=(l.length:Int):=by
  unfold IntKind.wrap
  simp [IntKind.bits,IntKind.signed]
  omega
 rw [hw]
 obtain ⟨k,hk⟩:=lenRun l.length hl h
 refine Ans.mono (Q:=fun x h'=>x=.int .i64 k∧h'=h) ⟨_,_,⟨100,hk⟩,rfl,rfl⟩ ?_
 rintro y h2 ⟨rfl,rfl⟩
 exact (pdq_ok N h2 v l k o hl hN).mono fun x h' q=>q
theorem compact_ok (N:Nat) (h:Hp) (v:V) (l:List Spt) (o:OwnS N h v l) (hs:Ris l) (hl:l.length < 1000000):Ans EE 93 [v] h fun x h'=>x=v∧h'=h:=by
 apply zds
 unfold zaJ
 rw [zp o.sps zg,show (2:Int)=((2:Nat):Int) from rfl,zr,zi]
 refine ⟨fun _=>⟨rfl,rfl⟩,fun h2=>?_⟩
 have loop:∀ (k i:Nat),l.length - i=k→1≤i→i≤l.length→zbo (fun x h'=>x=v∧h'=h) v (.int .i64 i) h:=by
  intro k
  induction k with
  | zero=>
   intro i hk hi hil
   apply zbq
   unfold zaq
   rw [zp o.sps zg,zr,zi]
   exact ⟨fun q=>absurd q (by omega),fun _=>⟨rfl,rfl⟩⟩
  | succ k ih=>
   intro i hk hi hil
   apply zbq
   unfold zaq
   rw [zp o.sps zg,zr,zi]
   refine ⟨fun hin=>?_,fun q=>absurd (by omega) q⟩
   obtain ⟨b1,o1,g1,g2,_⟩:=zaT o.sps zg zf (List.getElem?_eq_getElem hin)
   obtain ⟨b2,o2,g3,g4,_⟩:=zaT o.sps zg zf (List.getElem?_eq_getElem (by omega:i - 1 < l.length))
   rw [g1,g2,zdf,show (i:Int) - 1=((i - 1:Nat):Int) by omega,w64 _ (by omega),g3,g4,pu_speq]
   have hne:l[i] ≠ l[i - 1]:=fun e=>by
    have:=List.pairwise_iff_getElem.1 hs (i - 1) i (by omega) hin (by omega)
    rw [← e,zh1] at this
    cases this
   rw [decide_eq_false hne,zb,zK _ _ _ _ (by omega)]
   exact ih (i+1) (by omega) (by omega) (by omega)
 rw [show (1:Int)=((1:Nat):Int) from rfl]
 exact loop _ 1 rfl (Nat.le_refl _) (by omega)
def isNils:V→Bool
 | .nils=>true
 | _=>false
theorem pu_slnil {N:Nat} {h:Hp} {v:V} {l:List Spt} (o:OwnS N h v l) (cx cy:Bool) (q:V→Prop):(Pu EE).bin .eql 32 cx cy v .nils q↔q (.bool (isNils v)):=by
 obtain ⟨i,h1,h2⟩:=zg
 show (∃ u,vbinB EE .eql 32 cx cy v .nils=some u∧q u)↔_
 have:vbinB EE .eql 32 cx cy v .nils=some (.bool (isNils v)):=by
  have key:∀ x:V,vbinB EE .eql 32 cx cy x .nils=eqOp .eql ((EE.ty.get 32).bind fun i=>veq EE i x .nils)→vbinB EE .eql 32 cx cy x .nils=eqOp .eql (veq EE i x .nils):=fun x e=>by rw [e,h1]; rfl
  rcases o.at_ with ⟨rfl,_⟩ | ⟨b,_,_,_,rfl | rfl⟩
  ·rw [key _ rfl]
   simp only [veq,h2]
   rfl
  ·rw [key _ rfl]
   simp only [veq,h2]
   rfl
  ·rw [key _ rfl]
   simp only [veq,h2]
   rfl
 rw [this,zT]
theorem clone_ok (N:Nat) (h:Hp) (v:V) (l:List Spt) (o:OwnS N h v l) (hl:l.length≤1000000):Ans EE 92 [v] h fun x h'=>OwnS h.n h' x l∧Ext h.n h h':=by
 apply zeg
 unfold zaR
 rw [pu_slnil o,ziU]
 refine ⟨fun e=>?_,fun e=>?_⟩
 ·have hl0:l=[]:=by
   rcases o.at_ with ⟨_,h0⟩ | ⟨b,_,_,_,rfl | rfl⟩
   ·exact List.length_eq_zero_iff.1 h0
   ·cases e
   ·cases e
  subst hl0
  exact ⟨OwnS.nil _ _,Ext.refl _ _⟩
 ·rw [pu_bsl0 zg zf]
  obtain ⟨h1,hh1⟩:∃ h1,h1=h.new (.cells [] 42 false):=⟨_,rfl⟩
  rw [← hh1]
  have n1:h1.n=h.n+1:=by rw [hh1]; rfl
  have x1:Ext h.n h h1:=by rw [hh1]; exact Ext.new (Nat.le_refl _) _
  have o1:Own h.n h1 (.sl h.n 0 0 0) 42 3 0 []:=⟨by simp,.inr ⟨h.n,Nat.le_refl _,by omega,by rw [hh1,Hp.get_new,if_pos rfl],.inr rfl⟩⟩
  refine app_all o1 zg zf (o.sps.ext x1 o.in_) (spCs_cells l) (by omega) (by omega) fun v2 h2 o2 x2 _ _=>⟨?_,x1.trans x2⟩
  rw [Nat.zero_add,List.nil_append] at o2
  exact o2
theorem ris_of {l:List Spt} (h:l.Pairwise spLe) (hd:l.Nodup):Ris l:=by
 refine List.Pairwise.imp₂ (fun a b h1 h2=>?_) h hd
 rcases h1.cases with e | e
 ·exact absurd e h2
 ·exact e
theorem rising_ok (N:Nat) (h:Hp) (v:V) (l:List Spt) (o:OwnS N h v l) (hl:l.length≤12) (hN:N≤h.n) (hd:l.Nodup):Ans EE 55 [v] h fun x h'=>∃ l',OwnS N h' x l'∧l'.Perm l∧Ris l'∧Ext N h h':=by
 apply a_deps_rising
 unfold zgf
 refine (sortF_ok N h v l o hl hN).mono ?_
 rintro y h2 ⟨⟨l',o',p',s',n'⟩,x'⟩
 have hr:Ris l':=ris_of s' (p'.nodup_iff.2 hd)
 have hlen:=p'.length_eq
 refine (compact_ok N h2 v l' o' hr (by omega)).mono ?_
 rintro y h3 ⟨rfl,rfl⟩
 refine (clone_ok N h3 y l' o' (by omega)).mono ?_
 rintro z h4 ⟨o4,x4⟩
 exact ⟨l',o4.mono n',p',hr,x'.trans (x4.mono n')⟩
end
end Go.Proofs.YtbchdlelmkmagaaGreatDoor.VM
