/- VmC VmD VmH VmI VmW VmN VmZ Gl Hk DpEnv VmX VmK -/
import Derived.Defers
import Derived.LoopN
import Derived.Test.YtbchdlelmkmagaaGreatDoorChecked
import Derived.KernelRfl
import Derived.RowKit
import Derived.Recover
import Derived.Laws.Externs
import Derived.Lib.Bytealg
import Derived.Test.YtbchdlelmkmagaaGreatDoorMg2
namespace Go.Proofs.YtbchdlelmkmagaaGreatDoor.VM
open Go Go.RowKit
set_option linter.unusedSectionVars false
variable [Sy]
section
variable {P:Program} {E:Env} {σ:Mp} {w w':World} {N:Nat} {h:Hp}
inductive RepD (σ:Mp):List (Nat × List V)→List Deferred→Prop
 | nil:RepD σ [] []
 | cons (f:Nat) (aS:List V) (d:Deferred) (cap:Array Value) (l:List (Nat × List V)) (m:List Deferred):d.target=.fn (.func f) cap→RepL σ aS (d.args++cap).toList→RepD σ l m→RepD σ ((f,aS)::l) (d::m)
theorem RepD.mono {σ τ:Mp} (h:Mp.le σ τ):∀ {l:List (Nat × List V)} {m:List Deferred},RepD σ l m→RepD τ l m
 | _,_,.nil=>.nil
 | _,_,.cons f aS d cap l m h1 h2 s=>.cons f aS d cap l m h1 (h2.mono h) (RepD.mono h s)
structure RepX (σ:Mp) (t:Tm) (n:Nat) (a:Array Value) (S:Nat→Prop):Prop where
 size:a.size=n
 at_:∀ i,¬ S i→Rep σ ((t.get i).getD zj) (a.getD i undef)
structure RelS (N:Nat) (σ:Mp) (s:St) (a:Act) (w:World) (S:Nat→Prop):Prop where
 t:RepX σ s.t s.n a.tmps S
 h:Rel N σ s.h w
 d:RepD σ s.d a.defers
def CallOK (P:Program) (call:zfE):Prop:=
 ∀ (N:Nat) f aS h v h',call f aS h=some (v,h')→∀ (σ:Mp) (w:World) (xs:List Value),Rel N σ h w→RepL σ aS xs →
  match (callFunc f xs.toArray).run P w with
  | .ok (.value x) w'=>Does N σ h w v h' x w'
  | .ok (.enter g ys) w'=>Calls P g ys w' fun e w''=>∃ x,e=.returned x∧Does N σ h w v h' x w''
  | _=>False
section
variable {S:Nat→Prop}
theorem RepX.mono {σ τ:Mp} (hle:Mp.le σ τ) {t:Tm} {n:Nat} {a:Array Value} (r:RepX σ t n a S):RepX τ t n a S:=⟨r.size,fun i h=>(r.at_ i h).mono hle⟩
theorem getD_set_ne {a:Array Value} {d i:Nat} {x:Value} (h:i ≠ d):(a.setIfInBounds d x).getD i undef=a.getD i undef:=by
 simp only [Array.getD]
 by_cases hi:i < a.size
 ·simp [hi,Ne.symm h]
 ·simp [hi]
theorem RepX.put {t:Tm} {n:Nat} {a:Array Value} (r:RepX σ t n a S) {d:Nat} {v:V} {x:Value} (hd:d < n) (hr:Rep σ v x):RepX σ (t.put d v) n (a.setIfInBounds d x) S:=by
 refine ⟨by simp [r.size],fun i hS=>?_⟩
 rw [T.get_put]
 by_cases h:i=d
 ·subst h
  have:i < a.size:=by rw [r.size]; exact hd
  simp [Array.getD,this,hr]
 ·rw [if_neg h,getD_set_ne h]
  exact r.at_ i hS
theorem zdP {s s':St} {a:Act} {dst:Option Tmp} {v:V} {x:Value} {h':Hp} {σ':Mp} (R:RelS N σ s a w S) (hs:s.put dst v h'=some s') (hle:Mp.le σ σ') (hr:Rep σ' v x) (hh:Rel N σ' h' w'):RelS N σ' s' (a.put dst x) w' S:=by
 rw [St.put_eq] at hs
 cases dst with
 | none=>
  simp only [Option.some.injEq] at hs
  subst hs
  exact ⟨R.t.mono hle,hh,R.d.mono hle⟩
 | some d=>
  simp only at hs
  cases hb:Nat.blt d s.n with
  | false=>rw [hb] at hs; cases hs
  | true=>
   rw [hb] at hs
   simp only [cond_true,Option.some.injEq] at hs
   subst hs
   rw [zll,decide_eq_true_iff] at hb
   exact ⟨(R.t.mono hle).put hb hr,hh,R.d.mono hle⟩
theorem rep_undef {v:V} (h:Rep σ v undef):v=zj:=by
 have key:∀ x,x=undef→Rep σ v x→v=zj:=fun x hx hr=>by
  cases hr <;> simp only [undef] at hx <;> (try (cases hx; done))
  case any h1=>rw [hx] at h1; cases h1
  rename_i l xs hl
  simp only [Value.tuple.injEq] at hx
  have:xs=[]:=by simpa using hx
  subst this
  cases hl
  rfl
 exact key _ rfl h
theorem wanted_sound {t:Tm} {a:Act} {ops:Array Oper} {o:Oper} {b:Bool} (h:za0 t ops.toList o.guard=some b) (hT:∀ d,d ∈ looks ops.toList o→Rep σ ((t.get d).getD zj) (a.tmps.getD d undef)):
  Region.wanted o (yielded ops a.tmps)=b:=by
 unfold Region.wanted
 cases hg:o.guard with
 | none=>
  rw [hg] at h
  simp only [za0,Option.some.injEq] at h
  exact h
 | some p=>
  obtain ⟨j,q⟩:=p
  rw [hg] at h
  simp only [za0,Option.bind_eq_some_iff] at h
  obtain ⟨g,h1,d,h2,h3⟩:=h
  have h1':ops[j]? = some g:=by simpa using h1
  have hl:d ∈ looks ops.toList o:=by
   unfold looks
   rw [hg]
   simp only [h1,Option.bind_some,h2,Option.toList_some,List.mem_append,List.mem_singleton]
   exact .inr trivial
  have hr:=hT d hl
  simp only [yielded,h1',Option.bind_some,h2]
  by_cases hd:d < a.tmps.size
  ·have hget:a.tmps[d]? = some (a.tmps.getD d undef):=by simp [Array.getD,hd]
   rw [hget]
   generalize a.tmps.getD d undef=x at hr
   generalize (t.get d).getD zj=v at hr h3
   split at h3
   ·cases hr
    simp only [Option.some.injEq] at h3
    subst h3
    rename_i c
    cases c <;> cases q <;> rfl
   ·cases hr with
    | tup _ xs hx=>
     cases hx
     simp only [Option.some.injEq] at h3
     subst h3
     rfl
   ·cases h3
  ·have hget:a.tmps[d]? = none:=Array.getElem?_eq_none (Nat.le_of_not_lt hd)
   have hu:a.tmps.getD d undef=undef:=by simp [Array.getD,hd]
   rw [hget]
   rw [hu] at hr
   rw [rep_undef hr] at h3
   simp only [zj,Option.some.injEq] at h3
   subst h3
   rfl
theorem ops_rep {s:St} {a:Act} {ops:Array Oper} {o:Oper} (R:RelS N σ s a w S) (hl:∀ d ∈ looks ops.toList o,¬ S d):∀ x ∈ o.op.operands,∀ v,ev s.t x=some v→Rep σ v (a.eval x):=by
 intro x hx v hv
 cases x with
 | tmp i=>
  simp only [ev,Option.some.injEq] at hv
  subst hv
  refine R.t.at_ i (hl i ?_)
  unfold looks
  rw [List.mem_append]
  left
  exact List.mem_filterMap.2 ⟨.tmp i,by simpa using hx,rfl⟩
 | const c=>exact ofVal_rep hv
 | global g=>simp only [ev,Option.some.injEq] at hv; subst hv; exact .gptr _ _
 | func f=>simp only [ev,Option.some.injEq] at hv; subst hv; exact .fn _ _ _ [] [] .nil .nil
theorem wanted_rep {s:St} {a:Act} {ops:Array Oper} {o:Oper} {b:Bool} (R:RelS N σ s a w S) (hl:∀ d ∈ looks ops.toList o,¬ S d) (h:za0 s.t ops.toList o.guard=some b):Region.wanted o (yielded ops a.tmps)=b:=
 wanted_sound h fun d hd=>R.t.at_ d (hl d hd)
variable {ops:Array Oper} {Q:Exit→Act→World→Prop} {K:Act→World→Prop} {i:Nat} {o:Oper} {s s':St} {a:Act}
theorem n_sound (hE:EnvOK P E) (R:RelS N σ s a w S) (hi:ops[i]? = some o) (hl:∀ d ∈ looks ops.toList o,¬ S d) {b:Bool} (hw:za0 s.t ops.toList o.guard=some b) {p:PR} (hp:(b=false∧p=.skip)∨(b=true∧((∃ v,lop E s.t s.h o.op=some v∧p=.l v)∨∃ r k id,fop E s.t o.op=some (r,k)∧p=.f r k id)))
  (hk:match p with
   | .skip=>K (a.put o.dst undef) w
   | .l v=>∀ x,Rep σ v x→K (a.put o.dst x) w
   | .f r k _=>∀ x w',Made σ w r k x w'→K (a.put o.dst x) w'):wpOp P ops Q i K a w:=by
 have hwa:=wanted_rep R hl hw
 unfold wpOp
 rw [hi]
 simp only [hwa]
 rcases hp with ⟨rfl,rfl⟩ | ⟨rfl,⟨v,h1,rfl⟩ | ⟨r,k,id,h1,rfl⟩⟩
 ·simpa using hk
 ·obtain ⟨x,h2,h3⟩:=lop_sound hE R.h h1 (ops_rep R hl)
  simp only [if_true]
  left
  unfold Oper.wp
  rw [h2]
  exact hk x h3
 ·obtain ⟨x,w',h2,h3⟩:=fop_sound (w:=w) hE h1 (ops_rep R hl)
  simp only [if_true]
  left
  unfold Oper.wp
  rw [h2]
  exact hk x w' h3
theorem e_sound (hE:EnvOK P E) {call:zfE} (hcall:CallOK P call) (R:RelS N σ s a w S) (hs:ziH E call ops.toList o s=some s') (hi:ops[i]? = some o) (hl:∀ d ∈ looks ops.toList o,¬ S d)
  (hk:∀ σ' a' w',Mp.Ext s.h.n σ σ'→s.h.n≤s'.h.n→RelS N σ' s' a' w' S→Below N w w'→K a' w'):wpOp P ops Q i K a w:=by
 simp only [ziH,Option.bind_eq_some_iff] at hs
 obtain ⟨b,hw,hs⟩:=hs
 have hwa:=wanted_rep R hl hw
 have hn:∀ {s:St} {dst:Option Tmp} {v:V} {h':Hp} {s':St},s.put dst v h'=some s'→s'.h=h':=fun {s dst v h' s'} h=>by
  rw [St.put_eq] at h
  cases dst with
  | none=>cases h; rfl
  | some d=>
   simp only at h
   cases hb:Nat.blt d s.n with
   | false=>rw [hb] at h; cases h
   | true=>rw [hb] at h; cases h; rfl
 unfold wpOp
 rw [hi]
 simp only [hwa]
 split at hs
 ·simp only [if_true]
  left
  unfold onNx at hs
  split at hs
  ·rename_i v h' he
   obtain ⟨x,w',h2,σ',h3,h4,h5,h6,h7⟩:=eop_sound hE R.h he (ops_rep R hl)
   unfold Oper.wp
   rw [h2]
   exact hk σ' _ w' h3 (by rw [hn hs]; exact h4) (zdP R hs h3.le h5 h6) h7
  ·rename_i h' he
   obtain ⟨w',h2,h3,h4,h5⟩:=eop_sound hE R.h he (ops_rep R hl)
   unfold Oper.wp
   rw [h2]
   exact hk σ _ w' (Mp.Ext.refl _ _) (by rw [hn hs]; exact h5) (zdP R hs (Mp.le.refl _) (Rep.undef _) h3) h4
  ·rename_i f xs h' he
   obtain ⟨h2,ys,h3,h4⟩:=eop_sound hE R.h he (ops_rep R hl)
   subst h2
   rw [Option.bind_eq_some_iff] at hs
   obtain ⟨⟨v,h'⟩,hc,hs⟩:=hs
   have h5:=hcall N f xs s.h v h' hc σ w ys R.h h3
   unfold Oper.wp
   rw [h4]
   generalize (callFunc f ys.toArray).run P w=r at h5
   cases r with
   | halt x w'=>exact h5.elim
   | ok n w'=>
    cases n <;> (try (exact h5.elim))
    ·obtain ⟨σ',g1,g2,g3,g4,g5⟩:=h5
     exact hk σ' _ w' g1 (by rw [hn hs]; exact g2) (zdP R hs g1.le g3 g4) g5
    ·refine Calls.mono h5 fun e w'' he=>?_
     obtain ⟨x,rfl,σ',g1,g2,g3,g4,g5⟩:=he
     exact hk σ' _ w'' g1 (by rw [hn hs]; exact g2) (zdP R hs g1.le g3 g4) g5
  ·rename_i f xs h' he
   obtain ⟨h2,d,cap,h3,h4,h5⟩:=eop_sound hE R.h he (ops_rep R hl)
   subst h2
   unfold Oper.wp
   rw [h3]
   have R2:RelS N σ ⟨s.t,s.h,(f,xs)::s.d,s.n⟩ { a with defers:=d::a.defers } w S:=⟨R.t,R.h,.cons _ _ _ _ _ _ h4 h5 R.d⟩
   exact hk σ _ w (Mp.Ext.refl _ _) (by rw [hn hs]; exact Nat.le_refl _) (zdP R2 hs (Mp.le.refl _) (Rep.undef _) R.h) (Below.refl _ _)
  ·cases hs
  ·cases hs
 ·simp only [Bool.false_eq_true,if_false]
  exact hk σ _ w (Mp.Ext.refl _ _) (by rw [hn hs]; exact Nat.le_refl _) (zdP R hs (Mp.le.refl _) (Rep.undef _) R.h) (Below.refl _ _)
end
end
end Go.Proofs.YtbchdlelmkmagaaGreatDoor.VM
namespace Go.Proofs.YtbchdlelmkmagaaGreatDoor.VM
open Go Go.RowKit
set_option linter.unusedSectionVars false
variable [Sy]
section
variable {E:Env} {t t':Tm} {h h':Hp}
theorem evs_congr:∀ {l:List Operand},(∀ x ∈ l,ev t x=ev t' x)→evs t l=evs t' l
 | [],_=>rfl
 | x::r,he=>by rw [evs,evs,he x (by simp),evs_congr (fun y hy=>he y (by simp [hy]))]
theorem zlq:∀ {l:List (Nat × Operand)},(∀ p ∈ l,ev t p.2=ev t' p.2)→parts t l=parts t' l
 | [],_=>rfl
 | (i,x)::r,he=>by rw [parts,parts,he (i,x) (by simp),zlq (fun y hy=>he y (by simp [hy]))]
theorem evo_congr {o:Option Operand} (he:∀ x ∈ o.toArray,ev t x=ev t' x):evo t o=evo t' o:=by
 cases o with
 | none=>rfl
 | some x=>rw [evo,evo,he x (by simp)]
theorem lop_congr {op:Op} (he:∀ x ∈ op.operands,ev t x=ev t' x):lop E t h op=lop E t' h op:=by
 cases op <;> simp only [Op.operands] at he <;> simp only [lop]
 case move x=>exact he x (by simp)
 case pick c a b=>rw [lPick,lPick,he c (by simp),he a (by simp),he b (by simp)]
 case build ty ps=>rw [lBuild,lBuild,zlq (fun p hp=>he p.2 (by simp only [List.mem_toArray,List.mem_map]; exact ⟨p,hp,rfl⟩))]
 case load ty a=>rw [lLoad,lLoad,he a (by simp)]
 case nilCheck x=>rw [zhF,zhF,he x (by simp)]
 case binOp op ty x y yt=>rw [lBin,lBin,he x (by simp),he y (by simp)]
 case unOp op ty x=>rw [lUn,lUn,he x (by simp)]
 case convert s d x=>rw [lConv,lConv,he x (by simp)]
 case makeInterface ty x=>rw [lIface,lIface,he x (by simp)]
 case makeFunc f a c=>rw [lFunc,lFunc,evs_congr (fun x hx=>he x (by simp at hx ⊢; exact .inl hx)),evs_congr (fun x hx=>he x (by simp at hx ⊢; exact .inr hx))]
 case slice ty x lo hi mx=>rw [lSlice,lSlice,he x (by simp),evo_congr (fun y hy=>he y (by simp at hy ⊢; simp [hy])),evo_congr (fun y hy=>he y (by simp at hy ⊢; simp [hy])),evo_congr (fun y hy=>he y (by simp at hy ⊢; simp [hy]))]
 case fieldAddr ty x f=>rw [zfK,zfK,he x (by simp)]
 case field ty x f=>rw [lField,lField,he x (by simp)]
 case indexAddr ty x i=>rw [zfR,zfR,he x (by simp),he i (by simp)]
 case index ty x i=>rw [lIndex,lIndex,he x (by simp),he i (by simp)]
 case lookup ty x k ok=>rw [lLookup,lLookup,he x (by simp),he k (by simp)]
 case typeAssert x xt a ok=>rw [lAssert,lAssert,he x (by simp)]
 case extract x i=>rw [zj1,zj1,he x (by simp)]
 case call c=>
  obtain ⟨callee,args,ats⟩:=c
  rw [lCall,lCall]
  cases callee with
  | value f=>rfl
  | invoke r n=>rfl
  | builtin b=>
   simp only
   rw [evs_congr (fun x hx=>he x (by simp only [Call.operands]; simpa using hx))]
theorem fop_congr {op:Op} (he:∀ x ∈ op.operands,ev t x=ev t' x):fop E t op=fop E t' op:=by
 cases op <;> simp only [Op.operands] at he <;> simp only [fop]
 case box e x=>rw [fBox,fBox,he x (by simp)]
 case buildSlice ty n ps=>rw [zeL,zeL,zlq (fun p hp=>he p.2 (by simp only [List.mem_toArray,List.mem_map]; exact ⟨p,hp,rfl⟩))]
 case convert s d x=>rw [fConv,fConv,he x (by simp)]
 case makeSlice ty l c=>rw [fMake,fMake,he l (by simp),he c (by simp)]
theorem lop_heap {op:Op} (hr:readsM op=false):lop E t h op=lop E t h' op:=by
 cases op <;> first | rfl | cases hr
theorem wantedV_congr {ops:List Oper} {o:Oper} (he:∀ d ∈ looks ops o,(t.get d).getD zj=(t'.get d).getD zj):za0 t ops o.guard=za0 t' ops o.guard:=by
 cases hg:o.guard with
 | none=>rfl
 | some p=>
  obtain ⟨j,q⟩:=p
  rw [za0,za0]
  cases h1:ops[j]? with
  | none=>rfl
  | some g=>
   cases h2:g.dst with
   | none=>simp [h2]
   | some d=>
    have:d ∈ looks ops o:=by
     unfold looks
     rw [hg]
     simp only [h1,Option.bind_some,h2,Option.toList_some,List.mem_append,List.mem_singleton]
     exact .inr trivial
    simp only [Option.bind_some,h2,he d this]
theorem ev_congr {ops:List Oper} {o:Oper} (he:∀ d ∈ looks ops o,(t.get d).getD zj=(t'.get d).getD zj):∀ x ∈ o.op.operands,ev t x=ev t' x:=by
 intro x hx
 cases x with
 | tmp i=>
  have:i ∈ looks ops o:=by
   unfold looks
   rw [List.mem_append]
   left
   exact List.mem_filterMap.2 ⟨.tmp i,by simpa using hx,rfl⟩
  simp only [ev,he i this]
 | const c=>rfl
 | global g=>rfl
 | func f=>rfl
end
theorem same1_eq {a b:V} (h:zkf a b=true):a=b:=by
 unfold zkf at h
 split at h <;> (try (cases h; done)) <;> (try rfl)
 all_goals simp only [Bool.and_eq_true,zff,decide_eq_true_iff,seq_eq,beq_iff_eq,ieq_iff] at h
 ·rw [h]
 ·rw [zhr h.1,h.2]
 ·rw [h]
 ·rw [h.1,h.2]
 ·obtain ⟨⟨⟨rfl,rfl⟩,rfl⟩,rfl⟩:=h; rfl
 ·obtain ⟨⟨⟨⟨rfl,rfl⟩,rfl⟩,rfl⟩,rfl⟩:=h; rfl
 ·rw [h]
 ·rw [zhr h.1,h.2]
 ·rw [h]
 ·rw [h.1,h.2]
 ·rw [h.1,h.2]
 ·obtain ⟨⟨rfl,rfl⟩,rfl⟩:=h; rfl
 ·rw [h]
theorem sameL_eq:∀ {a b:List V},zkl a b=true→a=b
 | [],[],_=>rfl
 | a::x,b::y,h=>by
  rw [zkl] at h
  cases h1:zkf a b with
  | false=>rw [h1] at h; cases h
  | true=>
   rw [h1] at h
   rw [same1_eq h1,sameL_eq h]
 | [],_::_,h=>by cases h
 | _::_,[],h=>by cases h
theorem sameV_eq {a b:V} (h:zd9 a b=true):a=b:=by
 unfold zd9 at h
 split at h
 ·rw [sameL_eq h]
 ·rw [sameL_eq h]
 ·exact same1_eq h
theorem sameB_eq {a b:Blk} (h:sameB a b=true):a=b:=by
 unfold sameB at h
 split at h
 ·simp only [Bool.and_eq_true,zff,decide_eq_true_iff,beq_iff_eq] at h
  obtain ⟨⟨h1,rfl⟩,rfl⟩:=h
  rw [sameL_eq h1]
 ·simp only [zff,decide_eq_true_iff] at h
  rw [h]
 ·cases h
def deps (o:Oper) (j:Nat):Prop:=∃ e ∈ o.after.toList,Region.binds .any e=true∧e.on=j
inductive Reach (ops:List Oper):Nat→Nat→Prop
 | one (i j:Nat) (o:Oper):ops[i]? = some o→deps o j→Reach ops i j
 | more (i j k:Nat) (o:Oper):ops[i]? = some o→deps o j→Reach ops j k→Reach ops i k
theorem zjw {l:Nat}:∀ {es:List Edge},zdX l es=true↔∀ e ∈ es,Region.binds .any e=true→Nat.testBit l e.on=true
 | []=>by simp [zdX]
 | e::r=>by
  rw [zdX]
  split
  ·rename_i hb
   cases ht:Nat.testBit l e.on with
   | true=>simp [hb,ht,zjw (es:=r)]
   | false=>simp [hb,ht]
  ·rename_i hb
   simp [hb,zjw (es:=r)]
theorem afterAll_deps {l:Nat} {o:Oper}:zdX l o.after.toList=true↔∀ j,deps o j→Nat.testBit l j=true:=by
 rw [zjw]
 exact ⟨fun h j ⟨e,he,hb,hj⟩=>hj ▸ h e he hb,fun h e he hb=>h _ ⟨e,he,hb,rfl⟩⟩
def Closed (ops:List Oper) (D:Nat→Prop):Prop:=∀ i o,ops[i]? = some o→D i→∀ j,deps o j→D j
theorem Reach.inD {ops:List Oper} {D:Nat→Prop} (hD:Closed ops D) {i j:Nat} (h:Reach ops i j):(∀ o,ops[i]? = some o→∀ k,deps o k→D k)→D j:=by
 induction h with
 | one i j o ho hd=>exact fun h=>h o ho j hd
 | more i j k o ho hd hr ih=>exact fun h=>ih fun o' ho' q hq=>hD j o' ho' (h o ho j hd) q hq
theorem maskOf_bit {ops:List Oper} {ms:List Nat} {k:Nat} (hms:∀ i j,Nat.testBit (ms.getD i 0) j=true→Reach ops i j) {o:Oper} (ho:ops[k]? = some o):∀ (es:List Edge) (m:Nat),(∀ e ∈ es,e ∈ o.after.toList)→(∀ j,Nat.testBit m j=true→Reach ops k j) →
  ∀ j,Nat.testBit (maskOf ms es m) j=true→Reach ops k j
 | [],m,_,hm,j,h=>hm j h
 | e::r,m,hes,hm,j,h=>by
  rw [maskOf] at h
  split at h
  ·rename_i hb
   have hd:deps o e.on:=⟨e,hes e (by simp),hb,rfl⟩
   refine maskOf_bit hms ho r _ (fun x hx=>hes x (by simp [hx])) (fun j hj=>?_) j h
   simp only [Nat.testBit_or,Bool.or_eq_true,Nat.testBit_two_pow,decide_eq_true_iff] at hj
   rcases hj with (hj | hj) | hj
   ·exact hm j hj
   ·subst hj; exact .one _ _ o ho hd
   ·exact .more _ _ _ o ho hd (hms _ _ hj)
  ·exact maskOf_bit hms ho r m (fun x hx=>hes x (by simp [hx])) hm j h
theorem masks_bit {ops:List Oper}:∀ (rest:List Oper) (ms:List Nat),ops.drop ms.length=rest→(∀ i j,Nat.testBit (ms.getD i 0) j=true→Reach ops i j)→∀ i j,Nat.testBit ((masks rest ms).getD i 0) j=true→Reach ops i j
 | [],ms,_,h=>h
 | o::r,ms,hd,h=>by
  rw [masks]
  have ho:ops[ms.length]? = some o:=by have:=congrArg List.head? hd; simpa using this
  have hr:ops.drop (ms.length+1)=r:=by have:=congrArg List.tail hd; simpa using this
  refine masks_bit r _ (by simpa using hr) fun i j hj=>?_
  rw [List.getD_eq_getElem?_getD,List.getElem?_append] at hj
  split at hj
  ·exact h i j (by rw [List.getD_eq_getElem?_getD]; exact hj)
  ·rename_i hlt
   by_cases hi:i=ms.length
   ·subst hi
    simp at hj
    exact maskOf_bit h ho _ 0 (fun e he=>he) (fun j hj=>by simp at hj) j (by simpa using hj)
   ·have:i - ms.length ≠ 0:=by omega
    rw [List.getElem?_singleton,if_neg this] at hj
    simp at hj
theorem zipI_mem:∀ (l:List Oper) (k i:Nat) (o:Oper),l[i]? = some o→(k+i,o) ∈ zipI l k
 | [],_,_,_,h=>by simp at h
 | x::r,k,0,o,h=>by simp at h; subst h; simp [zipI]
 | x::r,k,i+1,o,h=>by
  simp only [List.getElem?_cons_succ] at h
  have:=zipI_mem r (k+1) i o h
  rw [zipI,List.mem_cons]
  right
  rw [show k+(i+1)=k+1+i by omega]
  exact this
theorem edges_lt:∀ (l:List Oper) (k i:Nat) (o:Oper),edgesOk l k=true→l[i]? = some o→∀ j,deps o j→j < k+i
 | [],_,_,_,_,h=>by simp at h
 | x::r,k,0,o,he,h=>by
  simp at h; subst h
  rw [edgesOk,Bool.and_eq_true,List.all_eq_true] at he
  intro j ⟨e,h1,h2,h3⟩
  have:=he.1 e h1
  rw [h2] at this
  simp only [Bool.not_true,Bool.false_or,zll,decide_eq_true_iff] at this
  omega
 | x::r,k,i+1,o,he,h=>by
  rw [edgesOk,Bool.and_eq_true] at he
  simp only [List.getElem?_cons_succ] at h
  intro j hj
  have:=edges_lt r (k+1) i o he.2 h j hj
  omega
structure Stat (ops:List Oper) (ms:List Nat):Prop where
 lt:∀ (i:Nat) (o:Oper),ops[i]? = some o→∀ j,deps o j→j < i
 reach:∀ i j,Nat.testBit (ms.getD i 0) j=true→Reach ops i j
 own:∀ (i:Nat) (o:Oper) (d:Nat),ops[i]? = some o→o.dst=some d→isE o.op=false→d ∉ looks ops o
 look:∀ (i j:Nat) (o p:Oper) (d:Nat),i ≠ j→ops[i]? = some o→ops[j]? = some p→p.dst=some d→d ∈ looks ops o→Nat.testBit (ms.getD i 0) j=true∨(isE p.op=true∧Nat.testBit (ms.getD j 0) i=true)
 slot:∀ (i j:Nat) (o p:Oper) (d:Nat),i ≠ j→ops[i]? = some o→ops[j]? = some p→p.dst=some d→o.dst=some d→isE o.op=true∧isE p.op=true
inductive PlanFrom (ops:List Oper) (ms:List Nat):Nat→List PStep→Prop
 | nil (l:Nat):(∀ i,i < ops.length→Nat.testBit l i=true)→PlanFrom ops ms l []
 | n (l i:Nat) (o:Oper) (r:List PStep):ops[i]? = some o→Nat.testBit l i=false→isE o.op=false→(∀ j,deps o j→Nat.testBit l j=true)→PlanFrom ops ms (l ||| 2 ^ i) r→PlanFrom ops ms l (.n i o::r)
 | e (l i:Nat) (o:Oper) (r:List PStep):ops[i]? = some o→Nat.testBit l i=false→isE o.op=true→(∀ j,deps o j→Nat.testBit l j=true)→(∀ k p,ops[k]? = some p→Nat.testBit l k=false→(∀ j,deps p j→Nat.testBit l j=true)→k=i) →
   PlanFrom ops ms (l ||| 2 ^ i) r→PlanFrom ops ms l (.e i o (ms.getD i 0)::r)
theorem allBits_all:∀ {n l:Nat},allBits n l=true→∀ i,i < n→Nat.testBit l i=true
 | 0,_,_,_,h=>by omega
 | n+1,l,h,i,hi=>by
  rw [allBits,Bool.and_eq_true] at h
  by_cases e:i=n
  ·subst e; exact h.1
  ·exact allBits_all h.2 i (by omega)
theorem only_spec:∀ (r:List Oper) (k l i q:Nat) (p:Oper),only r k l i=true→r[q]? = some p→Nat.testBit l (k+q)=false→(∀ j,deps p j→Nat.testBit l j=true)→k+q=i
 | [],_,_,_,_,_,_,h,_,_=>by simp at h
 | x::r,k,l,i,0,p,ho,h,hl,hd=>by
  simp at h; subst h
  rw [only,Bool.and_eq_true] at ho
  have h2:=afterAll_deps.2 hd
  simp only [Nat.add_zero] at hl ⊢
  rw [hl,h2] at ho
  simpa [zff] using ho.1
 | x::r,k,l,i,q+1,p,ho,h,hl,hd=>by
  rw [only,Bool.and_eq_true] at ho
  simp only [List.getElem?_cons_succ] at h
  have:=only_spec r (k+1) l i q p ho.2 h (by rw [show k+1+q=k+(q+1) by omega]; exact hl) hd
  omega
theorem build_plan {ops:List Oper} {ms:List Nat}:∀ {idx:List Nat} {l:Nat} {p:List PStep},build ops ms l idx=some p→PlanFrom ops ms l p
 | [],l,p,h=>by
  rw [build] at h
  cases hb:allBits ops.length l with
  | false=>rw [hb] at h; cases h
  | true=>rw [hb] at h; cases h; exact .nil l (allBits_all hb)
 | i::r,l,p,h=>by
  rw [build] at h
  split at h
  ·cases h
  ·rename_i o ho
   cases hb:(!Nat.testBit l i && zdX l o.after.toList) with
   | false=>rw [hb] at h; cases h
   | true=>
    rw [hb] at h
    simp only [cond_true] at h
    rw [Bool.and_eq_true,Bool.not_eq_true'] at hb
    have hd:=afterAll_deps.1 hb.2
    split at h
    ·cases h
    ·rename_i q hq
     have ih:=build_plan hq
     split at h
     ·rename_i he
      cases h
      exact .n l i o q ho hb.1 he hd ih
     ·rename_i he
      cases hon:only ops 0 l i with
      | false=>rw [hon] at h; cases h
      | true=>
       rw [hon] at h
       cases h
       refine .e l i o q ho hb.1 he hd (fun k p hk hl hd=>?_) ih
       have:=only_spec ops 0 l i k p hon hk (by rw [Nat.zero_add]; exact hl) hd
       omega
theorem planOf_spec {ops:List Oper} {p:List PStep} (h:planOf ops=some p):∃ ms,Stat ops ms∧PlanFrom ops ms 0 p:=by
 unfold planOf at h
 generalize hms:masks ops []=ms at h
 simp only at h
 cases hb:(edgesOk ops 0 && ((zipI ops 0).all fun x=>(zipI ops 0).all fun y=>apart2 ops ms x.1 x.2 y.1 y.2)) with
 | false=>rw [hb] at h; cases h
 | true=>
  rw [hb] at h
  simp only [cond_true] at h
  rw [Bool.and_eq_true] at hb
  have hap:∀ i j o p,ops[i]? = some o→ops[j]? = some p→apart2 ops ms i o j p=true:=fun i j o p hi hj=>by
   have h1:=zipI_mem ops 0 i o hi
   have h2:=zipI_mem ops 0 j p hj
   rw [Nat.zero_add] at h1 h2
   exact List.all_eq_true.1 (List.all_eq_true.1 hb.2 _ h1) _ h2
  refine ⟨ms,⟨fun i o hi j hj=>?_,fun i j hj=>?_,fun i o d hi hd hE=>?_,fun i j o p d hne hi hj hd hl=>?_,fun i j o p d hne hi hj hd ho=>?_⟩,build_plan h⟩
  ·have:=edges_lt ops 0 i o hb.1 hi j hj; omega
  ·rw [← hms] at hj
   exact masks_bit ops [] rfl (fun i j hj=>by simp at hj) i j hj
  ·have:=hap i i o o hi hi
   unfold apart2 at this
   rw [hd] at this
   simp only [zff,decide_true,cond_true,hE,Bool.or_false,Bool.not_eq_true'] at this
   intro hm
   rw [List.contains_iff_mem.2 hm] at this
   cases this
  ·have:=hap i j o p hi hj
   unfold apart2 at this
   rw [hd] at this
   simp only [zff,hne,decide_false,cond_false,List.contains_iff_mem.2 hl,cond_true,Bool.and_eq_true,Bool.or_eq_true] at this
   exact this.1
  ·have:=hap i j o p hi hj
   unfold apart2 at this
   rw [hd,ho] at this
   simp only [zff,hne,decide_false,cond_false,decide_true,cond_true] at this
   cases hc:(looks ops o).contains d with
   | true=>rw [hc] at this; simp only [cond_true,Bool.and_eq_true] at this; exact this.2
   | false=>rw [hc] at this; simp only [cond_false,Bool.and_eq_true] at this; exact this
end Go.Proofs.YtbchdlelmkmagaaGreatDoor.VM
namespace Go.Proofs.YtbchdlelmkmagaaGreatDoor.VM
open Go Go.RowKit
set_option linter.unusedSectionVars false
variable [Sy]
def valOf:PR→V
 | .skip=>zj
 | .l v=>v
 | .f r _ id=>r.at id
section
variable {P:Program} {E:Env} {N n0:Nat} {ops:Array Oper}
structure Valid (E:Env) (ops:Array Oper) (n0:Nat) (σ:Mp) (s:St) (o:Oper) (p:PR):Prop where
 run:∃ b,za0 s.t ops.toList o.guard=some b∧((b=false∧p=.skip)∨(b=true∧((∃ v,lop E s.t s.h o.op=some v∧p=.l v)∨∃ r k id,fop E s.t o.op=some (r,k)∧p=.f r k id)))
 blk:∀ r k id,p=.f r k id→s.h.t.get id=some k∧id < s.h.n∧σ id=none∧n0≤id
 slot:∀ d,o.dst=some d→d < s.n∧(s.t.get d).getD zj=valOf p
structure Inv (E:Env) (N:Nat) (ops:Array Oper) (n0:Nat) (σ:Mp) (listed:Array Bool) (l:Nat) (pd:List (Nat × Oper × PR)) (s:St) (a:Act) (w:World):Prop where
 size:listed.size=ops.size
 sub:∀ i,i < ops.size→listed.getD i true=true→Nat.testBit l i=true
 cov:∀ i,i < ops.size→Nat.testBit l i=true→listed.getD i true=true∨∃ o p,(i,o,p) ∈ pd
 pend:∀ i o p,(i,o,p) ∈ pd→ops[i]? = some o∧isE o.op=false∧Nat.testBit l i=true
 val:∀ i o p,(i,o,p) ∈ pd→listed.getD i true=false→Valid E ops n0 σ s o p
 ids:∀ i j o o' r r' k k' id,(i,o,PR.f r k id) ∈ pd→(j,o',PR.f r' k' id) ∈ pd→listed.getD i true=false→listed.getD j true=false→i=j
 rel:RelS N σ s a w (fun d=>∃ i o p,(i,o,p) ∈ pd∧listed.getD i true=false∧o.dst=some d)
 cl:Closed ops.toList (fun i=>Nat.testBit l i=true)
 cll:Closed ops.toList (fun i=>listed.getD i true=true)
 base:n0≤s.h.n
def cnt (listed:Array Bool):Nat:=listed.toList.count false
theorem zjD {listed:Array Bool} {i:Nat} (d:Bool) (h:i < listed.size):listed.getD i d=listed[i]:=by simp [Array.getD,h]
theorem unl_lt {listed:Array Bool} {i:Nat} (h:listed.getD i true=false):i < listed.size:=by
 rcases Nat.lt_or_ge i listed.size with h1 | h1
 ·exact h1
 ·simp [Array.getD,Nat.not_lt.2 h1] at h
theorem cnt_set {listed:Array Bool} {i:Nat} (h:listed.getD i true=false):cnt (listed.setIfInBounds i true)+1=cnt listed:=by
 have hi:=unl_lt h
 unfold cnt
 rw [Array.toList_setIfInBounds,List.count_set (by simpa using hi)]
 have e:listed.toList[i]'(by simpa using hi)=false:=by rw [zjD true hi] at h; simpa using h
 have hpos:0 < listed.toList.count false:=List.count_pos_iff.2 (by rw [← e]; exact List.getElem_mem _)
 rw [e]
 have h1:(false == false)=true:=rfl
 have h2:(true == false)=false:=rfl
 simp only [h1,h2,if_true,Bool.false_eq_true,if_false]
 omega
theorem zfk {listed:Array Bool} {i j:Nat} (hi:i < listed.size):(listed.setIfInBounds i true).getD j true=true↔j=i∨listed.getD j true=true:=by
 by_cases h:j=i
 ·subst h; simp [Array.getD,hi]
 ·have:=Go.getD_set_ne (listed:=listed) (i:=i) (j:=j) true (Ne.symm h)
  rw [this]
  simp [h]
theorem set_unl {listed:Array Bool} {i j:Nat} (hi:i < listed.size) (h:(listed.setIfInBounds i true).getD j true=false):j ≠ i∧listed.getD j true=false:=by
 constructor
 ·intro e
  have:=(zfk hi (j:=j)).2 (.inl e)
  rw [h] at this; cases this
 ·cases hc:listed.getD j true with
  | false=>rfl
  | true=>
   have:=(zfk hi (j:=j)).2 (.inr hc)
   rw [h] at this; cases this
theorem zg2 {l i j:Nat}:Nat.testBit (l ||| 2 ^ i) j=true↔Nat.testBit l j=true∨j=i:=by
 rw [Nat.testBit_or,Bool.or_eq_true,Nat.testBit_two_pow,decide_eq_true_iff]
 exact ⟨fun h=>h.imp id Eq.symm,fun h=>h.imp id Eq.symm⟩
theorem zcl {s s':St} {dst:Option Tmp} {v:V} {h':Hp} (h:s.put dst v h'=some s'):s'.h=h'∧s'.n=s.n∧s'.d=s.d∧(∀ d,dst=some d→d < s.n∧(s'.t.get d).getD zj=v)∧∀ k,dst ≠ some k→s'.t.get k=s.t.get k:=by
 rw [St.put_eq] at h
 cases dst with
 | none=>cases h; exact ⟨rfl,rfl,rfl,fun d h=>(by cases h),fun _ _=>rfl⟩
 | some d=>
  simp only at h
  cases hb:Nat.blt d s.n with
  | false=>rw [hb] at h; cases h
  | true=>
   rw [hb] at h
   cases h
   rw [zll,decide_eq_true_iff] at hb
   refine ⟨rfl,rfl,rfl,fun q hq=>?_,fun k hk=>?_⟩
   ·cases hq
    exact ⟨hb,by rw [T.get_put,if_pos rfl]; rfl⟩
   ·rw [T.get_put,if_neg (fun e=>hk (by rw [e]))]
theorem take_facts {s s':St} {dst:Option Tmp} {p:PR} (h:s.take dst p=some s'):s'.n=s.n∧s'.d=s.d∧(∀ d,dst=some d→d < s.n∧(s'.t.get d).getD zj=valOf p)∧(∀ k,dst ≠ some k→s'.t.get k=s.t.get k)∧s'.h=(match p with | .f _ b _=>s.h.new b | _=>s.h):=by
 unfold St.take at h
 split at h
 ·obtain ⟨h1,h2,h3,h4,h5⟩:=zcl h; exact ⟨h2,h3,h4,h5,h1⟩
 ·obtain ⟨h1,h2,h3,h4,h5⟩:=zcl h; exact ⟨h2,h3,h4,h5,h1⟩
 ·obtain ⟨h1,h2,h3,h4,h5⟩:=zcl h; exact ⟨h2,h3,h4,h5,h1⟩
theorem nStep_facts {o:Oper} {s:St} {p:PR} (h:zjK E ops.toList o s=some p):∃ b,za0 s.t ops.toList o.guard=some b∧((b=false∧p=.skip)∨(b=true∧((∃ v,lop E s.t s.h o.op=some v∧p=.l v)∨∃ r k,fop E s.t o.op=some (r,k)∧p=.f r k s.h.n))):=by
 simp only [zjK,Option.bind_eq_some_iff] at h
 obtain ⟨b,hw,h⟩:=h
 refine ⟨b,hw,?_⟩
 split at h
 ·right
  refine ⟨rfl,?_⟩
  unfold prOf at h
  split at h
  ·rename_i v hv; cases h; exact .inl ⟨v,hv,rfl⟩
  ·split at h
   ·rename_i r k hf; cases h; exact .inr ⟨r,k,hf,rfl⟩
   ·cases h
 ·cases h; exact .inl ⟨rfl,rfl⟩
theorem eStep_facts {call:zfE} {o:Oper} {s s':St} (h:ziH E call ops.toList o s=some s'):s'.n=s.n∧∀ k,o.dst ≠ some k→s'.t.get k=s.t.get k:=by
 simp only [ziH,Option.bind_eq_some_iff] at h
 obtain ⟨b,_,h⟩:=h
 split at h
 ·unfold onNx at h
  split at h
  ·have:=zcl h; exact ⟨this.2.1,this.2.2.2.2⟩
  ·have:=zcl h; exact ⟨this.2.1,this.2.2.2.2⟩
  ·rw [Option.bind_eq_some_iff] at h
   obtain ⟨p,_,h⟩:=h
   have:=zcl h; exact ⟨this.2.1,this.2.2.2.2⟩
  ·have:=zcl h; exact ⟨this.2.1,this.2.2.2.2⟩
  ·cases h
  ·cases h
 ·have:=zcl h; exact ⟨this.2.1,this.2.2.2.2⟩
theorem Valid.keep {σ σ':Mp} {s s':St} {o:Oper} {p:PR} {i:Nat} (v:Valid E ops n0 σ s o p) (ht:∀ d ∈ looks ops.toList o,s'.t.get d=s.t.get d) (hd:∀ d,o.dst=some d→s'.t.get d=s.t.get d) (hn:s'.n=s.n)
  (hs:still E s' (i,o,p)=true∨s'.h=s.h) (hhn:s.h.n≤s'.h.n) (hσ:∀ B,B < s.h.n→σ' B = σ B):Valid E ops n0 σ' s' o p:=by
 have e1:za0 s'.t ops.toList o.guard=za0 s.t ops.toList o.guard:=wantedV_congr fun d hd=>by rw [ht d hd]
 have e2:=ev_congr (t:=s'.t) (t':=s.t) (ops:=ops.toList) (o:=o) fun d hd=>by rw [ht d hd]
 refine ⟨?_,fun r k id hp=>?_,fun d hdd=>⟨by rw [hn]; exact (v.slot d hdd).1,by rw [hd d hdd]; exact (v.slot d hdd).2⟩⟩
 ·obtain ⟨b,h1,h2⟩:=v.run
  refine ⟨b,by rw [e1]; exact h1,h2.imp id fun ⟨hb,h3⟩=>⟨hb,h3.imp (fun ⟨u,h4,h5⟩=>⟨u,?_,h5⟩) fun ⟨r,k,id,h4,h5⟩=>⟨r,k,id,by rw [fop_congr e2]; exact h4,h5⟩⟩⟩
  rw [lop_congr e2]
  rcases hs with hs | hs
  ·cases hr:readsM o.op with
   | false=>rw [lop_heap hr (h':=s.h)]; exact h4
   | true=>
    subst h5
    simp only [still,hr,cond_true] at hs
    split at hs
    ·rename_i u' hu
     rw [lop_congr e2] at hu
     rw [hu,sameV_eq hs]
    ·cases hs
  ·rw [hs]; exact h4
 ·obtain ⟨h1,h2,h3,h4⟩:=v.blk r k id hp
  subst hp
  refine ⟨?_,by omega,by rw [hσ id h2]; exact h3,h4⟩
  rcases hs with hs | hs
  ·simp only [still] at hs
   split at hs
   ·rename_i c hc
    rw [hc,sameB_eq hs]
   ·cases hs
  ·rw [hs]; exact h1
variable {Q:Exit→Act→World→Prop} {ms:List Nat}
theorem zbd {o:Oper} {i:Nat}:ops.toList[i]? = some o↔ops[i]? = some o:=by simp
theorem all_listed (st:Stat ops.toList ms) {listed:Array Bool} (hsz:listed.size=ops.size) (hr:Region.ready .any ops listed=[]):∀ i,i < ops.size→listed.getD i true=true:=by
 intro i
 induction i using Nat.strongRecOn with
 | _ i ih=>
  intro hi
  cases hc:listed.getD i true with
  | true=>rfl
  | false=>
   exfalso
   have ho:ops[i]? = some ops[i]:=by simp [hi]
   have:i ∈ Region.ready .any ops listed:=by
    rw [mem_ready]
    refine ⟨hc,_,ho,fun e he hb=>?_⟩
    have hd:deps ops[i] e.on:=⟨e,by simpa using he,hb,rfl⟩
    have hlt:=st.lt i ops[i] (zbd.2 ho) e.on hd
    have h2:=ih e.on hlt (by omega)
    rw [zjD false (by omega)]
    rw [zjD true (by omega)] at h2
    exact h2
   rw [hr] at this
   cases this
theorem zk0 (st:Stat ops.toList ms) {listed:Array Bool} (hsz:listed.size=ops.size) {i:Nat} (h:i ∈ Region.ready .any ops listed):listed.getD i true=false∧∃ o,ops[i]? = some o∧∀ j,deps o j→listed.getD j true=true:=by
 obtain ⟨h1,o,h2,h3⟩:=mem_ready.1 h
 refine ⟨h1,o,h2,fun j hj=>?_⟩
 have hlt:=st.lt i o (zbd.2 h2) j hj
 have hi:=unl_lt h1
 obtain ⟨e,he,hb,rfl⟩:=hj
 have:=h3 e (by simpa using he) hb
 rw [zjD true (by omega)]
 rw [zjD false (by omega)] at this
 exact this
theorem RelS.weaken {σ:Mp} {s:St} {a:Act} {w:World} {S T:Nat→Prop} (R:RelS N σ s a w S) (h:∀ d,S d→T d):RelS N σ s a w T:=⟨⟨R.t.size,fun i hi=>R.t.at_ i fun hs=>hi (h i hs)⟩,R.h,R.d⟩
theorem RelS.slots {σ:Mp} {s s':St} {a:Act} {w:World} {S T:Nat→Prop} (R:RelS N σ s a w S) (hn:s'.n=s.n) (hd:s'.d=s.d) (hh:Rel N σ s'.h w) (ht:∀ k,¬ T k→¬ S k∧s'.t.get k=s.t.get k):RelS N σ s' a w T:=
 ⟨⟨by rw [hn]; exact R.t.size,fun i hi=>by rw [(ht i hi).2]; exact R.t.at_ i (ht i hi).1⟩,hh,by rw [hd]; exact R.d⟩
theorem plan_sound (hE:EnvOK P E) {call:zfE} (hcall:CallOK P call) (st:Stat ops.toList ms) {s':St}:∀ (k m:Nat) (rem:List PStep) (l:Nat) (pd:List (Nat × Oper × PR)) (s:St) (σ:Mp) (listed:Array Bool) (a:Act) (w:World),m+rem.length≤k→cnt listed≤m →
  PlanFrom ops.toList ms l rem→Inv E N ops n0 σ listed l pd s a w→zbN E call ops.toList rem pd s=some s' →
  (∀ σ' a' w',Mp.Ext n0 σ σ'→n0≤s'.h.n→RelS N σ' s' a' w' (fun _=>False)→Below N w w'→Q .normal a' w')→wpAny P .any ops Q m listed a w:=by
 intro k
 induction k with
 | zero=>
  intro m rem l pd s σ listed a w hk hc hp I hr hQ
  have hm:m=0:=by omega
  subst hm
  have hall:∀ i,i < ops.size→listed.getD i true=true:=fun i hi=>by
   cases hcc:listed.getD i true with
   | true=>rfl
   | false=>have:=cnt_set hcc; omega
  have hrem:rem=[]:=List.length_eq_zero_iff.1 (by omega)
  subst hrem
  refine ⟨?_,?_⟩
  ·cases hrd:Region.ready .any ops listed with
   | nil=>rfl
   | cons i r=>
    have hi:i ∈ Region.ready .any ops listed:=by rw [hrd]; simp
    have h1:=(zk0 st I.size hi).1
    have h2:=hall i (by have:=unl_lt h1; rw [I.size] at this; exact this)
    rw [h1] at h2; cases h2
  ·simp only [zbN,Option.some.injEq] at hr
   subst hr
   exact hQ σ a w (Mp.Ext.refl _ _) I.base (I.rel.weaken fun d ⟨i,o,p,h1,h2,_⟩=>by
    have h3:=hall i (by have:=unl_lt h2; rw [I.size] at this; exact this)
    rw [h2] at h3; cases h3) (Below.refl _ _)
 | succ k ih=>
  intro m rem l pd s σ listed a w hk hc hp I hr hQ
  have hend:(∀ i,i < ops.size→listed.getD i true=true)→Q .normal a w:=fun hall=>by
   cases hp with
   | nil _ h0=>
    simp only [zbN,Option.some.injEq] at hr
    subst hr
    exact hQ σ a w (Mp.Ext.refl _ _) I.base (I.rel.weaken fun d ⟨i,o,p,h1,h2,_⟩=>by
     have h3:=hall i (by have:=unl_lt h2; rw [I.size] at this; exact this)
     rw [h2] at h3; cases h3) (Below.refl _ _)
   | n _ i o r ho hl _ _ _=>
    have hi:i < ops.size:=(Array.getElem?_eq_some_iff.1 (zbd.1 ho)).1
    have:=I.sub i hi (hall i hi)
    rw [hl] at this; cases this
   | e _ i o r ho hl _ _ _ _=>
    have hi:i < ops.size:=(Array.getElem?_eq_some_iff.1 (zbd.1 ho)).1
    have:=I.sub i hi (hall i hi)
    rw [hl] at this; cases this
  have hgo:(∀ i o r,rem=.n i o::r→False)→wpAny P .any ops Q m listed a w:=fun hnn=>by
   cases m with
   | zero=>
    have hall:∀ i,i < ops.size→listed.getD i true=true:=fun i hi=>by
     cases hcc:listed.getD i true with
     | true=>rfl
     | false=>have:=cnt_set hcc; omega
    refine ⟨?_,hend hall⟩
    cases hrd:Region.ready .any ops listed with
    | nil=>rfl
    | cons i r=>
     have hi:i ∈ Region.ready .any ops listed:=by rw [hrd]; simp
     have h1:=(zk0 st I.size hi).1
     have h2:=hall i (by have:=unl_lt h1; rw [I.size] at this; exact this)
     rw [h1] at h2; cases h2
   | succ m=>
    refine ⟨fun h=>hend (all_listed st I.size h),fun i hi=>?_⟩
    obtain ⟨hu,o,ho,hdeps⟩:=zk0 st I.size hi
    have hil:=unl_lt hu
    have hio:i < ops.size:=by rw [← I.size]; exact hil
    have hreach:∀ j,Reach ops.toList i j→listed.getD j true=true:=fun j hj=>hj.inD I.cll fun o' ho' q hq=>by
     rw [zbd,ho] at ho'; cases ho'; exact hdeps q hq
    have hcnt:cnt (listed.setIfInBounds i true)≤m:=by have:=cnt_set hu; omega
    have hlook:∀ d ∈ looks ops.toList o,¬ ∃ j p q,(j,p,q) ∈ pd∧listed.getD j true=false∧p.dst=some d:=fun d hd ⟨j,p,q,hm,hj,hpd⟩=>by
     obtain ⟨hp1,hp2,_⟩:=I.pend j p q hm
     by_cases hij:i=j
     ·subst hij
      rw [ho] at hp1; cases hp1
      exact st.own i o d (zbd.2 ho) hpd hp2 hd
     ·rcases st.look i j o p d hij (zbd.2 ho) (zbd.2 hp1) hpd hd with h1 | ⟨h1,_⟩
      ·have:=hreach j (st.reach i j h1)
       rw [hj] at this; cases this
      ·rw [hp2] at h1; cases h1
    have hsub':∀ l',(∀ j,Nat.testBit l j=true→Nat.testBit l' j=true)→Nat.testBit l' i=true→∀ j,j < ops.size→(listed.setIfInBounds i true).getD j true=true→Nat.testBit l' j=true:=fun l' h1 h2 j hj h3=>by
     rcases (zfk hil).1 h3 with rfl | h4
     ·exact h2
     ·exact h1 j (I.sub j hj h4)
    have hcll':Closed ops.toList (fun j=>(listed.setIfInBounds i true).getD j true=true):=fun j o' ho' hj q hq=>by
     show (listed.setIfInBounds i true).getD q true=true
     rw [zfk hil]
     right
     rcases (zfk hil).1 hj with rfl | h4
     ·rw [zbd,ho] at ho'; cases ho'; exact hdeps q hq
     ·exact I.cll j o' ho' h4 q hq
    cases hbit:Nat.testBit l i with
    | true=>
     rcases I.cov i hio hbit with h1 | ⟨o',p,hm⟩
     ·rw [hu] at h1; cases h1
     ·obtain ⟨hp1,hp2,_⟩:=I.pend i o' p hm
      rw [ho] at hp1; cases hp1
      have V:=I.val i o p hm hu
      obtain ⟨b,hw,hcase⟩:=V.run
      have hrel:∀ (σ':Mp) (x:Value) (w':World),Mp.le σ σ'→Rep σ' (valOf p) x→Rel N σ' s.h w'→RelS N σ' s (a.put o.dst x) w' (fun d=>∃ j o p,(j,o,p) ∈ pd∧(listed.setIfInBounds i true).getD j true=false∧o.dst=some d):=fun σ' x w' hle hx hh=>by
       refine ⟨⟨?_,fun d hd=>?_⟩,hh,?_⟩
       ·rw [← I.rel.t.size]; cases o.dst <;> simp [Act.put]
       ·cases hdst:o.dst with
        | none=>
         refine (I.rel.t.at_ d fun ⟨j,o2,p2,h1,h2,h3⟩=>hd ⟨j,o2,p2,h1,?_,h3⟩).mono hle
         cases hc2:(listed.setIfInBounds i true).getD j true with
         | false=>rfl
         | true=>
          rcases (zfk hil).1 hc2 with rfl | h4
          ·have:=(I.pend _ _ _ h1).1; rw [ho] at this; cases this; rw [hdst] at h3; cases h3
          ·rw [h2] at h4; cases h4
        | some e=>
         obtain ⟨g1,g2⟩:=V.slot e hdst
         by_cases hde:d=e
         ·subst hde
          rw [g2]
          have:d < a.tmps.size:=by rw [I.rel.t.size]; exact g1
          simp [Act.put,Array.getD,this,hx]
         ·have e2:(a.put (some e) x).tmps.getD d undef=a.tmps.getD d undef:=getD_set_ne hde
          rw [e2]
          refine (I.rel.t.at_ d fun ⟨j,o2,p2,h1,h2,h3⟩=>hd ⟨j,o2,p2,h1,?_,h3⟩).mono hle
          cases hc2:(listed.setIfInBounds i true).getD j true with
          | false=>rfl
          | true=>
           rcases (zfk hil).1 hc2 with rfl | h4
           ·have:=(I.pend _ _ _ h1).1; rw [ho] at this; cases this; rw [hdst] at h3; cases h3; exact absurd rfl hde
           ·rw [h2] at h4; cases h4
       ·have:(a.put o.dst x).defers=a.defers:=by cases o.dst <;> rfl
        rw [this]
        exact I.rel.d.mono hle
      have hinv:∀ (σ':Mp) (x:Value) (w':World),(∀ B,B < s.h.n→(∀ r k,p ≠ .f r k B)→σ' B = σ B)→Mp.le σ σ'→Rep σ' (valOf p) x→Rel N σ' s.h w'→Inv E N ops n0 σ' (listed.setIfInBounds i true) l pd s (a.put o.dst x) w':=fun σ' x w' hsame hle hx hh=>by
       refine ⟨by simp [I.size],hsub' l (fun _ h=>h) hbit,fun j hj hb=>?_,I.pend,fun j o2 p2 hm2 hj=>?_,fun j j' o2 o3 r r' k k' id h1 h2 h3 h4=>I.ids j j' o2 o3 r r' k k' id h1 h2 (set_unl hil h3).2 (set_unl hil h4).2,hrel σ' x w' hle hx hh,I.cl,hcll',I.base⟩
       ·rcases I.cov j hj hb with h1 | h1
        ·exact .inl ((zfk hil).2 (.inr h1))
        ·exact .inr h1
       ·obtain ⟨hne,hj'⟩:=set_unl hil hj
        have V2:=I.val j o2 p2 hm2 hj'
        refine ⟨V2.run,fun r k id hp2=>?_,V2.slot⟩
        obtain ⟨g1,g2,g3,g4⟩:=V2.blk r k id hp2
        refine ⟨g1,g2,?_,g4⟩
        rw [hsame id g2 fun r' k' hp3=>hne (I.ids j i o2 o r r' k k' id (hp2 ▸ hm2) (hp3 ▸ hm) hj' hu)]
        exact g3
      refine n_sound (K:=wpAny P .any ops Q m (listed.setIfInBounds i true)) hE I.rel ho hlook hw hcase ?_
      cases p with
      | skip=>
       exact ih m rem l pd s σ _ _ w (by omega) hcnt hp (hinv σ undef w (fun _ _ _=>rfl) (Mp.le.refl _) (Rep.undef _) I.rel.h) hr hQ
      | l v=>
       intro x hx
       exact ih m rem l pd s σ _ _ w (by omega) hcnt hp (hinv σ x w (fun _ _ _=>rfl) (Mp.le.refl _) hx I.rel.h) hr hQ
      | f r k id=>
       intro x w' hmade
       obtain ⟨b',n',q1,q2,q3,q4,q5⟩:=hmade
       obtain ⟨g1,g2,g3,g4⟩:=V.blk r k id rfl
       have hle:=Mp.le_put (p:=(b',n')) g3
       have hR:=I.rel.h.come g2 g1 g3 q5 q1 q2 q4
       refine ih m rem l pd s (σ.put id (b',n')) _ _ w' (by omega) hcnt hp (hinv _ x w' (fun B _ hne=>?_) hle (q3 _ _ (Mp.put_same _ _ _)) hR) hr fun σ' a' w2 h1 h2 h3 h4=>hQ σ' a' w2 ((Mp.Ext.put g3 g4).trans h1 (Nat.le_refl _)) h2 h3 ((q5.mono I.rel.h.base).trans h4)
       unfold Mp.put
       rw [if_neg fun e=>hne r k (by rw [e])]
    | false=>
     cases hp with
     | nil _ h0=>have:=h0 i (by simpa using hio); rw [hbit] at this; cases this
     | n _ i' o' r' _ _ _ _ _=>exact (hnn _ _ _ rfl).elim
     | e _ i' o' r' ho' hl' hE' hd' hu' hp'=>
      have hii:i=i':=hu' i o (zbd.2 ho) hbit fun j hj=>by
       have hlt:=st.lt i o (zbd.2 ho) j hj
       exact I.sub j (by omega) (hdeps j hj)
      subst hii
      rw [zbd,ho] at ho'; cases ho'
      simp only [zbN] at hr
      split at hr
      ·rename_i s1 hs1
       cases hall:(pd.filter fun p=>!Nat.testBit (ms.getD i 0) p.1).all (still E s1) with
       | false=>rw [hall] at hr; cases hr
       | true=>
        rw [hall] at hr
        simp only [cond_true] at hr
        refine e_sound (K:=wpAny P .any ops Q m (listed.setIfInBounds i true)) hE hcall I.rel hs1 ho hlook fun σ' a' w' hx hnn' hR hbel=>?_
        have hf:∀ j o2 p2,(j,o2,p2) ∈ (pd.filter fun p=>!Nat.testBit (ms.getD i 0) p.1)↔(j,o2,p2) ∈ pd∧Nat.testBit (ms.getD i 0) j=false:=fun j o2 p2=>by
         rw [List.mem_filter]; simp
        have hst:=eStep_facts hs1
        have hkeep:∀ j o2 p2,(j,o2,p2) ∈ pd→Nat.testBit (ms.getD i 0) j=false→listed.getD j true=false→Valid E ops n0 σ' s1 o2 p2:=fun j o2 p2 hm hmj hj=>by
         obtain ⟨g1,g2,g3⟩:=I.pend j o2 p2 hm
         have hne:j ≠ i:=fun e=>by subst e; rw [hbit] at g3; cases g3
         refine (I.val j o2 p2 hm hj).keep (i:=j) (fun d hd=>?_) (fun d hd=>?_) hst.1 (.inl (List.all_eq_true.1 hall _ ((hf j o2 p2).2 ⟨hm,hmj⟩))) hnn' hx.same
         ·refine hst.2 d fun hdd=>?_
          rcases st.look j i o2 o d hne (zbd.2 g1) (zbd.2 ho) hdd hd with h1 | ⟨_,h1⟩
          ·have:=(st.reach j i h1).inD I.cl fun o3 ho3 q hq=>I.cl j o3 ho3 g3 q hq
           rw [hbit] at this; cases this
          ·rw [hmj] at h1; cases h1
         ·refine hst.2 d fun hdd=>?_
          have:=(st.slot j i o2 o d hne (zbd.2 g1) (zbd.2 ho) hdd hd).1
          rw [g2] at this; cases this
        refine ih m r' (l ||| 2 ^ i) _ s1 σ' _ a' w' (by simp at hk; omega) hcnt hp' ⟨by simp [I.size],hsub' _ (fun j h=>zg2.2 (.inl h)) (zg2.2 (.inr rfl)),fun j hj hb=>?_,fun j o2 p2 hm=>?_,fun j o2 p2 hm hj=>?_,fun j j' o2 o3 r1 r2 k1 k2 id h1 h2 h3 h4=>?_,?_,?_,hcll',Nat.le_trans I.base hnn'⟩ hr fun σ2 a2 w2 h1 h2 h3 h4=>hQ σ2 a2 w2 ?_ h2 h3 (hbel.trans h4)
        ·rcases zg2.1 hb with h1 | rfl
         ·rcases I.cov j hj h1 with h2 | ⟨o2,p2,h2⟩
          ·exact .inl ((zfk hil).2 (.inr h2))
          ·cases hmj:Nat.testBit (ms.getD i 0) j with
           | true=>exact .inl ((zfk hil).2 (.inr (hreach j (st.reach i j hmj))))
           | false=>exact .inr ⟨o2,p2,(hf j o2 p2).2 ⟨h2,hmj⟩⟩
         ·exact .inl ((zfk hil).2 (.inl rfl))
        ·obtain ⟨g1,g2,g3⟩:=I.pend j o2 p2 ((hf j o2 p2).1 hm).1
         exact ⟨g1,g2,zg2.2 (.inl g3)⟩
        ·obtain ⟨h1,h2⟩:=(hf j o2 p2).1 hm
         exact hkeep j o2 p2 h1 h2 (set_unl hil hj).2
        ·exact I.ids j j' o2 o3 r1 r2 k1 k2 id ((hf _ _ _).1 h1).1 ((hf _ _ _).1 h2).1 (set_unl hil h3).2 (set_unl hil h4).2
        ·refine hR.weaken fun d ⟨j,o2,p2,h1,h2,h3⟩=>?_
         obtain ⟨g1,g2,g3⟩:=I.pend j o2 p2 h1
         have hne:j ≠ i:=fun e=>by subst e; rw [hbit] at g3; cases g3
         refine ⟨j,o2,p2,(hf j o2 p2).2 ⟨h1,?_⟩,?_,h3⟩
         ·cases hmj:Nat.testBit (ms.getD i 0) j with
          | false=>rfl
          | true=>have:=hreach j (st.reach i j hmj); rw [h2] at this; cases this
         ·cases hc2:(listed.setIfInBounds i true).getD j true with
          | false=>rfl
          | true=>
           rcases (zfk hil).1 hc2 with h4 | h4
           ·exact absurd h4 hne
           ·rw [h2] at h4; cases h4
        ·intro j o2 ho2 hj q hq
         show Nat.testBit (l ||| 2 ^ i) q=true
         replace hj:Nat.testBit (l ||| 2 ^ i) j=true:=hj
         rw [zg2] at hj ⊢
         rcases hj with hj | rfl
         ·exact .inl (I.cl j o2 ho2 hj q hq)
         ·rw [zbd,ho] at ho2; cases ho2
          exact .inl (hd' q hq)
        ·exact ⟨hx.le.trans h1.le,fun B hB=>(h1.same B hB).trans (hx.same B (by have:=I.base; omega))⟩
      ·cases hr
  cases rem with
  | nil=>exact hgo (fun _ _ _ h=>by cases h)
  | cons ps r=>
   cases ps with
   | e i o m'=>exact hgo (fun _ _ _ h=>by cases h)
   | n i o=>
    cases hp with
    | n _ _ _ _ ho' hl hE' hd' hp'=>
     have ho:=zbd.1 ho'
     have hio:i < ops.size:=(Array.getElem?_eq_some_iff.1 ho).1
     have hui:listed.getD i true=false:=by
      cases hc2:listed.getD i true with
      | false=>rfl
      | true=>have:=I.sub i hio hc2; rw [hl] at this; cases this
     simp only [zbN] at hr
     split at hr
     ·rename_i p hn
      split at hr
      ·rename_i s1 hs1
       cases hchk:stillAll E s1 pd p with
       | false=>rw [hchk] at hr; cases hr
       | true=>
        rw [hchk] at hr
        simp only [cond_true] at hr
        obtain ⟨t1,t2,t3,t4,t5⟩:=take_facts hs1
        obtain ⟨b,hw,hcase⟩:=nStep_facts hn
        have hhn:s.h.n≤s1.h.n:=by
         rw [t5]
         cases p with
         | f r k id=>exact Nat.le_succ _
         | l v=>exact Nat.le_refl _
         | skip=>exact Nat.le_refl _
        have hrelh:Rel N σ s1.h w:=by
         rw [t5]
         cases p with
         | f r k id=>exact I.rel.h.more _
         | l v=>exact I.rel.h
         | skip=>exact I.rel.h
        have hself:Valid E ops n0 σ s1 o p:=by
         have e0:∀ d ∈ looks ops.toList o,s1.t.get d=s.t.get d:=fun d hd=>t4 d fun hdd=>st.own i o d ho' hdd hE' hd
         have e1:za0 s1.t ops.toList o.guard=za0 s.t ops.toList o.guard:=wantedV_congr fun d hd=>by rw [e0 d hd]
         have e2:=ev_congr (t:=s1.t) (t':=s.t) (ops:=ops.toList) (o:=o) fun d hd=>by rw [e0 d hd]
         have c1:(b=false∧p=.skip)∨(b=true∧((∃ v,lop E s1.t s1.h o.op=some v∧p=.l v)∨∃ r k id,fop E s1.t o.op=some (r,k)∧p=.f r k id)):=by
          rcases hcase with h | ⟨hb,⟨u,h4,h5⟩ | ⟨r',k',h4,h5⟩⟩
          ·exact .inl h
          ·subst h5
           exact .inr ⟨hb,.inl ⟨u,by rw [lop_congr e2,t5]; exact h4,rfl⟩⟩
          ·exact .inr ⟨hb,.inr ⟨r',k',s.h.n,by rw [fop_congr e2]; exact h4,h5⟩⟩
         have c2:∀ r k id,p=.f r k id→s1.h.t.get id=some k∧id < s1.h.n∧σ id=none∧n0≤id:=fun r' k' id hp=>by
          subst hp
          rcases hcase with ⟨_,h⟩ | ⟨_,⟨v,_,h⟩ | ⟨r'',k'',_,h⟩⟩
          ·cases h
          ·cases h
          ·cases h
           rw [t5]
           exact ⟨by rw [Hp.get_new,if_pos rfl],Nat.lt_succ_self _,I.rel.h.free,I.base⟩
         exact ⟨⟨b,by rw [e1]; exact hw,c1⟩,c2,fun d hd=>by rw [t1]; exact t3 d hd⟩
        have hkeep:∀ j o2 p2,(j,o2,p2) ∈ pd→listed.getD j true=false→Valid E ops n0 σ s1 o2 p2:=fun j o2 p2 hm hj=>by
         obtain ⟨g1,g2,g3⟩:=I.pend j o2 p2 hm
         have hne:j ≠ i:=fun e=>by subst e; rw [hl] at g3; cases g3
         refine (I.val j o2 p2 hm hj).keep (i:=j) (fun d hd=>t4 d fun hdd=>?_) (fun d hd=>t4 d fun hdd=>?_) t1 ?_ hhn (fun _ _=>rfl)
         ·rcases st.look j i o2 o d hne (zbd.2 g1) ho' hdd hd with h1 | ⟨h1,_⟩
          ·have:=(st.reach j i h1).inD I.cl fun o3 ho3 q hq=>I.cl j o3 ho3 g3 q hq
           rw [hl] at this; cases this
          ·rw [hE'] at h1; cases h1
         ·have:=(st.slot j i o2 o d hne (zbd.2 g1) ho' hdd hd).1
          rw [g2] at this; cases this
         ·cases p with
          | f r k id=>exact .inl (List.all_eq_true.1 hchk _ hm)
          | l v=>exact .inr t5
          | skip=>exact .inr t5
        refine ih m r (l ||| 2 ^ i) ((i,o,p)::pd) s1 σ listed a w (by simp at hk; omega) hc hp' ⟨I.size,fun j hj h=>zg2.2 (.inl (I.sub j hj h)),fun j hj hb=>?_,fun j o2 p2 hm=>?_,fun j o2 p2 hm hj=>?_,fun j j' o2 o3 r1 r2 k1 k2 id h1 h2 h3 h4=>?_,?_,?_,I.cll,Nat.le_trans I.base hhn⟩ hr hQ
        ·rcases zg2.1 hb with h1 | rfl
         ·exact (I.cov j hj h1).imp id fun ⟨o2,p2,h2⟩=>⟨o2,p2,by simp [h2]⟩
         ·exact .inr ⟨o,p,by simp⟩
        ·rcases List.mem_cons.1 hm with h1 | h1
         ·cases h1; exact ⟨ho,hE',zg2.2 (.inr rfl)⟩
         ·obtain ⟨g1,g2,g3⟩:=I.pend j o2 p2 h1
          exact ⟨g1,g2,zg2.2 (.inl g3)⟩
        ·rcases List.mem_cons.1 hm with h1 | h1
         ·cases h1; exact hself
         ·exact hkeep j o2 p2 h1 hj
        ·have hid:∀ {j:Nat} {o2:Oper} {r1:Fr} {k1:Blk},p=.f r1 k1 id→id=s.h.n:=fun {j o2 r1 k1} hp=>by
          subst hp
          rcases hcase with ⟨_,h⟩ | ⟨_,⟨v,_,h⟩ | ⟨r',k',_,h⟩⟩ <;> cases h
          rfl
         have hold:∀ {j:Nat} {o2:Oper} {r1:Fr} {k1:Blk},(j,o2,PR.f r1 k1 id) ∈ pd→listed.getD j true=false→id < s.h.n:=fun {j o2 r1 k1} hm hj=>((I.val j o2 _ hm hj).blk _ _ _ rfl).2.1
         rcases List.mem_cons.1 h1 with e1 | e1 <;> rcases List.mem_cons.1 h2 with e2 | e2
         ·cases e1; cases e2; rfl
         ·cases e1
          have q1:=hid (j:=i) (o2:=o) rfl
          have q2:=hold e2 h4
          omega
         ·cases e2
          have q1:=hid (j:=i) (o2:=o) rfl
          have q2:=hold e1 h3
          omega
         ·exact I.ids j j' o2 o3 r1 r2 k1 k2 id e1 e2 h3 h4
        ·refine I.rel.slots t1 t2 hrelh fun d hd=>⟨fun ⟨j,o2,p2,h1,h2,h3⟩=>hd ⟨j,o2,p2,by simp [h1],h2,h3⟩,t4 d fun hdd=>hd ⟨i,o,p,by simp,hui,hdd⟩⟩
        ·intro j o2 ho2 hj q hq
         show Nat.testBit (l ||| 2 ^ i) q=true
         replace hj:Nat.testBit (l ||| 2 ^ i) j=true:=hj
         rw [zg2] at hj ⊢
         rcases hj with hj | rfl
         ·exact .inl (I.cl j o2 ho2 hj q hq)
         ·rw [ho'] at ho2; cases ho2
          exact .inl (hd' q hq)
      ·cases hr
     ·cases hr
end
end Go.Proofs.YtbchdlelmkmagaaGreatDoor.VM
namespace Go.Proofs.YtbchdlelmkmagaaGreatDoor.VM
open Go Go.RowKit
set_option linter.unusedSectionVars false
variable [Sy]
section
variable {P:Program} {E:Env} {N:Nat} {ops:Array Oper} {Q:Exit→Act→World→Prop}
def none_:Nat→Prop:=fun _=>False
theorem step_sound (hE:EnvOK P E) {call:zfE} (hcall:CallOK P call) {s s':St} {σ:Mp} {a:Act} {w:World} {o:Oper} {i:Nat} {K:Act→World→Prop} (hs:zel E call ops.toList o s=some s') (hi:ops[i]? = some o) (R:RelS N σ s a w none_)
  (hk:∀ σ' a' w',Mp.Ext s.h.n σ σ'→s.h.n≤s'.h.n→RelS N σ' s' a' w' none_→Below N w w'→K a' w'):wpOp P ops Q i K a w:=by
 unfold zel at hs
 split at hs
 ·exact e_sound hE hcall R hs hi (fun _ _ h=>h) hk
 ·rw [Option.bind_eq_some_iff] at hs
  obtain ⟨p,hn,hs⟩:=hs
  obtain ⟨b,hw,hcase⟩:=nStep_facts hn
  refine n_sound hE R hi (fun _ _ h=>h) hw (hcase.imp id fun ⟨hb,h⟩=>⟨hb,h.imp id fun ⟨r,k,h1,h2⟩=>⟨r,k,s.h.n,h1,h2⟩⟩) ?_
  cases p with
  | skip=>
   have h1:=(zcl hs).1
   exact hk σ _ w (Mp.Ext.refl _ _) (by rw [h1]; exact Nat.le_refl _) (zdP R hs (Mp.le.refl _) (Rep.undef _) R.h) (Below.refl _ _)
  | l v=>
   intro x hx
   have h1:=(zcl hs).1
   exact hk σ _ w (Mp.Ext.refl _ _) (by rw [h1]; exact Nat.le_refl _) (zdP R hs (Mp.le.refl _) hx R.h) (Below.refl _ _)
  | f r k id=>
   intro x w' hm
   have h1:=(zcl hs).1
   have hid:id=s.h.n:=by
    rcases hcase with ⟨_,h⟩ | ⟨_,⟨v,_,h⟩ | ⟨r',k',_,h⟩⟩ <;> cases h
    rfl
   subst hid
   obtain ⟨σ',g1,g2,g3,g4,g5⟩:=R.h.made hm
   exact hk σ' _ w' g1 (by rw [h1]; exact g2) (zdP R hs g1.le g3 g4) g5
theorem ops_sound (hE:EnvOK P E) {call:zfE} (hcall:CallOK P call) {s':St}:∀ (rest:List Oper) (k:Nat) (s:St) (σ:Mp) (a:Act) (w:World),ops.toList.drop k=rest→ziz E call ops.toList rest s=some s'→RelS N σ s a w none_ →
  (∀ σ' a' w',Mp.Ext s.h.n σ σ'→s.h.n≤s'.h.n→RelS N σ' s' a' w' none_→Below N w w'→Q .normal a' w')→wpOps P ops Q (List.range' k rest.length) a w
 | [],k,s,σ,a,w,_,hr,R,hQ=>by
  simp only [ziz,Option.some.injEq] at hr
  subst hr
  exact hQ σ a w (Mp.Ext.refl _ _) (Nat.le_refl _) R (Below.refl _ _)
 | o::r,k,s,σ,a,w,hd,hr,R,hQ=>by
  rw [ziz] at hr
  split at hr
  ·rename_i s1 hs1
   have ho:ops[k]? = some o:=by
    have:=congrArg List.head? hd
    simpa using this
   have hd2:ops.toList.drop (k+1)=r:=by have:=congrArg List.tail hd; simpa using this
   rw [List.length_cons,List.range'_succ,wpOps_cons]
   refine step_sound hE hcall hs1 ho R fun σ1 a1 w1 h1 h2 h3 h4=>?_
   exact ops_sound hE hcall r (k+1) s1 σ1 a1 w1 hd2 hr h3 fun σ2 a2 w2 g1 g2 g3 g4=>hQ σ2 a2 w2 (h1.trans g1 h2) (Nat.le_trans h2 g2) g3 (h4.trans g4)
  ·cases hr
theorem region_sound (hE:EnvOK P E) {call:zfE} (hcall:CallOK P call) {s s':St} {σ:Mp} {a:Act} {w:World} {id:Nat} {draw:Bool} (hr:zhl E call ops.toList draw s=some s') (R:RelS N σ s a w none_)
  (hQ:∀ σ' a' w',Mp.Ext s.h.n σ σ'→s.h.n≤s'.h.n→RelS N σ' s' a' w' none_→Below N w w'→Q .normal a' w'):(Code.region id ops draw).wp P Q a w:=by
 cases draw with
 | false=>
  refine wp_region ?_
  have:=ops_sound hE hcall (Q:=Q) ops.toList 0 s σ a w (by simp) hr R hQ
  rw [List.range_eq_range']
  simpa using this
 | true=>
  simp only [zhl] at hr
  split at hr
  ·rename_i p hp
   obtain ⟨ms,st,hpl⟩:=planOf_spec hp
   refine wp_region_any hE.mixed ?_
   have hgd:∀ i,i < ops.size→(Array.replicate ops.size false).getD i true=false:=fun i hi=>by simp [Array.getD,hi]
   have hgt:∀ i,(Array.replicate ops.size false).getD i true=true→ops.size≤i:=fun i h=>by
    rcases Nat.lt_or_ge i ops.size with h1 | h1
    ·rw [hgd i h1] at h; cases h
    ·exact h1
   have hbel:Below w.heap.size w { w with drawn:=w.drawn+1 }:=⟨rfl,rfl,rfl,Nat.le_refl _,fun _ _=>rfl⟩
   refine plan_sound (n0:=s.h.n) hE hcall st (ops.size+p.length) ops.size p 0 [] s σ _ a _ (Nat.le_refl _) ?_ hpl ⟨by simp,fun i hi h=>?_,fun i _ h=>by simp at h,fun i o p h=>by simp at h,fun i o p h=>by simp at h,fun i j o o' r r' k k' id h=>by simp at h,?_,fun i o _ h=>by simp at h,fun i o ho h=>?_,Nat.le_refl _⟩ hr fun σ' a' w' h1 h2 h3 h4=>hQ σ' a' w' h1 h2 h3 ((hbel.mono R.h.base).trans h4)
   ·unfold cnt; simp
   ·have:=hgt i h; omega
   ·exact ⟨⟨R.t.size,fun i _=>R.t.at_ i (fun h=>h)⟩,R.h.world hbel,R.d⟩
   ·have:=hgt i h
    have hi:=(Array.getElem?_eq_some_iff.1 (zbd.1 ho)).1
    omega
  ·cases hr
def exOf:Ex→Exit
 | .normal=>.normal
 | .exit id=>.exit id
 | .ret=>.ret
def ExecOK (P:Program) (ex:Code→St→Option (Ex × St)):Prop:=
 ∀ c s e s',ex c s=some (e,s')→∀ (N:Nat) (σ:Mp) (a:Act) (w:World) (Q:Exit→Act→World→Prop),RelS N σ s a w none_ →
  (∀ σ' a' w',Mp.Ext s.h.n σ σ'→s.h.n≤s'.h.n→RelS N σ' s' a' w' none_→Below N w w'→Q (exOf e) a' w')→c.wp P Q a w
def LoopOK (P:Program) (ex:Code→St→Option (Ex × St)) (n:Nat):Prop:=
 ∀ c s e s',ex (.loop c) s=some (e,s')→∀ (N:Nat) (σ:Mp) (a:Act) (w:World) (Q:Exit→Act→World→Prop),RelS N σ s a w none_ →
  (∀ σ' a' w',Mp.Ext s.h.n σ σ'→s.h.n≤s'.h.n→RelS N σ' s' a' w' none_→Below N w w'→Q (exOf e) a' w')→Code.rounds P c Q n a w
theorem loopF_ok {ih:Code→St→Option (Ex × St)} {n:Nat} (hi:ExecOK P ih) (hl:LoopOK P ih n) (hex:exec E n=ih):LoopOK P (exec E (n+1)) (n+1):=by
 intro x s e s' h N σ a w Q R hQ
 rw [exec.eq_def] at h
 simp only [hex] at h
 rw [rounds_succ]
 unfold zc0 at h
 split at h
 ·rename_i s1 h1
  refine hi x s .normal s1 h1 N σ a w _ R fun σ1 a1 w1 g1 g2 g3 g4=>?_
  exact hl x s1 e s' h N σ1 a1 w1 Q g3 fun σ2 a2 w2 k1 k2 k3 k4=>hQ σ2 a2 w2 (g1.trans k1 g2) (Nat.le_trans g2 k2) k3 (g4.trans k4)
 ·rename_i hn
  refine hi x s e s' h N σ a w _ R fun σ1 a1 w1 g1 g2 g3 g4=>?_
  have:=hQ σ1 a1 w1 g1 g2 g3 g4
  cases e with
  | normal=>exact (hn s' h).elim
  | exit id=>exact this
  | ret=>exact this
theorem execF_ok (hE:EnvOK P E) {ih:Code→St→Option (Ex × St)} (hi:ExecOK P ih) (hc:CallOK P (zax E ih)) (n:Nat) (hl:LoopOK P (exec E (n+1)) (n+1)) (hex:exec E n=ih):ExecOK P (exec E (n+1)):=by
 intro c s e s' h N σ a w Q R hQ
 have h0:=h
 rw [exec.eq_def] at h
 simp only [hex] at h
 cases c <;> simp only at h <;> (try (cases h; done))
 case skip=>
  cases h
  exact wp_skip (hQ σ a w (Mp.Ext.refl _ _) (Nat.le_refl _) R (Below.refl _ _))
 case region id ops draw=>
  unfold ndRegion at h
  split at h
  ·rename_i s1 hr
   cases h
   exact region_sound hE hc hr R hQ
  ·cases h
 case seq x y=>
  unfold zc0 at h
  refine wp_seq ?_
  split at h
  ·rename_i s1 h1
   refine hi x s .normal s1 h1 N σ a w _ R fun σ1 a1 w1 g1 g2 g3 g4=>?_
   show y.wp P Q a1 w1
   exact hi y s1 e s' h N σ1 a1 w1 Q g3 fun σ2 a2 w2 k1 k2 k3 k4=>hQ σ2 a2 w2 (g1.trans k1 g2) (Nat.le_trans g2 k2) k3 (g4.trans k4)
  ·rename_i hn
   refine hi x s e s' h N σ a w _ R fun σ1 a1 w1 g1 g2 g3 g4=>?_
   have:=hQ σ1 a1 w1 g1 g2 g3 g4
   cases e with
   | normal=>exact (hn s' h).elim
   | exit id=>exact this
   | ret=>exact this
 case cond c x y=>
  have hcr:∀ v,ev s.t c=some v→Rep σ v (a.eval c):=fun v hv=>by
   cases c with
   | tmp i=>simp only [ev,Option.some.injEq] at hv; subst hv; exact R.t.at_ i (fun h=>h)
   | const q=>exact ofVal_rep hv
   | global g=>simp only [ev,Option.some.injEq] at hv; subst hv; exact .gptr _ _
   | func f=>simp only [ev,Option.some.injEq] at hv; subst hv; exact .fn _ _ _ [] [] .nil .nil
  unfold ndCond at h
  split at h
  ·rename_i hv
   have:=hcr _ hv
   generalize hq:a.eval c=q at this
   cases this
   exact wp_cond hq (hi x s e s' h N σ a w Q R hQ)
  ·rename_i hv
   have:=hcr _ hv
   generalize hq:a.eval c=q at this
   cases this
   exact wp_cond hq (hi y s e s' h N σ a w Q R hQ)
  ·cases h
 case block id x=>
  refine wp_block ?_
  unfold ndBlock at h
  split at h
  ·rename_i j s1 h1
   refine hi x s (.exit j) s1 h1 N σ a w _ R fun σ1 a1 w1 g1 g2 g3 g4=>?_
   show (if j=id then Q .normal a1 w1 else Q (.exit j) a1 w1)
   rw [zff] at h
   by_cases hj:j=id
   ·simp only [hj,decide_true,cond_true,Option.some.injEq,Prod.mk.injEq] at h
    obtain ⟨rfl,rfl⟩:=h
    rw [if_pos hj]
    exact hQ σ1 a1 w1 g1 g2 g3 g4
   ·simp only [hj,decide_false,cond_false,Option.some.injEq,Prod.mk.injEq] at h
    obtain ⟨rfl,rfl⟩:=h
    rw [if_neg hj]
    exact hQ σ1 a1 w1 g1 g2 g3 g4
  ·rename_i hn
   refine hi x s e s' h N σ a w _ R fun σ1 a1 w1 g1 g2 g3 g4=>?_
   have:=hQ σ1 a1 w1 g1 g2 g3 g4
   cases e with
   | normal=>exact this
   | exit id'=>exact (hn id' s' h).elim
   | ret=>exact this
 case loop x=>exact wp_loop_rounds (n+1) (hl x s e s' h0 N σ a w Q R hQ)
 case exit id=>
  cases h
  exact wp_exit (hQ σ a w (Mp.Ext.refl _ _) (Nat.le_refl _) R (Below.refl _ _))
 case ret=>
  cases h
  exact wp_ret (hQ σ a w (Mp.Ext.refl _ _) (Nat.le_refl _) R (Below.refl _ _))
def NameOK (P : Program) : Prop := ∀ (f : Nat) (fn : Func), P.funcs[f]? = some fn → (fn.name == "runtime.NumGoroutine") = false
def zgV (P:Program) (E:Env):Prop:=
 ∀ f g,E.hook f=some g→∀ (N:Nat) al9 h v h',g al9 h=some (v,h')→∀ (σ:Mp) (w:World) (xs:List Value),Rel N σ h w→RepL σ al9 xs →
  match (callFunc f xs.toArray).run P w with
  | .ok (.value x) w'=>Does N σ h w v h' x w'
  | .ok (.enter g ys) w'=>Calls P g ys w' fun e w''=>∃ x,e=.returned x∧Does N σ h w v h' x w''
  | _=>False
def ziD (P:Program) (E:Env):Prop:=
 ∀ f al9,E.idle f al9=true→∀ (N:Nat) (σ:Mp) (h:Hp) (w:World) (xs:List Value),Rel N σ h w→RepL σ al9 xs →
  (callFunc f xs.toArray).run P w=.ok (.enter f xs.toArray) w∧CallsD P f xs.toArray .returning w fun e u' w'=>(∃ v,e=.returned v)∧u'=.returning∧Below w.heap.size w w'
theorem resV_sound (hE:EnvOK P E) {s:St} {σ:Mp} {tmps:Array Value} {w:World} (T:RepX σ s.t s.n tmps none_) (R:Rel N σ s.h w):∀ {rs:List ResultVar} {l:List V},resV E s rs=some l →
  ∃ xs,RepL σ l xs∧(rs.mapM (fun | .tmp t=>pure (tmps.getD t undef) | .cell a t=>do loadVar t (← asAddr (tmps.getD a undef)):ResultVar→Sem Value)).run P w=.ok xs w
 | [],l,h=>by simp only [resV,Option.some.injEq] at h; subst h; exact ⟨[],.nil,rfl⟩
 | .tmp t::r,l,h=>by
  simp only [resV,Option.bind_eq_some_iff,Option.some.injEq] at h
  obtain ⟨l',h1,rfl⟩:=h
  obtain ⟨xs,h2,h3⟩:=resV_sound hE T R h1
  refine ⟨_::xs,.cons _ _ _ _ (T.at_ t (fun h=>h)) h2,?_⟩
  simp only [List.mapM_cons,Sem.run_bind,Sem.run_pure,Result.andThen_ok,h3]
 | .cell a ty::r,l,h=>by
  simp only [resV,Option.bind_eq_some_iff,Option.some.injEq] at h
  obtain ⟨v,hv,l',h1,rfl⟩:=h
  obtain ⟨xs,h2,h3⟩:=resV_sound hE T R h1
  have ha:=T.at_ a (fun h=>h)
  generalize hax:tmps.getD a undef=ax at ha
  generalize (s.t.get a).getD zj=av at ha hv
  unfold ziF at hv
  split at hv
  ·cases ha
   rw [Option.bind_eq_some_iff] at hv
   obtain ⟨vs,h4,h5⟩:=hv
   obtain ⟨x,h6,h7⟩:=loadVar_sound hE (R.at_ ‹_› h4) h5
   refine ⟨x::xs,.cons _ _ _ _ h7 h2,?_⟩
   have e1:(do loadVar ty (← asAddr (tmps.getD a undef)):Sem Value).run P w=.ok x w:=by
    rw [hax,Sem.run_bind]; exact h6
   rw [List.mapM_cons,Sem.run_bind,e1,Result.andThen_ok,Sem.run_bind,h3,Result.andThen_ok]
   rfl
  ·cases ha
   obtain ⟨x,h6,h7⟩:=hE.glob _ _ _ _ hv w (fun p hp=>(R.tab p hp).2)
   refine ⟨x::xs,.cons _ _ _ _ (h7 σ) h2,?_⟩
   have e1:(do loadVar ty (← asAddr (tmps.getD a undef)):Sem Value).run P w=.ok x w:=by
    rw [hax,Sem.run_bind]; exact h6
   rw [List.mapM_cons,Sem.run_bind,e1,Result.andThen_ok,Sem.run_bind,h3,Result.andThen_ok]
   rfl
  ·cases ha
   obtain ⟨x,h6,h7⟩:=hE.arg _ _ _ _ hv w (fun p hp=>(R.tab p hp).2)
   refine ⟨x::xs,.cons _ _ _ _ (h7 σ) h2,?_⟩
   have e1:(do loadVar ty (← asAddr (tmps.getD a undef)):Sem Value).run P w=.ok x w:=by
    rw [hax,Sem.run_bind]; exact h6
   rw [List.mapM_cons,Sem.run_bind,e1,Result.andThen_ok,Sem.run_bind,h3,Result.andThen_ok]
   rfl
  ·cases hv
theorem end_sound (hE:EnvOK P E) {fn:Func} {s:St} {σ:Mp} {v:V} {h':Hp} {tmps:Array Value} {w:World} (T:RepX σ s.t s.n tmps none_) (R:Rel N σ s.h w) (he:endOf E fn s=some (v,h')):h'=s.h∧∃ x,(results fn tmps).run P w=.ok x w∧Rep σ v x:=by
 unfold endOf at he
 rw [Option.bind_eq_some_iff] at he
 obtain ⟨l,hl,he⟩:=he
 obtain ⟨xs,h1,h2⟩:=resV_sound hE T R hl
 have h3:(fn.results.mapM (fun | .tmp t=>pure (tmps.getD t undef) | .cell a t=>do loadVar t (← asAddr (tmps.getD a undef)):ResultVar→Sem Value)).run P w=.ok xs.toArray w:=by
  rw [Array.mapM_eq_mapM_toList,Sem.run_map]
  simp only [h2,Result.andThen_ok]
 have h4:(results fn tmps).run P w=.ok (if h:xs.toArray.size=1 then xs.toArray[0] else .tuple xs.toArray) w:=by
  unfold results
  rw [Sem.run_bind]
  exact congrArg (fun r:Result (Array Value)=>r.andThen fun a w'=>(pure (if h:a.size=1 then a[0] else Value.tuple a):Sem Value).run P w') h3
 split at he
 ·cases he
  cases h1 with
  | cons _ x _ ys hr hy=>
   cases hy
   exact ⟨rfl,x,by rw [h4]; simp,hr⟩
 ·rename_i hn
  cases he
  refine ⟨rfl,.tuple xs.toArray,?_,.tup _ _ h1⟩
  rw [h4]
  have:¬ xs.toArray.size=1:=fun e=>by
   have hlen:=h1.length
   simp at e
   rw [e] at hlen
   match l,hlen with
   | [u],_=>exact hn u rfl
  simp only [this,dif_neg,not_false_iff]
theorem leaves_sound (hE:EnvOK P E) (hI:ziD P E) {fn:Func} {s:St} {σ:Mp} {v:V} {h':Hp} {tmps:Array Value} {R:Ending→World→Prop} (T:RepX σ s.t s.n tmps none_) (he:endOf E fn s=some (v,h')) {ds:List (Nat × List V)} {defers:List Deferred} (hd:RepD σ ds defers):∀ {w:World},zhd E ds=true→Rel N σ s.h w →
  (∀ x w',Rep σ v x→Rel N σ h' w'→Below N w w'→R (.returned x) w')→Leaves P fn tmps R defers .returning w:=by
 induction hd with
 | nil=>
  intro w _ hR hk
  obtain ⟨rfl,x,h1,h2⟩:=end_sound hE T hR he
  exact ⟨x,h1,hk x w h2 hR (Below.refl _ _)⟩
 | cons f al9 d cap l m h1 h2 hl ih=>
  intro w hid hR hk
  rw [zhd] at hid
  cases hi:E.idle f al9 with
  | false=>rw [hi] at hid; cases hid
  | true=>
   rw [hi] at hid
   simp only [cond_true] at hid
   obtain ⟨k1,k2⟩:=hI f al9 hi N σ s.h w _ hR h2
   rw [Array.toArray_toList] at k1 k2
   refine ⟨by simp,.func f,cap,f,d.args++cap,h1,by rw [h1]; exact k1,k2.mono fun e u' w' ⟨⟨x,hx⟩,hu,hb⟩=>?_⟩
   subst hx
   subst hu
   show Leaves P fn tmps R m (settle .returning) w'
   exact ih hid (hR.world hb) fun x w2 g1 g2 g3=>hk x w2 g1 g2 ((hb.mono hR.base).trans g3)
theorem callFn_sound (hE:EnvOK P E) (hI:ziD P E) {ex:Code→St→Option (Ex × St)} (hx:ExecOK P ex) {f:Nat} {fn:Func} {al9:List V} {h h':Hp} {v:V} (hf:P.funcs[f]? = some fn) (hc:callFn E ex al9 h fn=some (v,h')) {σ:Mp} {w:World} {xs:List Value} (R:Rel N σ h w) (hr:RepL σ al9 xs):
  Calls P f xs.toArray w fun e w'=>∃ x,e=.returned x∧Does N σ h w v h' x w':=by
 unfold callFn at hc
 split at hc
 ·cases hc
 ·rename_i c hb
  cases hle:Nat.ble al9.length fn.ntmps with
  | false=>rw [hle] at hc; cases hc
  | true=>
   rw [hle] at hc
   simp only [cond_true] at hc
   have hlen:=Nat.le_of_ble_eq_true hle
   have hxl:=hr.length
   have hT:RepX σ (T.ofL (al9.map some) 0 .leaf) fn.ntmps (xs.toArray++Array.replicate (fn.ntmps - xs.toArray.size) undef) none_:=by
    refine ⟨by simp; omega,fun i _=>?_⟩
    rw [T.get_ofL]
    by_cases hi:i < al9.length
    ·rw [if_pos ⟨Nat.zero_le _,by simpa using hi⟩]
     obtain ⟨x,h1,h2⟩:=hr.get (i:=i) (v:=al9[i]) (by simp)
     have e:(xs.toArray++Array.replicate (fn.ntmps - xs.toArray.size) undef).getD i undef=x:=by
      have hi2:i < xs.length:=by omega
      simp only [Array.getD]
      have:i < (xs.toArray++Array.replicate (fn.ntmps - xs.toArray.size) undef).size:=by simp; omega
      simp only [this,dif_pos]
      obtain ⟨_,h3⟩:=List.getElem?_eq_some_iff.1 h1
      simp [hi2,h3]
     rw [e]
     simpa [hi] using h2
    ·rw [if_neg (by simp; omega),T.get_leaf]
     have e:(xs.toArray++Array.replicate (fn.ntmps - xs.toArray.size) undef).getD i undef=undef:=by
      simp only [Array.getD]
      split
      ·have hi2:¬ i < xs.length:=by omega
       simp [Array.getElem_append,hi2]
      ·rfl
     rw [e]
     exact Rep.undef σ
   refine calls_of_wp_defers hf hb ?_
   cases hex:ex c ⟨T.ofL (al9.map some) 0 .leaf,h,[],fn.ntmps⟩ with
   | none=>rw [hex] at hc; cases hc
   | some p=>
    obtain ⟨e,s'⟩:=p
    rw [hex] at hc
    have hfin:(e=.normal∨e=.ret)∧zhd E s'.d=true∧endOf E fn s'=some (v,h'):=by
     unfold finOf at hc
     split at hc
     ·rename_i s1 h1
      cases h1
      cases hi:zhd E s'.d with
      | false=>rw [hi] at hc; cases hc
      | true=>rw [hi] at hc; exact ⟨.inl rfl,rfl,hc⟩
     ·rename_i s1 h1
      cases h1
      cases hi:zhd E s'.d with
      | false=>rw [hi] at hc; cases hc
      | true=>rw [hi] at hc; exact ⟨.inr rfl,rfl,hc⟩
     ·cases hc
    obtain ⟨he,hidle,hend⟩:=hfin
    refine hx c _ e s' hex N σ _ w _ ⟨hT,R,.nil⟩ fun σ1 a1 w1 g1 g2 g3 g4=>?_
    have hh:h'.n=s'.h.n:=by
     unfold endOf at hend
     rw [Option.bind_eq_some_iff] at hend
     obtain ⟨l,_,hend⟩:=hend
     split at hend <;> cases hend <;> rfl
    have hL:Leaves P fn a1.tmps (fun e w'=>∃ x,e=.returned x∧Does N σ h w v h' x w') a1.defers .returning w1:=
     leaves_sound hE hI g3.t hend g3.d hidle g3.h fun x w' k1 k2 k3=>⟨x,rfl,σ1,g1,by rw [hh]; exact g2,k1,k2,g4.trans k3⟩
    rcases he with rfl | rfl
    ·exact hL
    ·exact hL
theorem call_ok (hE:EnvOK P E) (hI:ziD P E) (hH:zgV P E) (hname:NameOK P) {ex:Code→St→Option (Ex × St)} (hx:ExecOK P ex):CallOK P (zax E ex):=by
 intro N f al9 h v h' hc σ w xs R hr
 unfold zax at hc
 split at hc
 ·rename_i g hg
  exact hH f g hg N al9 h v h' hc σ w xs R hr
 ·split at hc
  ·rename_i fn hf
   have hfn:=hE.fn f fn hf
   have hbody:fn.body.isNone=false:=by
    unfold callFn at hc
    split at hc
    ·cases hc
    ·rename_i c hb; rw [hb]; rfl
   have e:(callFunc f xs.toArray).run P w=.ok (.enter f xs.toArray) w:=by
    unfold callFunc
    simp only [Sem.run_bind,run_program,Result.andThen_ok,hfn,hname f fn hfn,Bool.false_eq_true,if_false,hbody,Sem.run_pure]
   rw [e]
   exact callFn_sound hE hI hx hfn hc R hr
  ·cases hc
theorem exec_ok (hE:EnvOK P E) (hI:ziD P E) (hH:zgV P E) (hname:NameOK P):∀ n,ExecOK P (exec E n)∧LoopOK P (exec E n) n
 | 0=>⟨fun c s e s' h=>(by rw [exec.eq_def] at h; cases h),fun c s e s' h=>(by rw [exec.eq_def] at h; cases h)⟩
 | n+1=>by
  obtain ⟨h1,h2⟩:=exec_ok hE hI hH hname n
  have h3:=loopF_ok (E:=E) h1 h2 rfl
  exact ⟨execF_ok hE h1 (call_ok hE hI hH hname h1) n h3 rfl,h3⟩
end
theorem run_ok {P:Program} {E:Env} (hE:EnvOK P E) (hI:ziD P E) (hH:zgV P E) (hname:NameOK P) (n:Nat):CallOK P (zax E (exec E n)):=call_ok hE hI hH hname (exec_ok hE hI hH hname n).1
theorem runs {P:Program} {E:Env} (hE:EnvOK P E) (hI:ziD P E) (hH:zgV P E) (hname:NameOK P) {f:Nat} {fn:Func} (hf:P.funcs[f]? = some fn) (hb:fn.body.isNone=false) {al:List V} {h h':Hp} {v:V} {n:Nat} (hc:zax E (exec E n) f al h=some (v,h')) {N:Nat} {σ:Mp} {w:World} {xs:List Value} (R:Rel N σ h w) (hr:RepL σ al xs):
  Calls P f xs.toArray w fun e w''=>∃ x,e=.returned x∧Does N σ h w v h' x w'':=by
 have h1:=run_ok hE hI hH hname n N f al h v h' hc σ w xs R hr
 have e:(callFunc f xs.toArray).run P w=.ok (.enter f xs.toArray) w:=by
  unfold callFunc
  simp only [Sem.run_bind,run_program,Result.andThen_ok,hf,hname f fn hf,Bool.false_eq_true,if_false,hb,Sem.run_pure]
 rw [e] at h1
 exact h1
theorem Rel.none (w:World) (ht:∀ p ∈ Sy.tab,p.1 < w.heap.size∧w.heap[p.1]? = some p.2):Rel w.heap.size (fun _=>none) ⟨.leaf,0⟩ w:=⟨fun _ _ _ h=>(by cases h),fun _ _ _ _ _ h=>(by cases h),fun _ _ _ h=>(by cases h),Nat.le_refl _,ht⟩
end Go.Proofs.YtbchdlelmkmagaaGreatDoor.VM
namespace Go.Proofs.YtbchdlelmkmagaaGreatDoor.VM
open Go Go.RowKit
set_option linter.unusedSectionVars false
variable [Sy]
noncomputable section
mutual
def V.ren (r:Nat→Nat):V→V
 | .bool b=>.bool b
 | .int k n=>.int k n
 | .str s=>.str s
 | .nilp=>.nilp
 | .ptr b o=>.ptr (r b) o
 | .nils=>.nils
 | .sl b o l c=>.sl (r b) o l c
 | .slo b o l lo sz=>.slo (r b) o l lo sz
 | .emp=>.emp
 | .nilm=>.nilm
 | .mp b=>.mp (r b)
 | .fn f a c=>.fn f (V.renL r a) (V.renL r c)
 | .nilf=>.nilf
 | .iface t v=>.iface t (V.ren r v)
 | .nili=>.nili
 | .agg l=>.agg (V.renL r l)
 | .tup l=>.tup (V.renL r l)
 | .any=>.any
 | .symI k j=>.symI k j
 | .symS j=>.symS j
 | .gptr g o=>.gptr g o
 | .aptr g o=>.aptr g o
 | .asl g o c=>.asl g o c
def V.renL (r:Nat→Nat):List V→List V
 | []=>[]
 | v::l=>V.ren r v::V.renL r l
end
mutual
theorem Rep.ren {σ τ:Mp} {r q:Nat→Nat} (h:∀ i,τ (q i) = σ (r i)):∀ (v:V) {x:Value},Rep σ (v.ren r) x→Rep τ (v.ren q) x
 | .bool b,_,k=>by rw [V.ren] at k ⊢; cases k; exact .bool b
 | .int a b,_,k=>by rw [V.ren] at k ⊢; cases k; exact .int a b
 | .str s,_,k=>by rw [V.ren] at k ⊢; cases k with | str _ hs=>exact .str _ hs
 | .nilp,_,k=>by rw [V.ren] at k ⊢; cases k; exact .nilp
 | .ptr b o,_,k=>by rw [V.ren] at k ⊢; cases k with | ptr _ _ _ _ e=>exact .ptr _ _ _ _ (by rw [h]; exact e)
 | .nils,_,k=>by rw [V.ren] at k ⊢; cases k; exact .nils
 | .sl b o l c,_,k=>by rw [V.ren] at k ⊢; cases k with | sl _ _ _ _ _ _ e=>exact .sl _ _ _ _ _ _ (by rw [h]; exact e)
 | .slo b o l lo sz,_,k=>by rw [V.ren] at k ⊢; cases k with | slo _ _ _ _ _ _ _ _ e h1 h2 h3=>exact .slo _ _ _ _ _ _ _ _ (by rw [h]; exact e) h1 h2 h3
 | .emp,_,k=>by rw [V.ren] at k ⊢; cases k; exact .emp _ _
 | .nilm,_,k=>by rw [V.ren] at k ⊢; cases k; exact .nilm
 | .mp b,_,k=>by rw [V.ren] at k ⊢; cases k with | mp _ _ _ e=>exact .mp _ _ _ (by rw [h]; exact e)
 | .fn f a c,_,k=>by rw [V.ren] at k ⊢; cases k with | fn _ _ _ _ _ k1 k2=>exact .fn _ _ _ _ _ (RepL.ren h a k1) (RepL.ren h c k2)
 | .nilf,_,k=>by rw [V.ren] at k ⊢; cases k; exact .nilf
 | .iface t v,_,k=>by rw [V.ren] at k ⊢; cases k with | iface _ _ _ k1=>exact .iface _ _ _ (Rep.ren h v k1)
 | .nili,_,k=>by rw [V.ren] at k ⊢; cases k; exact .nili
 | .agg l,_,k=>by rw [V.ren] at k ⊢; cases k with | agg _ _ k1=>exact .agg _ _ (RepL.ren h l k1)
 | .tup l,_,k=>by rw [V.ren] at k ⊢; cases k with | tup _ _ k1=>exact .tup _ _ (RepL.ren h l k1)
 | .any,_,k=>by rw [V.ren] at k ⊢; cases k; exact .any _ ‹_›
 | .symI k j,_,h=>by rw [V.ren] at h ⊢; cases h; exact .symI k j
 | .symS j,_,h=>by rw [V.ren] at h ⊢; cases h with | symS _ hs=>exact .symS j hs
 | .gptr g o,_,h=>by rw [V.ren] at h ⊢; cases h; exact .gptr g o
 | .aptr g o,_,h=>by rw [V.ren] at h ⊢; cases h; exact .aptr g o
 | .asl g o c,_,h=>by rw [V.ren] at h ⊢; cases h; exact .asl g o c
theorem RepL.ren {σ τ:Mp} {r q:Nat→Nat} (h:∀ i,τ (q i) = σ (r i)):∀ (l:List V) {y:List Value},RepL σ (V.renL r l) y→RepL τ (V.renL q l) y
 | [],_,k=>by rw [V.renL] at k ⊢; cases k; exact .nil
 | v::l,_,k=>by rw [V.renL] at k ⊢; cases k with | cons _ _ _ _ k1 k2=>exact .cons _ _ _ _ (Rep.ren h v k1) (RepL.ren h l k2)
end
def renE (r:Nat→Nat):List (V × V × Nat)→List (V × V × Nat)
 | []=>[]
 | (k,v,n)::l=>(k.ren r,v.ren r,n)::renE r l
theorem RepE.ren {σ τ:Mp} {r q:Nat→Nat} (h:∀ i,τ (q i) = σ (r i)):∀ (l:List (V × V × Nat)) {y:List MapEntry},RepE σ (renE r l) y→RepE τ (renE q l) y
 | [],_,k=>by cases k; exact .nil
 | (a,v,n)::l,_,k=>by cases k with | cons _ _ _ _ _ _ _ k1 k2 k3=>exact .cons _ _ _ _ _ _ _ (Rep.ren h a k1) (Rep.ren h v k2) (RepE.ren h l k3)
def Blk.ren (r:Nat→Nat):Blk→Blk
 | .cells vs e ro=>.cells (V.renL r vs) e ro
 | .map es c=>.map (renE r es) c
 | .siter s p=>.siter s p
 | .dead=>.dead
theorem RepB.ren {σ τ:Mp} {r q:Nat→Nat} (h:∀ i,τ (q i) = σ (r i)) {n:Nat} {b:Blk} {o:Obj} (k:RepB σ n (b.ren r) o):RepB τ n (b.ren q) o:=by
 cases b with
 | cells vs e ro=>obtain ⟨xs,ys,fz,h1,h2,h3⟩:=CellsAre.out k; exact ⟨xs,ys,fz,h1,RepL.ren h vs h2,h3⟩
 | map es c=>obtain ⟨ms,h1,h2⟩:=k; exact ⟨ms,h1,RepE.ren h es h2⟩
 | siter s p=>exact k
 | dead=>trivial
def Blk.noRo:Blk→Bool
 | .cells _ _ ro=>!ro
 | _=>true
def Hp.app (h:Hp) (l:List Blk):Hp:=⟨T.ofL (l.map some) h.n h.t,h.n+l.length⟩
theorem Hp.get_app_old (h:Hp) (l:List Blk) {j:Nat} (hj:j < h.n):(h.app l).t.get j=h.t.get j:=by
 unfold Hp.app
 rw [T.get_ofL,if_neg (by omega)]
theorem Hp.get_app_new (h:Hp) (l:List Blk) (i:Nat) {b:Blk} (hi:l[i]? = some b):(h.app l).t.get (h.n+i)=some b:=by
 unfold Hp.app
 have hl:=(List.getElem?_eq_some_iff.1 hi).1
 rw [T.get_ofL,if_pos (by simp; omega),Nat.add_sub_cancel_left,List.getElem?_map,hi]
 rfl
def rn (ρ:List Nat) (K i:Nat):Nat:=ρ.getD i K
theorem relocate {N:Nat} {h h':Hp} {σ σ':Mp} {w w':World} {x:Value} {v0:V} {bs:List Blk} {ρ:List Nat} {K:Nat}
  (R:Rel N σ h w) (R':Rel w.heap.size σ' h' w') (hb:Below w.heap.size w w') (hK:h'.n≤K) (hr:Rep σ' (v0.ren (rn ρ K)) x)
  (hg:∀ (i B:Nat),ρ[i]? = some B→∃ b:Blk,bs[i]? = some b∧h'.t.get B=some (b.ren (rn ρ K)))
  (hro:∀ b ∈ bs,b.noRo=true) (hnd:ρ.Nodup):
  Does N σ h w (v0.ren fun i=>h.n+i) (h.app (bs.map (Blk.ren fun i=>h.n+i))) x w':=by
 have Rw:=R.world hb
 obtain ⟨τ,hτ⟩:∃ τ:Mp,τ = fun B=>if B < h.n then σ B else σ' (rn ρ K (B - h.n)):=⟨_,rfl⟩
 have told:∀ B,B < h.n→τ B = σ B:=fun B hB=>by rw [hτ]; exact if_pos hB
 have tnew:∀ i,τ (h.n+i) = σ' (rn ρ K i):=fun i=>by rw [hτ]; show (if h.n+i < h.n then _ else _)=_; rw [if_neg (by omega),Nat.add_sub_cancel_left]
 have hle:Mp.le σ τ:=fun B p e=>by rw [told B (R.has B p.1 p.2 e).1]; exact e
 have hnew:∀ (i b n:Nat),τ (h.n+i)=some (b,n)→∃ (C:Nat) (b0:Blk),ρ[i]? = some C∧σ' C=some (b,n)∧bs[i]? = some b0∧h'.t.get C=some (b0.ren (rn ρ K))∧(h.app (bs.map (Blk.ren fun i=>h.n+i))).t.get (h.n+i)=some (b0.ren fun i=>h.n+i):=by
  intro i b n e
  rw [tnew] at e
  cases hc:ρ[i]? with
  | none=>
   have e2:rn ρ K i=K:=by unfold rn; rw [List.getD_eq_getElem?_getD,hc]; rfl
   rw [e2] at e
   have:=(R'.has _ _ _ e).1
   omega
  | some C=>
   have e2:rn ρ K i=C:=by unfold rn; rw [List.getD_eq_getElem?_getD,hc]; rfl
   rw [e2] at e
   obtain ⟨b0,h1,h2⟩:=hg i C hc
   exact ⟨C,b0,rfl,e,h1,h2,Hp.get_app_new _ _ _ (by rw [List.getElem?_map,h1]; rfl)⟩
 have hdead:∀ i b n,τ (h.n+i)=some (b,n)→b < w.heap.size→(h.app (bs.map (Blk.ren fun i=>h.n+i))).t.get (h.n+i)=some .dead:=by
  intro i b n e hlt
  obtain ⟨C,b0,h1,h2,h3,h4,h5⟩:=hnew i b n e
  have hn:=hro b0 (List.mem_of_getElem? h3)
  rcases R'.old C b n h2 hlt with ⟨vs,el,h6⟩ | h6
  ·rw [h4] at h6
   cases b0 with
   | cells us e2 ro=>
    simp only [Blk.ren,Option.some.injEq,Blk.cells.injEq] at h6
    rw [h6.2.2] at hn
    cases hn
   | map _ _=>cases h6
   | siter _ _=>cases h6
   | dead=>cases h6
  ·rw [h4] at h6
   rw [h5]
   cases b0 with
   | dead=>rfl
   | cells _ _ _=>cases h6
   | map _ _=>cases h6
   | siter _ _=>cases h6
 have hsplit:∀ B,B < h.n∨∃ i,B=h.n+i:=fun B=>by
  by_cases hB:B < h.n
  ·exact .inl hB
  ·exact .inr ⟨B - h.n,by omega⟩
 refine ⟨τ,⟨hle,fun B hB=>told B hB⟩,Nat.le_add_right _ _,Rep.ren tnew v0 hr,⟨?_,?_,?_,Nat.le_trans R.base hb.size,Rw.tab⟩,hb.mono R.base⟩
 ·intro B b n e
  rcases hsplit B with hB | ⟨i,rfl⟩
  ·rw [told B hB] at e
   obtain ⟨h1,h2,k,h3,h4⟩:=Rw.has B b n e
   exact ⟨Nat.lt_of_lt_of_le hB (Nat.le_add_right _ _),h2,k,by rw [Hp.get_app_old _ _ hB]; exact h3,fun o ho=>(h4 o ho).mono hle⟩
  ·obtain ⟨C,b0,h1,h2,h3,h4,h5⟩:=hnew i b n e
   obtain ⟨k1,k2,k,k3,k4⟩:=R'.has C b n h2
   rw [h4] at k3
   cases k3
   refine ⟨?_,k2,_,h5,fun o ho=>RepB.ren tnew (k4 o ho)⟩
   have:=(List.getElem?_eq_some_iff.1 h3).1
   show h.n+i < h.n+(bs.map _).length
   rw [List.length_map]; omega
 ·intro B C b n m eB eC
  rcases hsplit B with hB | ⟨i,rfl⟩
  ·rcases hsplit C with hC | ⟨j,rfl⟩
   ·rw [told B hB] at eB
    rw [told C hC] at eC
    rw [Hp.get_app_old _ _ hB,Hp.get_app_old _ _ hC]
    exact R.inj B C b n m eB eC
   ·rw [told B hB] at eB
    exact .inr (.inr (hdead j b m eC (R.has B b n eB).2.1))
  ·rcases hsplit C with hC | ⟨j,rfl⟩
   ·rw [told C hC] at eC
    exact .inr (.inl (hdead i b n eB (R.has C b m eC).2.1))
   ·obtain ⟨B',b0,g1,g2,g3,g4,g5⟩:=hnew i b n eB
    obtain ⟨C',c0,k1,k2,k3,k4,k5⟩:=hnew j b m eC
    have dd:∀ {z:Blk},z.ren (rn ρ K)=.dead→z.ren (fun i=>h.n+i)=.dead:=fun {z} hz=>by cases z <;> first | rfl | cases hz
    rcases R'.inj B' C' b n m g2 k2 with e | e | e
    ·subst e
     left
     rw [(List.getElem?_inj (List.getElem?_eq_some_iff.1 g1).1 hnd).1 (g1.trans k1.symm)]
    ·rw [g4] at e
     exact .inr (.inl (by rw [g5,dd (Option.some.inj e)]))
    ·rw [k4] at e
     exact .inr (.inr (by rw [k5,dd (Option.some.inj e)]))
 ·intro B b n e hlt
  rcases hsplit B with hB | ⟨i,rfl⟩
  ·rw [told B hB] at e
   rw [Hp.get_app_old _ _ hB]
   exact R.old B b n e hlt
  ·exact .inr (hdead i b n e (Nat.lt_of_lt_of_le hlt R.base))
def allStr:List V→Bool
 | []=>true
 | .str _::l=>allStr l
 | .symS _::l=>allStr l
 | .symI _ _::l=>allStr l
 | .int _ _::l=>allStr l
 | .bool _::l=>allStr l
 | _=>false
theorem RepL.closed {σ τ:Mp}:∀ {l:List V} {y:List Value},allStr l=true→RepL σ l y→RepL τ l y
 | [],_,_,.nil=>.nil
 | .str s::l,_,h,.cons _ _ _ _ (.str _ hs) k=>.cons _ _ _ _ (.str _ hs) (RepL.closed (l:=l) h k)
 | .symS s::l,_,h,.cons _ _ _ _ (.symS _ hs) k=>.cons _ _ _ _ (.symS _ hs) (RepL.closed (l:=l) h k)
 | .symI _ _::l,_,h,.cons _ _ _ _ (.symI _ _) k=>.cons _ _ _ _ (.symI _ _) (RepL.closed (l:=l) h k)
 | .int _ _::l,_,h,.cons _ _ _ _ (.int _ _) k=>.cons _ _ _ _ (.int _ _) (RepL.closed (l:=l) h k)
 | .bool _::l,_,h,.cons _ _ _ _ (.bool _) k=>.cons _ _ _ _ (.bool _) (RepL.closed (l:=l) h k)
def look (ρ:List Nat) (K:Nat):Option (V × Hp)→Option (V × List Blk)
 | some (v,h)=>bif Nat.ble h.n K then (ρ.mapM fun B=>h.t.get B).bind fun l=>some (v,l) else none
 | none=>none
theorem mapM_at {α β:Type} {f:α→Option β}:∀ {l:List α} {m:List β},l.mapM f=some m→l.length=m.length∧∀ (i:Nat) (a:α),l[i]? = some a→∃ b:β,m[i]? = some b∧f a=some b
 | [],m,h=>by simp at h; subst h; exact ⟨rfl,fun i a ha=>by simp at ha⟩
 | a::l,m,h=>by
  simp only [List.mapM_cons,Option.bind_eq_bind,Option.bind_eq_some_iff,Option.pure_def,Option.some.injEq] at h
  obtain ⟨b,hb,m',hm,rfl⟩:=h
  obtain ⟨h1,h2⟩:=mapM_at hm
  refine ⟨by simp [h1],fun i c hc=>?_⟩
  cases i with
  | zero=>simp at hc; subst hc; exact ⟨b,by simp,hb⟩
  | succ i=>simp at hc; obtain ⟨d,h3,h4⟩:=h2 i c hc; exact ⟨d,by simpa using h3,h4⟩
theorem memo_ok {P:Program} {E:Env} (hE:EnvOK P E) (hI:ziD P E) (hH:zgV P E) (hname:NameOK P) {f n K:Nat} {ρ:List Nat} {al:List V} {v0:V} {bs:List Blk}
  (hrun:look ρ K (zax E (exec E n) f al ⟨.leaf,0⟩)=some (v0.ren (rn ρ K),bs.map (Blk.ren (rn ρ K)))) (hal:allStr al=true) (hro:bs.all Blk.noRo=true) (hnd:ρ.Nodup)
  {N:Nat} {σ:Mp} {h:Hp} {w:World} {xs:List Value} (R:Rel N σ h w) (hr:RepL σ al xs):
  match (callFunc f xs.toArray).run P w with
  | .ok (.value x) w'=>Does N σ h w (v0.ren fun i=>h.n+i) (h.app (bs.map (Blk.ren fun i=>h.n+i))) x w'
  | .ok (.enter g ys) w'=>Calls P g ys w' fun e w''=>∃ x,e=.returned x∧Does N σ h w (v0.ren fun i=>h.n+i) (h.app (bs.map (Blk.ren fun i=>h.n+i))) x w''
  | _=>False:=by
 unfold look at hrun
 split at hrun
 ·rename_i v h' hc
  cases hk:Nat.ble h'.n K with
  | false=>rw [hk] at hrun; cases hrun
  | true=>
   rw [hk] at hrun
   simp only [cond_true,Option.bind_eq_some_iff,Option.some.injEq,Prod.mk.injEq] at hrun
   obtain ⟨l,hm,e1,e2⟩:=hrun
   have m2:=(mapM_at hm).2
   have key:∀ x w',Does w.heap.size (fun _=>none) ⟨.leaf,0⟩ w v h' x w'→Does N σ h w (v0.ren fun i=>h.n+i) (h.app (bs.map (Blk.ren fun i=>h.n+i))) x w':=by
    rintro x w' ⟨σ',_,_,g1,g2,g3⟩
    subst e1
    refine relocate R g2 g3 (Nat.le_of_ble_eq_true hk) g1 (fun i B hi=>?_) (List.all_eq_true.1 hro) hnd
    obtain ⟨b,h3,h4⟩:=m2 i B hi
    rw [e2,List.getElem?_map,Option.map_eq_some_iff] at h3
    obtain ⟨b0,h5,rfl⟩:=h3
    exact ⟨b0,h5,h4⟩
   have h1:=run_ok hE hI hH hname n w.heap.size f al _ _ _ hc (fun _=>none) w xs (Rel.none w fun p hp=>⟨Nat.lt_of_lt_of_le (R.tab p hp).1 R.base,(R.tab p hp).2⟩) (RepL.closed hal hr)
   generalize (callFunc f xs.toArray).run P w=r at h1 ⊢
   match r,h1 with
   | .ok (.value x) w',h1=>exact key x w' h1
   | .ok (.enter g ys) w',h1=>exact Calls.mono h1 fun e w'' ⟨x,hx,hd⟩=>⟨x,hx,key x w'' hd⟩
 ·cases hrun
end
end Go.Proofs.YtbchdlelmkmagaaGreatDoor.VM
namespace Go.Proofs.YtbchdlelmkmagaaGreatDoor.VM
open Go Go.RowKit
set_option linter.unusedSectionVars false
variable [Sy]
noncomputable section
structure Memo where
 al:List V
 v:V
 bs:List Blk
def ziy (P:Program) (f:Nat) (m:Memo):Prop:=
 ∀ (N:Nat) (σ:Mp) (h:Hp) (w:World) (xs:List Value),Rel N σ h w→RepL σ m.al xs →
  match (callFunc f xs.toArray).run P w with
  | .ok (.value x) w'=>Does N σ h w (m.v.ren fun i=>h.n+i) (h.app (m.bs.map (Blk.ren fun i=>h.n+i))) x w'
  | .ok (.enter g ys) w'=>Calls P g ys w' fun e w''=>∃ x,e=.returned x∧Does N σ h w (m.v.ren fun i=>h.n+i) (h.app (m.bs.map (Blk.ren fun i=>h.n+i))) x w''
  | _=>False
theorem zi9 {P:Program} {E:Env} (hE:EnvOK P E) (hI:ziD P E) (hH:zgV P E) (hname:NameOK P) {f n K:Nat} {ρ:List Nat} {m:Memo}
  (hrun:look ρ K (zax E (exec E n) f m.al ⟨.leaf,0⟩)=some (m.v.ren (rn ρ K),m.bs.map (Blk.ren (rn ρ K)))) (hal:allStr m.al=true) (hro:m.bs.all Blk.noRo=true) (hnd:ρ.Nodup):ziy P f m:=
 fun _ _ _ _ _ R hr=>memo_ok hE hI hH hname hrun hal hro hnd R hr
def eqN:List Nat→List Nat→Bool
 | [],[]=>true
 | a::l,b::m=>bif Nat.beq a b then eqN l m else false
 | _,_=>false
theorem eqN_eq:∀ {l m:List Nat},eqN l m=true→l=m
 | [],[],_=>rfl
 | a::l,b::m,h=>by
  rw [eqN] at h
  cases hb:Nat.beq a b with
  | false=>rw [hb] at h; cases h
  | true=>rw [hb] at h; rw [Nat.eq_of_beq_eq_true hb,eqN_eq (l:=l) (m:=m) h]
 | [],_::_,h=>by cases h
 | _::_,[],h=>by cases h
def eqS:List V→List V→Bool
 | [],[]=>true
 | .str s::l,.str t::m=>bif eqN s t then eqS l m else false
 | .symS s::l,.symS t::m=>bif Nat.beq s t then eqS l m else false
 | .symI k s::l,.symI j t::m=>bif keq k j && Nat.beq s t then eqS l m else false
 | .int k s::l,.int j t::m=>bif keq k j && ieq s t then eqS l m else false
 | .bool s::l,.bool t::m=>bif s == t then eqS l m else false
 | _,_=>false
theorem eqS_eq:∀ {l m:List V},eqS l m=true→l=m:=by
 intro l m h
 fun_induction eqS l m with
 | case1=>rfl
 | case2 s l t m hb ih=>rw [eqN_eq hb,ih h]
 | case3=>cases h
 | case4 s l t m hb ih=>rw [Nat.eq_of_beq_eq_true hb,ih h]
 | case5=>cases h
 | case6 k s l j t m hb ih=>
  rw [Bool.and_eq_true] at hb
  rw [zhr hb.1,Nat.eq_of_beq_eq_true hb.2,ih h]
 | case7=>cases h
 | case8 k s l j t m hb ih=>
  rw [Bool.and_eq_true] at hb
  rw [zhr hb.1,(ieq_iff _ _).1 hb.2,ih h]
 | case9=>cases h
 | case10 s l t m hb ih=>rw [beq_iff_eq.1 hb,ih h]
 | case11=>cases h
 | case12=>cases h
def memoH:List Memo→List V→Hp→Option (V × Hp)
 | [],_,_=>none
 | m::r,al,h=>bif eqS m.al al then some (m.v.ren fun i=>h.n+i,h.app (m.bs.map (Blk.ren fun i=>h.n+i))) else memoH r al h
theorem memoH_sound {P:Program} {f:Nat}:∀ {ms:List Memo},(∀ m ∈ ms,ziy P f m)→∀ (N:Nat) (al:List V) (h:Hp) (v:V) (h':Hp),memoH ms al h=some (v,h')→∀ (σ:Mp) (w:World) (xs:List Value),Rel N σ h w→RepL σ al xs →
  match (callFunc f xs.toArray).run P w with
  | .ok (.value x) w'=>Does N σ h w v h' x w'
  | .ok (.enter g ys) w'=>Calls P g ys w' fun e w''=>∃ x,e=.returned x∧Does N σ h w v h' x w''
  | _=>False
 | [],_,_,_,_,_,_,hc,_,_,_,_,_=>by cases hc
 | m::r,hm,N,al,h,v,h',hc,σ,w,xs,R,hr=>by
  rw [memoH] at hc
  cases hb:eqS m.al al with
  | false=>rw [hb] at hc; exact memoH_sound (fun m' hm'=>hm m' (List.mem_cons_of_mem _ hm')) N al h v h' hc σ w xs R hr
  | true=>
   rw [hb] at hc
   cases hc
   rw [← eqS_eq hb] at hr
   exact hm m List.mem_cons_self N σ h w xs R hr
end
end Go.Proofs.YtbchdlelmkmagaaGreatDoor.VM
namespace Go.Proofs.YtbchdlelmkmagaaGreatDoor.VM
open Go
open Go.RowKit
set_option linter.unusedSectionVars false
variable [Sy]
def idxB:List Nat→Nat→Nat→Int
 | [],_,_=>-1
 | b::r,c,i=>bif Nat.beq b c then (.ofNat i:Int) else idxB r c (i+1)
def idxH (xs:List V) (h:Hp):Option (V × Hp):=match xs with | [.str s,.int .u8 (.ofNat c)]=>bif Nat.blt c 256 then some (zf0 .i64 (idxB s c 0),h) else none | _=>none
def hooks:Nat→Option (List V→Hp→Option (V × Hp)):=fun f=>bif Nat.beq f 300 then some idxH else none
def twoP:List V→Bool
 | [.ptr _ _,.ptr _ _]=>true
 | _=>false
def idles (f:Nat) (al:List V):Bool:=bif Nat.beq f 77 then twoP al else false
noncomputable def E:Env:=Env.of Tryz.prog hooks idles
theorem ofL_range {α:Type} (g:Nat→Option α) (n i:Nat) (x:α) (h:(T.ofL ((List.range n).map g) 0 .leaf).get i=some x):g i=some x:=by
 rw [T.get_ofL,T.get_leaf] at h
 split at h
 ·rename_i hi
  simp at hi
  simpa [hi] using h
 ·cases h
theorem ofL_all {α:Type} (l:Array α) (i:Nat) (x:α) (h:(T.ofL (l.toList.map some) 0 .leaf).get i=some x):l[i]? = some x:=by
 rw [T.get_ofL,T.get_leaf] at h
 split at h
 ·rename_i hi
  simp at hi
  simpa [hi] using h
 ·cases h
theorem envOK_of (P:Program) (hook:Nat→Option (List V→Hp→Option (V × Hp))) (idle:Nat→List V→Bool) (hm:P.follows .mixedOrders=true):EnvOK P (Env.of P hook idle):=
 ⟨fun t i h=>ofL_range (tiOf P) _ t i h,fun f fn h=>ofL_all P.funcs f fn h,hm,⟨fun _ _ _ _ h=>(by cases h),fun _ _ _ h=>(by cases h),fun _ _ _ _ h=>(by cases h),fun _ _ h=>(by cases h),fun _ _ _ _ h=>(by cases h),fun _ _ h=>(by cases h),fun _ _ h=>(by cases h),fun _ _ _ h=>(by cases h),fun _ _ _ h=>(by cases h)⟩,fun _ _ _ _ h=>(by cases h),fun _ _ _ _ h=>(by cases h)⟩
theorem envOK:EnvOK Tryz.prog E:=envOK_of _ _ _ (by kernel_rfl)
theorem names_tell : (Tryz.prog.funcs.toList.all fun fn => !(fn.name == "runtime.NumGoroutine")) = true := by kernel_rfl
theorem nameOK:NameOK Tryz.prog:=by
 intro f fn hf
 have h:=List.all_eq_true.1 names_tell fn (by rw [Array.mem_toList_iff]; exact Array.mem_of_getElem? hf)
 simpa using h
theorem idxB_eq:∀ (s:List Nat) (c i:Nat),(∀ b ∈ s,b < 256)→c < 256→idxB s c i=if Lib.indexByte (s.map Nat.toUInt8) c.toUInt8 = -1 then -1 else Lib.indexByte (s.map Nat.toUInt8) c.toUInt8+i
 | [],c,i,_,_=>by simp [idxB,Lib.indexByte]
 | b::r,c,i,hs,hc=>by
  have ih:=idxB_eq r c (i+1) (fun x hx=>hs x (by simp [hx])) hc
  have hb:=hs b (by simp)
  have hge:=Lib.indexByte_ge (r.map Nat.toUInt8) c.toUInt8
  have e:(b.toUInt8 == c.toUInt8)=Nat.beq b c:=by
   rw [Bool.eq_iff_iff,beq_iff_eq,Nat.beq_eq]
   constructor
   ·intro h
    have:=congrArg UInt8.toNat h
    simp at this
    omega
   ·rintro rfl; rfl
  rw [idxB,ih,List.map_cons,Lib.indexByte,e]
  cases Nat.beq b c with
  | true=>simp
  | false=>
   simp only [cond_false,Bool.false_eq_true,if_false]
   generalize Lib.indexByte (r.map Nat.toUInt8) c.toUInt8=q at *
   by_cases hq:q = -1
   ·subst hq; simp
   ·have h2:¬ q+1 = -1:=by omega
    simp [hq,h2]
    omega
theorem hooksOK:zgV Tryz.prog E:=by
 intro f g hg N al h v h' hc σ w xs R hr
 have hg':(bif Nat.beq f 300 then some idxH else none)=some g:=hg
 cases hf:Nat.beq f 300 with
 | false=>rw [hf] at hg'; cases hg'
 | true=>
  have:=Nat.eq_of_beq_eq_true hf
  subst this
  rw [hf] at hg'
  cases hg'
  unfold idxH at hc
  split at hc
  ·rename_i s c
   cases hb:Nat.blt c 256 with
   | false=>rw [hb] at hc; cases hc
   | true=>
    rw [hb] at hc
    cases hc
    have hc2:c < 256:=by simpa [Nat.blt_eq] using hb
    cases hr with
    | cons _ x _ y r1 r2=>
     cases r2 with
     | cons _ x2 _ y2 r3 r4=>
      cases r4
      cases r1 with
      | str _ hs=>
       cases r3
       rw [run_callFunc_extern Tryz.func300 (by kernel_rfl) (by kernel_rfl) (by kernel_rfl) (e:=Extern.BytealgIndexByte.indexByte) (by kernel_rfl),Lib.run_indexByteString]
       refine Does.stay ?_ R (Below.refl _ _) (Nat.le_refl _)
       rw [zbn]
       have e:idxB s c 0=Lib.indexByte (zR s).data.toList (Int.ofNat c).toNat.toUInt8:=by
        rw [idxB_eq s c 0 hs hc2]
        show _=Lib.indexByte (s.map Nat.toUInt8) c.toUInt8
        split
        ·rename_i h; rw [h]
        ·simp
       rw [e]
       exact Rep.int _ _
  ·cases hc
theorem catch_idle (p q:Addr) (w:World):
  CallsD Tryz.prog 77 #[.pointer (some p),.pointer (some q)] .returning w fun e u' w'=>e=.returned (.tuple #[])∧u'=.returning∧w'=w:=by
 refine callsD_of_wpS Tryz.func77 rfl fun c₀ cs hu=>?_
 apply wpS_seq
 apply wpS_region
 simp [wpOpsS,go_sem,recoverD,hu,Tryz.ntmps77,Exit.thenS]
 apply wpS_seq
 apply wpS_region
 simp [wpOpsS,go_sem,Exit.thenS]
 refine wpS_cond (t:=false) (by simp [Act.eval,Array.replicate]) ?_
 simp only [Bool.false_eq_true,if_false]
 refine wpS_of_wp (wp_skip ?_)
 cases c₀
 simp_all [bodyPostS,results,Tryz.results77]
theorem idleOK:ziD Tryz.prog E:=by
 intro f al hi N σ h w xs R hr
 have hi':(bif Nat.beq f 77 then twoP al else false)=true:=hi
 cases hf:Nat.beq f 77 with
 | false=>rw [hf] at hi'; cases hi'
 | true=>
  have:=Nat.eq_of_beq_eq_true hf
  subst this
  rw [hf] at hi'
  simp only [cond_true] at hi'
  unfold twoP at hi'
  split at hi'
  ·cases hr with
   | cons _ x _ y r1 r2=>
    cases r2 with
    | cons _ x2 _ y2 r3 r4=>
     cases r4
     cases r1
     cases r3
     refine ⟨?_,(catch_idle _ _ _).mono fun e u' w' ⟨h1,h2,h3⟩=>⟨⟨_,h1⟩,h2,by rw [h3]; exact Below.refl _ _⟩⟩
     unfold callFunc
     simp only [Sem.run_bind,run_program,Result.andThen_ok,Tryz.func77,nameOK _ _ Tryz.func77,Bool.false_eq_true,if_false]
     rfl
  ·cases hi'
end Go.Proofs.YtbchdlelmkmagaaGreatDoor.VM
namespace Go.Proofs.YtbchdlelmkmagaaGreatDoor.VM
open Go Go.RowKit
def memG:List (Nat × TypeId)→Nat→TypeId→Bool
 | [],_,_=>false
 | p::r,g,t=>Nat.beq p.1 g && Nat.beq p.2 t || memG r g t
theorem memG_in:∀ {gl:List (Nat × TypeId)} {g:Nat} {t:TypeId},memG gl g t=true→(g,t) ∈ gl
 | [],_,_,h=>by cases h
 | p::r,g,t,h=>by
  simp only [memG,Bool.or_eq_true,Bool.and_eq_true,Nat.beq_eq] at h
  rcases h with ⟨h1,h2⟩ | h
  ·obtain ⟨a,b⟩:=p
   subst h1; subst h2
   exact List.mem_cons_self ..
  ·exact List.mem_cons_of_mem _ (memG_in h)
def zi7 (P:Program) (tab:List (Nat × Obj)) (gl:List (Nat × TypeId)):Prop:=
 ∀ p ∈ gl,∀ w:World,(∀ q ∈ tab,w.heap[q.1]? = some q.2)→∃ x,(loadVar p.2 ⟨p.1,0,none⟩).run P w=.ok x w∧x.oneCell'=true
end Go.Proofs.YtbchdlelmkmagaaGreatDoor.VM
namespace Go.Proofs.YtbchdlelmkmagaaGreatDoor
namespace VM
open Go Go.RowKit
set_option linter.unusedVariables false
set_option linter.unusedSectionVars false
set_option maxRecDepth 20000
noncomputable section
abbrev Hook:=List V→Hp→Option (V × Hp)
def hooksOf:List (Nat × Hook)→Nat→Option Hook
 | [],_=>none
 | p::r,f=>bif Nat.beq f p.1 then some p.2 else hooksOf r f
section
variable [Sy]
def zkC (f:Nat) (g:Hook):Prop:=
 ∀ (N:Nat) (al:List V) (h:Hp) (v:V) (h':Hp),g al h=some (v,h')→∀ (σ:Mp) (w:World) (xs:List Value),Rel N σ h w→RepL σ al xs →
  match (callFunc f xs.toArray).run Tryz.prog w with
  | .ok (.value x) w'=>Does N σ h w v h' x w'
  | .ok (.enter g ys) w'=>Calls Tryz.prog g ys w' fun e w''=>∃ x,e=.returned x∧Does N σ h w v h' x w''
  | _=>False
theorem hooksOf_ok:∀ {l:List (Nat × Hook)},(∀ p ∈ l,zkC p.1 p.2)→∀ {f:Nat} {g:Hook},hooksOf l f=some g→zkC f g
 | [],_,_,_,h=>by cases h
 | p::r,hl,f,g,h=>by
  rw [hooksOf] at h
  cases hb:Nat.beq f p.1 with
  | true=>
   rw [hb] at h
   cases h
   rw [Nat.eq_of_beq_eq_true hb]
   exact hl p (List.mem_cons_self ..)
  | false=>
   rw [hb] at h
   exact hooksOf_ok (fun q hq=>hl q (List.mem_cons_of_mem _ hq)) h
theorem enter_of {f:Nat} {fn:Func} (hf:Tryz.prog.funcs[f]? = some fn) (hb:fn.body.isNone=false) (args:Array Value) (w:World):(callFunc f args).run Tryz.prog w=.ok (.enter f args) w:=by
 unfold callFunc
 simp only [Sem.run_bind,run_program,Result.andThen_ok,hf,nameOK f fn hf,Bool.false_eq_true,if_false,hb,Sem.run_pure]
theorem envOK_so (P:Program) (hook:Nat→Option (List V→Hp→Option (V × Hp))) (idle:Nat→List V→Bool) (so:SOp→List V→Option V) (hm:P.follows .mixedOrders=true) (hs:SopOK (Env.of P hook idle so)) (ha:∀ j off t v,so (.arg j off t) []=some v→∀ w:World,(∀ p ∈ Sy.tab,w.heap[p.1]? = some p.2)→∃ x,(loadVar t ⟨(Sy.pl j).1,(Sy.pl j).2+off,none⟩).run P w=.ok x w∧∀ σ,Rep σ v x) (hg:∀ g off t v,so (.glob g off t) []=some v→∀ w:World,(∀ p ∈ Sy.tab,w.heap[p.1]? = some p.2)→∃ x,(loadVar t ⟨g,off,none⟩).run P w=.ok x w∧∀ σ,Rep σ v x):EnvOK P (Env.of P hook idle so):=
 ⟨fun t i h=>ofL_range (tiOf P) _ t i h,fun f fn h=>ofL_all P.funcs f fn h,hm,hs,ha,hg⟩
theorem hook_of {f:Nat} {fn:Func} (hf:Tryz.prog.funcs[f]? = some fn) (hb:fn.body.isNone=false) {N:Nat} {σ:Mp} {h:Hp} {w:World} {xs:List Value} {v:V} {X:Value} (R:Rel N σ h w) (hr:Rep σ v X)
  (hc:Calls Tryz.prog f xs.toArray w fun e w'=>e=.returned X∧Below w.heap.size w w'):
  match (callFunc f xs.toArray).run Tryz.prog w with
  | .ok (.value x) w'=>Does N σ h w v h x w'
  | .ok (.enter g ys) w'=>Calls Tryz.prog g ys w' fun e w''=>∃ x,e=.returned x∧Does N σ h w v h x w''
  | _=>False:=by
 rw [enter_of hf hb]
 refine hc.mono ?_
 rintro e w' ⟨rfl,hb⟩
 exact ⟨X,rfl,Does.stay hr (R.world hb) (hb.mono R.base) (Nat.le_refl _)⟩
theorem memos_ok {f:Nat} {ms:List Memo} (h:∀ m ∈ ms,ziy Tryz.prog f m):zkC f (memoH ms):=fun N al h' v h2 hc σ w xs R hr=>memoH_sound h N al h' v h2 hc σ w xs R hr
theorem idxH_ok:zkC 300 idxH:=fun N al h v h' hc=>@hooksOK _ 300 idxH rfl N al h v h' hc
end
def cntB:List Nat→Nat→Nat
 | [],_=>0
 | b::r,c=>bif Nat.beq b c then Nat.succ (cntB r c) else cntB r c
def cntH (xs:List V) (h:Hp):Option (V × Hp):=match xs with | [.str s,.int .u8 (.ofNat c)]=>bif Nat.blt c 256 then some (zf0 .i64 (.ofNat (cntB s c)),h) else none | _=>none
theorem cntB_eq:∀ (s:List Nat) (c:Nat),(∀ b ∈ s,b < 256)→c < 256→cntB s c=Lib.countByte (s.map Nat.toUInt8) c.toUInt8
 | [],c,_,_=>rfl
 | b::r,c,hs,hc=>by
  have ih:=cntB_eq r c (fun x hx=>hs x (by simp [hx])) hc
  have hb:=hs b (by simp)
  unfold Lib.countByte at ih ⊢
  have e:(b.toUInt8 == c.toUInt8)=Nat.beq b c:=by
   rw [Bool.eq_iff_iff,beq_iff_eq,Nat.beq_eq]
   constructor
   ·intro h
    have:=congrArg UInt8.toNat h
    simp at this
    omega
   ·rintro rfl; rfl
  rw [cntB,ih,List.map_cons,List.count_cons,e]
  cases Nat.beq b c <;> simp
section
variable [Sy]
theorem cntH_ok:zkC 293 cntH:=by
 intro N al h v h' hc σ w xs R hr
 unfold cntH at hc
 split at hc
 ·rename_i s c
  cases hb:Nat.blt c 256 with
  | false=>rw [hb] at hc; cases hc
  | true=>
   rw [hb] at hc
   cases hc
   have hc2:c < 256:=by simpa [Nat.blt_eq] using hb
   cases hr with | cons _ x _ y r1 r2=>
   cases r2 with | cons _ x2 _ y2 r3 r4=>
   cases r4
   cases r1 with | str _ hs=>
   cases r3
   rw [run_callFunc_extern Tryz.func293 (by kernel_rfl) (by kernel_rfl) (by kernel_rfl) (e:=Extern.BytealgCount.count) (by kernel_rfl),Lib.run_countString]
   refine Does.stay ?_ R (Below.refl _ _) (Nat.le_refl _)
   rw [zbn]
   have e:cntB s c=Lib.countByte (zR s).data.toList (Int.ofNat c).toNat.toUInt8:=by
    rw [cntB_eq s c hs hc2]
    show _=Lib.countByte (s.map Nat.toUInt8) c.toUInt8
    rfl
   rw [e]
   exact Rep.int _ _
 ·cases hc
end
def zlg:List (Nat × TypeId):=[(0,116)]
def soG (gl:List (Nat × TypeId)) (o:SOp) (al:List V):Option V:=
 match o with
 | .glob g off t=>bif Nat.beq off 0 && memG gl g t then some .any else none
 | _=>none
end
end VM
end Go.Proofs.YtbchdlelmkmagaaGreatDoor
namespace Go.Proofs.YtbchdlelmkmagaaGreatDoor
namespace VM
open Go Go.RowKit
set_option linter.unusedVariables false
set_option linter.unusedSectionVars false
set_option maxRecDepth 20000
noncomputable section
def hkB:List (Nat × Hook):=[(300,idxH),(293,cntH)]
def Ed:Env:=Env.of Tryz.prog (hooksOf hkB) idles (soG zlg)
section
variable [Sy]
theorem idleD:ziD Tryz.prog Ed:=@idleOK _
theorem hkB_ok:∀ p ∈ hkB,zkC p.1 p.2:=fun p hp=>by
 simp only [hkB,List.mem_cons,List.not_mem_nil,or_false] at hp
 rcases hp with rfl | rfl
 ·exact idxH_ok
 ·exact cntH_ok
theorem hooksD:zgV Tryz.prog Ed:=by
 intro f g hg
 exact hooksOf_ok (l:=hkB) hkB_ok hg
theorem soG_ok (hg:zi7 Tryz.prog Sy.tab zlg) (hook:Nat→Option (List V→Hp→Option (V × Hp))) (idle:Nat→List V→Bool):EnvOK Tryz.prog (Env.of Tryz.prog hook idle (soG zlg)):=by
 refine envOK_so _ _ _ _ (by kernel_rfl) ⟨fun _ _ _ _ h=>(by cases h),fun _ _ _ h=>(by cases h),fun _ _ _ _ h=>(by cases h),fun _ _ h=>(by cases h),fun _ _ _ _ h=>(by cases h),fun _ _ h=>(by cases h),fun _ _ h=>(by cases h),fun _ _ _ h=>(by cases h),fun _ _ _ h=>(by cases h)⟩ (fun _ _ _ _ h=>(by cases h)) ?_
 intro g off t v h w hw
 simp only [soG] at h
 cases hq:(Nat.beq off 0 && memG zlg g t) with
 | false=>rw [hq] at h; cases h
 | true=>
  rw [hq] at h
  cases h
  simp only [Bool.and_eq_true,Nat.beq_eq] at hq
  obtain ⟨rfl,h2⟩:=hq
  obtain ⟨x,h3,h4⟩:=hg _ (memG_in h2) w hw
  exact ⟨x,h3,fun σ=>.any x h4⟩
theorem envD (hg:zi7 Tryz.prog Sy.tab zlg):EnvOK Tryz.prog Ed:=soG_ok hg _ _
end
end
end VM
end Go.Proofs.YtbchdlelmkmagaaGreatDoor
namespace Go.Proofs.YtbchdlelmkmagaaGreatDoor.VM
open Go
noncomputable section
def zfE.le (f g:zfE):Prop:=∀ a b c r,f a b c=some r→g a b c=some r
section
variable {E:Env} {f g:zfE}
theorem onNx_mono (hle:zfE.le f g) {s:St} {dst:Option Tmp} {r:R} {x:St} (h:onNx f s dst r=some x):onNx g s dst r=some x:=by
 unfold onNx at h ⊢
 split at h <;> first | exact h | skip
 rw [Option.bind_eq_some_iff] at h ⊢
 obtain ⟨p,h1,h2⟩:=h
 exact ⟨p,hle _ _ _ _ h1,h2⟩
theorem eStep_mono (hle:zfE.le f g) {ops:List Oper} {o:Oper} {s x:St} (h:ziH E f ops o s=some x):ziH E g ops o s=some x:=by
 unfold ziH at h ⊢
 rw [Option.bind_eq_some_iff] at h ⊢
 obtain ⟨w,h1,h2⟩:=h
 refine ⟨w,h1,?_⟩
 cases w with
 | true=>exact onNx_mono hle h2
 | false=>exact h2
theorem opStep_mono (hle:zfE.le f g) {ops:List Oper} {o:Oper} {s x:St} (h:zel E f ops o s=some x):zel E g ops o s=some x:=by
 unfold zel at h ⊢
 cases hE:isE o.op with
 | true=>rw [hE] at h; exact eStep_mono hle h
 | false=>rw [hE] at h; exact h
theorem zlm (hle:zfE.le f g) {ops:List Oper}:∀ {l:List Oper} {s x:St},ziz E f ops l s=some x→ziz E g ops l s=some x
 | [],_,_,h=>h
 | o::l,s,x,h=>by
  rw [ziz] at h ⊢
  cases h1:zel E f ops o s with
  | none=>rw [h1] at h; cases h
  | some s'=>rw [h1] at h; rw [opStep_mono hle h1]; exact zlm hle h
theorem zgw (hle:zfE.le f g) {ops:List Oper}:∀ {l:List PStep} {pd:List (Nat × Oper × PR)} {s x:St},zbN E f ops l pd s=some x→zbN E g ops l pd s=some x
 | [],_,_,_,h=>h
 | .n i o::l,pd,s,x,h=>by
  rw [zbN] at h ⊢
  cases h1:zjK E ops o s with
  | none=>rw [h1] at h; cases h
  | some p=>
   rw [h1] at h
   simp only at h ⊢
   cases h2:s.take o.dst p with
   | none=>rw [h2] at h; cases h
   | some s'=>
    rw [h2] at h
    simp only at h ⊢
    cases h3:stillAll E s' pd p with
    | false=>rw [h3] at h; cases h
    | true=>rw [h3] at h; exact zgw hle h
 | .e i o m::l,pd,s,x,h=>by
  rw [zbN] at h ⊢
  cases h1:ziH E f ops o s with
  | none=>rw [h1] at h; cases h
  | some s'=>
   rw [h1] at h
   rw [eStep_mono hle h1]
   simp only at h ⊢
   cases h3:(pd.filter fun p=>!Nat.testBit m p.1).all (still E s') with
   | false=>rw [h3] at h; cases h
   | true=>rw [h3] at h; exact zgw hle h
theorem regRun_mono (hle:zfE.le f g) {ops:List Oper} {d:Bool} {s x:St} (h:zhl E f ops d s=some x):zhl E g ops d s=some x:=by
 cases d with
 | false=>exact zlm hle h
 | true=>
  rw [zhl] at h ⊢
  cases h1:planOf ops with
  | none=>rw [h1] at h; cases h
  | some p=>rw [h1] at h; exact zgw hle h
theorem finOf_some {fn:Func} {r:Option (Ex × St)} {x:V × Hp} (h:finOf E fn r=some x):∃ p,r=some p:=by
 cases r with
 | none=>cases h
 | some p=>exact ⟨p,rfl⟩
theorem callOf_mono {a b:Code→St→Option (Ex × St)} (hle:∀ c s r,a c s=some r→b c s=some r):zfE.le (zax E a) (zax E b):=by
 intro k al h r hr
 unfold zax at hr ⊢
 split at hr
 ·exact hr
 ·split at hr
  ·unfold callFn at hr ⊢
   split at hr
   ·cases hr
   ·rename_i fn _ _ c _
    cases hb:Nat.ble al.length fn.ntmps with
    | false=>rw [hb] at hr; cases hr
    | true=>
     rw [hb] at hr
     simp only [cond_true] at hr ⊢
     obtain ⟨p,hp⟩:=finOf_some hr
     rw [hle _ _ _ hp,← hp]
     exact hr
  ·cases hr
theorem exec_mono:∀ (n:Nat) (c:Code) (s:St) (r:Ex × St),exec E n c s=some r→exec E (n+1) c s=some r
 | 0,_,_,_,h=>by cases h
 | n+1,c,s,r,h=>by
  have ih:=exec_mono n
  cases c <;> first | exact h | (cases h; done) | skip
  case region id ops d=>
   change ndRegion (zhl E (zax E (exec E n)) ops.toList d s)=some r at h
   show ndRegion (zhl E (zax E (exec E (n+1))) ops.toList d s)=some r
   cases h1:zhl E (zax E (exec E n)) ops.toList d s with
   | none=>rw [h1] at h; cases h
   | some s'=>rw [h1] at h; rw [regRun_mono (callOf_mono ih) h1]; exact h
  case seq a b=>
   change zc0 (exec E n b) (exec E n a s)=some r at h
   show zc0 (exec E (n+1) b) (exec E (n+1) a s)=some r
   cases h1:exec E n a s with
   | none=>rw [h1] at h; cases h
   | some p=>
    obtain ⟨e,s'⟩:=p
    rw [h1] at h
    rw [ih _ _ _ h1]
    cases e <;> first | exact ih _ _ _ h | exact h
  case cond c a b=>
   change ndCond (fun _=>exec E n a s) (fun _=>exec E n b s) (ev s.t c)=some r at h
   show ndCond (fun _=>exec E (n+1) a s) (fun _=>exec E (n+1) b s) (ev s.t c)=some r
   generalize ev s.t c=v at h ⊢
   unfold ndCond at h ⊢
   split at h <;> first | exact ih _ _ _ h | cases h
  case block id c=>
   change ndBlock id (exec E n c s)=some r at h
   show ndBlock id (exec E (n+1) c s)=some r
   cases h1:exec E n c s with
   | none=>rw [h1] at h; cases h
   | some p=>rw [h1] at h; rw [ih _ _ _ h1]; exact h
  case loop c=>
   change zc0 (exec E n (.loop c)) (exec E n c s)=some r at h
   show zc0 (exec E (n+1) (.loop c)) (exec E (n+1) c s)=some r
   cases h1:exec E n c s with
   | none=>rw [h1] at h; cases h
   | some p=>
    obtain ⟨e,s'⟩:=p
    rw [h1] at h
    rw [ih _ _ _ h1]
    cases e <;> first | exact ih _ _ _ h | exact h
theorem exec_le {n m:Nat} (h:n≤m) {c:Code} {s:St} {r:Ex × St} (hr:exec E n c s=some r):exec E m c s=some r:=by
 induction h with
 | refl=>exact hr
 | step _ ih=>exact exec_mono _ _ _ _ ih
theorem callx_le {n m:Nat} (h:n≤m):zfE.le (zax E (exec E n)) (zax E (exec E m)):=callOf_mono fun _ _ _ hr=>exec_le h hr
def Xs (E:Env) (c:Code) (s:St) (r:Ex × St):Prop:=∃ n,exec E n c s=some r
def Cs (E:Env) (f:Nat) (al:List V) (h:Hp) (r:V × Hp):Prop:=∃ n,zax E (exec E n) f al h=some r
def onNxs (E:Env) (s:St) (dst:Option Tmp) (r:R) (x:St):Prop:=
 match r with
 | some (.enter f xs,h)=>∃ p,Cs E f xs h p∧s.put dst p.1 p.2=some x
 | r=>onNx (fun _ _ _=>none) s dst r=some x
theorem onNxs_some {s:St} {dst:Option Tmp} {r:R} {x:St} (h:onNxs E s dst r x):∃ n,onNx (zax E (exec E n)) s dst r=some x:=by
 unfold onNxs at h
 split at h
 ·obtain ⟨p,⟨n,h1⟩,h2⟩:=h
  exact ⟨n,by rw [onNx,h1]; exact h2⟩
 ·exact ⟨0,onNx_mono (fun _ _ _ _ h=>by cases h) h⟩
theorem Xs.skip (s:St):Xs E .skip s (.normal,s):=⟨1,rfl⟩
theorem Xs.exit (id:Nat) (s:St):Xs E (.exit id) s (.exit id,s):=⟨1,rfl⟩
theorem Xs.ret (s:St):Xs E .ret s (.ret,s):=⟨1,rfl⟩
theorem Xs.seq {a b:Code} {s s1:St} {r:Ex × St} (h1:Xs E a s (.normal,s1)) (h2:Xs E b s1 r):Xs E (.seq a b) s r:=by
 obtain ⟨n,h1⟩:=h1
 obtain ⟨m,h2⟩:=h2
 exact ⟨max n m+1,by show zc0 (exec E _ b) (exec E _ a s)=_; rw [exec_le (Nat.le_max_left n m) h1]; exact exec_le (Nat.le_max_right n m) h2⟩
theorem Xs.seq_stop {a b:Code} {s s1:St} {e:Ex} (h1:Xs E a s (e,s1)) (he:e ≠ .normal):Xs E (.seq a b) s (e,s1):=by
 obtain ⟨n,h1⟩:=h1
 exact ⟨n+1,by show zc0 (exec E _ b) (exec E _ a s)=_; rw [h1]; cases e <;> first | rfl | exact absurd rfl he⟩
theorem Xs.cond {c:Operand} {a b:Code} {s:St} {r:Ex × St} {v:Bool} (hv:ev s.t c=some (.bool v)) (h:Xs E (bif v then a else b) s r):Xs E (.cond c a b) s r:=by
 obtain ⟨n,h⟩:=h
 exact ⟨n+1,by show ndCond (fun _=>exec E n a s) (fun _=>exec E n b s) (ev s.t c)=_; rw [hv]; cases v <;> exact h⟩
theorem Xs.block {id:Nat} {c:Code} {s s1:St} {e:Ex} (h:Xs E c s (e,s1)):Xs E (.block id c) s (match e with | .exit j=>bif Nat.beq j id then (.normal,s1) else (.exit j,s1) | e=>(e,s1)):=by
 obtain ⟨n,h⟩:=h
 refine ⟨n+1,?_⟩
 show ndBlock id (exec E n c s)=_
 rw [h]
 cases e with
 | exit j=>simp only [ndBlock]; cases Nat.beq j id <;> rfl
 | normal=>rfl
 | ret=>rfl
theorem Xs.loop {c:Code} {s s1:St} {r:Ex × St} (h1:Xs E c s (.normal,s1)) (h2:Xs E (.loop c) s1 r):Xs E (.loop c) s r:=by
 obtain ⟨n,h1⟩:=h1
 obtain ⟨m,h2⟩:=h2
 exact ⟨max n m+1,by show zc0 (exec E _ (.loop c)) (exec E _ c s)=_; rw [exec_le (Nat.le_max_left n m) h1]; exact exec_le (Nat.le_max_right n m) h2⟩
theorem Xs.loop_stop {c:Code} {s s1:St} {e:Ex} (h1:Xs E c s (e,s1)) (he:e ≠ .normal):Xs E (.loop c) s (e,s1):=by
 obtain ⟨n,h1⟩:=h1
 exact ⟨n+1,by show zc0 (exec E _ (.loop c)) (exec E _ c s)=_; rw [h1]; cases e <;> first | rfl | exact absurd rfl he⟩
theorem Xs.region {id:Nat} {ops:Array Oper} {d:Bool} {s s1:St} (h:∃ n,zhl E (zax E (exec E n)) ops.toList d s=some s1):Xs E (.region id ops d) s (.normal,s1):=by
 obtain ⟨n,h⟩:=h
 exact ⟨n+1,by show ndRegion (zhl E (zax E (exec E n)) ops.toList d s)=_; rw [h]; rfl⟩
theorem Cs.of {f:Nat} {fn:Func} {c:Code} {al:List V} {h:Hp} {p:Ex × St} {r:V × Hp} (hk:E.hook f=none) (hf:E.fn.get f=some fn) (hb:fn.body=some c) (hl:al.length≤fn.ntmps)
  (hx:Xs E c ⟨T.ofL (al.map some) 0 .leaf,h,[],fn.ntmps⟩ p) (he:finOf E fn (some p)=some r):Cs E f al h r:=by
 obtain ⟨n,hx⟩:=hx
 refine ⟨n,?_⟩
 unfold zax
 rw [hk,hf]
 simp only [callFn,hb,Nat.ble_eq_true_of_le hl,cond_true,hx,he]
theorem Cs.hook {f:Nat} {g:List V→Hp→Option (V × Hp)} {al:List V} {h:Hp} {r:V × Hp} (hk:E.hook f=some g) (hg:g al h=some r):Cs E f al h r:=⟨0,by unfold zax; rw [hk]; exact hg⟩
theorem ops_cons {ops:List Oper} {o:Oper} {l:List Oper} {s s1 s2:St} (h1:∃ n,zel E (zax E (exec E n)) ops o s=some s1) (h2:∃ n,ziz E (zax E (exec E n)) ops l s1=some s2):∃ n,ziz E (zax E (exec E n)) ops (o::l) s=some s2:=by
 obtain ⟨n,h1⟩:=h1
 obtain ⟨m,h2⟩:=h2
 exact ⟨max n m,by rw [ziz,opStep_mono (callx_le (Nat.le_max_left n m)) h1]; exact zlm (callx_le (Nat.le_max_right n m)) h2⟩
theorem plan_n {ops:List Oper} {o:Oper} {i:Nat} {l:List PStep} {pd:List (Nat × Oper × PR)} {s s1 s2:St} {p:PR} (h1:zjK E ops o s=some p) (h2:s.take o.dst p=some s1) (h3:stillAll E s1 pd p=true)
  (h4:∃ n,zbN E (zax E (exec E n)) ops l ((i,o,p)::pd) s1=some s2):∃ n,zbN E (zax E (exec E n)) ops (.n i o::l) pd s=some s2:=by
 obtain ⟨n,h4⟩:=h4
 exact ⟨n,by rw [zbN,h1]; simp only; rw [h2]; simp only; rw [h3]; exact h4⟩
theorem plan_e {ops:List Oper} {o:Oper} {i m:Nat} {l:List PStep} {pd:List (Nat × Oper × PR)} {s s1 s2:St} (h1:∃ n,ziH E (zax E (exec E n)) ops o s=some s1) (h3:(pd.filter fun p=>!Nat.testBit m p.1).all (still E s1)=true)
  (h4:∃ n,zbN E (zax E (exec E n)) ops l (pd.filter fun p=>!Nat.testBit m p.1) s1=some s2):∃ n,zbN E (zax E (exec E n)) ops (.e i o m::l) pd s=some s2:=by
 obtain ⟨n,h1⟩:=h1
 obtain ⟨k,h4⟩:=h4
 refine ⟨max n k,?_⟩
 rw [zbN,eStep_mono (callx_le (Nat.le_max_left n k)) h1]
 simp only
 rw [h3]
 exact zgw (callx_le (Nat.le_max_right n k)) h4
end
end
end Go.Proofs.YtbchdlelmkmagaaGreatDoor.VM
namespace Go.Proofs.YtbchdlelmkmagaaGreatDoor.VM
open Go
noncomputable section
abbrev Sl:=List V
abbrev u0:V:=.tup []
abbrev Dl:=List (Nat × List V)
def nth (s:Sl):Nat→V:=
 List.rec (motive:=fun _=>Nat→V) (fun _=>zj) (fun v _ ih n=>Nat.rec (motive:=fun _=>V) v (fun n _=>ih n) n) s
theorem nth_zero (v:V) (l:Sl):nth (v::l) 0=v:=rfl
theorem nth_succ (v:V) (l:Sl) (n:Nat):nth (v::l) (n+1)=nth l n:=rfl
def setK (w:V) (s:Sl):Nat→(Sl→Prop)→Prop:=
 List.rec (motive:=fun _=>Nat→(Sl→Prop)→Prop) (fun _ _=>False) (fun v l ih n=>Nat.rec (motive:=fun _=>(Sl→Prop)→Prop) (fun k=>k (w::l)) (fun n _ k=>ih n fun l'=>k (v::l')) n) s
theorem setK_zero (w v:V) (l:Sl) (k:Sl→Prop):setK w (v::l) 0 k=k (w::l):=rfl
theorem setK_succ (w v:V) (l:Sl) (n:Nat) (k:Sl→Prop):setK w (v::l) (n+1) k=setK w l n fun l'=>k (v::l'):=rfl
structure Pr where
 pick:V→Option V→Option V→(V→Prop)→Prop
 build:Nat→List (Nat × V)→(V→Prop)→Prop
 load:Hp→Nat→V→(V→Prop)→Prop
 nilc:V→(V→Prop)→Prop
 bin:BinOp→Nat→Bool→Bool→V→V→(V→Prop)→Prop
 un:UnOp→V→(V→Prop)→Prop
 conv:Hp→Nat→Nat→V→(V→Prop)→Prop
 iface:Nat→V→(V→Prop)→Prop
 slice:Nat→V→Option V→Option V→Option V→(V→Prop)→Prop
 faddr:Nat→V→Nat→(V→Prop)→Prop
 field:Nat→V→Nat→(V→Prop)→Prop
 iaddr:Nat→V→V→(V→Prop)→Prop
 index:Nat→V→V→(V→Prop)→Prop
 look:Hp→Nat→V→V→Bool→(V→Prop)→Prop
 assert:V→Nat→Bool→(V→Prop)→Prop
 extr:V→Nat→(V→Prop)→Prop
 lbui:Hp→Array TypeId→Builtin→List V→(V→Prop)→Prop
 alloc:Hp→Nat→(V→Hp→Blk→Prop)→Prop
 box:Hp→Nat→V→(V→Hp→Blk→Prop)→Prop
 bsl:Hp→Nat→Nat→List (Nat × V)→(V→Hp→Blk→Prop)→Prop
 mkmap:Hp→Bool→(V→Hp→Blk→Prop)→Prop
 mksl:Hp→Nat→V→V→(V→Hp→Blk→Prop)→Prop
 fconv:Hp→Nat→Nat→V→(V→Hp→Blk→Prop)→Prop
 store:Hp→Nat→V→V→(Hp→Prop)→Prop
 mapu:Hp→Nat→V→V→V→(Hp→Prop)→Prop
 mape:Hp→Nat→V→V→(V→Hp→Prop)→Prop
 ests:Hp→V→V→V→(Hp→Prop)→Prop
 ebui:Hp→Array TypeId→Builtin→List V→(V→Hp→Prop)→Prop
 call:Nat→List V→Hp→(V→Hp→Prop)→Prop
 callv:V→List V→Hp→(V→Hp→Prop)→Prop
 invk:V→String→List V→Hp→(V→Hp→Prop)→Prop
 dfr:V→List V→(Nat × List V→Prop)→Prop
 cond:V→(Unit→Prop)→(Unit→Prop)→Prop
 gval:V→Bool→((V→Prop)→Prop)→(V→Prop)→Prop
 geff:V→Bool→((V→Hp→Prop)→Prop)→Hp→(V→Hp→Prop)→Prop
 gchk:V→Bool→(Prop→Prop)→Prop→Prop
 same:V→V→Prop→Prop
 sameb:Hp→Nat→Blk→Prop→Prop
 idle:Dl→Prop→Prop
def evL (s:Sl):Operand→Option V
 | .tmp i=>some (nth s i)
 | .const v=>ofVal v
 | .global g=>some (.gptr g 0)
 | .func f=>some (.fn (.func f) [] [])
def evK (s:Sl) (x:Operand) (k:V→Prop):Prop:=
 match evL s x with
 | some v=>k v
 | none=>False
def evsK (s:Sl):List Operand→(List V→Prop)→Prop
 | [],k=>k []
 | x::r,k=>evK s x fun v=>evsK s r fun l=>k (v::l)
def evoK (s:Sl) (x:Option Operand) (k:Option V→Prop):Prop:=
 match x with
 | none=>k none
 | some x=>evK s x fun v=>k (some v)
def partsK (s:Sl):List (Nat × Operand)→(List (Nat × V)→Prop)→Prop
 | [],k=>k []
 | (i,x)::r,k=>evK s x fun v=>partsK s r fun l=>k ((i,v)::l)
def putK (s:Sl) (dst:Option Tmp) (v:V) (k:Sl→Prop):Prop:=
 match dst with
 | none=>k s
 | some i=>setK v s i k
section
variable (p:Pr) (E:Env)
def lopK (s:Sl) (h:Hp) (op:Op) (k:V→Prop):Prop:=
 match op with
 | .move x=>evK s x k
 | .pick c a b=>evK s c fun c=>p.pick c (evL s a) (evL s b) k
 | .build ty ps=>partsK s ps.toList fun l=>p.build ty l k
 | .load ty a=>evK s a fun a=>p.load h ty a k
 | .nilCheck x=>evK s x fun x=>p.nilc x k
 | .binOp op ty x y _=>evK s x fun a=>evK s y fun b=>p.bin op ty (zgv x) (zgv y) a b k
 | .unOp op _ x=>evK s x fun x=>p.un op x k
 | .convert a d x=>evK s x fun x=>p.conv h a d x k
 | .makeInterface ty x=>evK s x fun x=>p.iface ty x k
 | .makeFunc f a c=>evsK s a.toList fun a=>evsK s c.toList fun c=>k (.fn f a c)
 | .slice ty x lo hi mx=>evK s x fun x=>evoK s lo fun lo=>evoK s hi fun hi=>evoK s mx fun mx=>p.slice ty x lo hi mx k
 | .fieldAddr ty x f=>evK s x fun x=>p.faddr ty x f k
 | .field ty x f=>evK s x fun x=>p.field ty x f k
 | .indexAddr ty x i=>evK s x fun x=>evK s i fun i=>p.iaddr ty x i k
 | .index ty x i=>evK s x fun x=>evK s i fun i=>p.index ty x i k
 | .lookup ty x q ok=>evK s x fun x=>evK s q fun q=>p.look h ty x q ok k
 | .typeAssert x _ a ok=>evK s x fun x=>p.assert x a ok k
 | .extract x i=>evK s x fun x=>p.extr x i k
 | .call c=>match c.callee with
  | .builtin b=>evsK s c.args.toList fun al=>p.lbui h c.argTypes b al k
  | _=>False
 | _=>False
def isSlT (d:TypeId):Bool:=
 match E.ty.get d with
 | some i=>(match i.k with | .sl _=>true | _=>false)
 | none=>false
def isF (op:Op):Bool:=
 match op with
 | .alloc _ | .box .. | .buildSlice .. | .makeMap .. | .makeSlice ..=>true
 | .convert _ d _=>isSlT E d
 | _=>false
def fopK (s:Sl) (h:Hp) (op:Op) (k:V→Hp→Blk→Prop):Prop:=
 match op with
 | .alloc e=>p.alloc h e k
 | .box e x=>evK s x fun x=>p.box h e x k
 | .buildSlice ty n ps=>partsK s ps.toList fun l=>p.bsl h ty n l k
 | .makeMap _ r=>p.mkmap h r.isNone k
 | .makeSlice ty l c=>evK s l fun l=>evK s c fun c=>p.mksl h ty l c k
 | .convert a d x=>evK s x fun x=>p.fconv h a d x k
 | _=>False
def callK (s:Sl) (h:Hp) (c:Call) (k:V→Hp→Prop):Prop:=
 evsK s c.args.toList fun al=>match c.callee with
 | .value (.func f)=>p.call f al h k
 | .value f=>evK s f fun f=>p.callv f al h k
 | .invoke r n=>evK s r fun r=>p.invk r n al h k
 | .builtin b=>p.ebui h c.argTypes b al k
def effK (s:Sl) (h:Hp) (op:Op) (k:V→Hp→Prop):Prop:=
 match op with
 | .assign x=>evK s x fun x=>k x h
 | .store ty a x=>evK s a fun a=>evK s x fun x=>p.store h ty a x fun h'=>k zj h'
 | .mapUpdate ty m q x=>evK s m fun m=>evK s q fun q=>evK s x fun x=>p.mapu h ty m q x fun h'=>k zj h'
 | .insert ty m q x=>evK s m fun m=>evK s q fun q=>evK s x fun x=>p.mapu h ty m q x fun h'=>k zj h'
 | .mapEntry ty m q=>evK s m fun m=>evK s q fun q=>p.mape h ty m q k
 | .entryStore _ m q x=>evK s m fun m=>evK s q fun q=>evK s x fun x=>p.ests h m q x fun h'=>k zj h'
 | .call c=>callK p s h c k
 | _=>False
def zk6 (ops:List Oper):Option (Nat × Bool)→Option (Option (Nat × Bool))
 | none=>some none
 | some (j,w)=>match ops[j]? with
  | some o=>(match o.dst with | some g=>some (some (g,w)) | none=>none)
  | none=>none
def opK (ops:List Oper) (o:Oper) (s:Sl) (h:Hp) (d:Dl) (k:Sl→Hp→Dl→Prop):Prop:=
 match zk6 ops o.guard with
 | none=>False
 | some none=>(match o.op with
  | .defer c=>(match c.callee with
   | .value f=>evsK s c.args.toList fun al=>evK s f fun f=>p.dfr f al fun x=>putK s o.dst zj fun s'=>k s' h (x::d)
   | _=>False)
  | op=>bif isE op then effK p s h op fun v h'=>putK s o.dst v fun s'=>k s' h' d
   else bif isF E op then fopK p s h op fun v h' _=>putK s o.dst v fun s'=>k s' h' d
   else lopK p s h op fun v=>putK s o.dst v fun s'=>k s' h d)
 | some (some (g,w))=>bif isE o.op then p.geff (nth s g) w (fun k'=>effK p s h o.op k') h fun v h'=>putK s o.dst v fun s'=>k s' h' d
   else bif isF E o.op then p.geff (nth s g) w (fun k'=>fopK p s h o.op fun v h' _=>k' v h') h fun v h'=>putK s o.dst v fun s'=>k s' h' d
   else p.gval (nth s g) w (fun k'=>lopK p s h o.op k') fun v=>putK s o.dst v fun s'=>k s' h d
def opsK (ops l:List Oper):Sl→Hp→Dl→(Sl→Hp→Dl→Prop)→Prop:=
 List.rec (motive:=fun _=>Sl→Hp→Dl→(Sl→Hp→Dl→Prop)→Prop) (fun s h d k=>k s h d) (fun o _ ih s h d k=>opK p E ops o s h d fun s' h' d'=>ih s' h' d' k) l
theorem opsK_cons (ops:List Oper) (o:Oper) (l:List Oper) (s:Sl) (h:Hp) (d:Dl) (k:Sl→Hp→Dl→Prop):opsK p E ops (o::l) s h d k=opK p E ops o s h d fun s' h' d'=>opsK p E ops l s' h' d' k:=rfl
inductive PRk where
 | skip
 | l (v:V)
 | f (id:Nat) (b:Blk)
 | g (b:V) (w:Bool) (v:V)
def nK (ops:List Oper) (o:Oper) (s:Sl) (h:Hp) (k:PRk→V→Hp→Prop):Prop:=
 match zk6 ops o.guard with
 | none=>False
 | some none=>bif isF E o.op then fopK p s h o.op fun v h' b=>k (.f h.n b) v h' else lopK p s h o.op fun v=>k (.l v) v h
 | some (some (g,w))=>bif isF E o.op then p.cond (nth s g)
   (fun _=>bif w then fopK p s h o.op fun v h' b=>k (.f h.n b) v h' else k .skip zj h)
   (fun _=>bif w then k .skip zj h else fopK p s h o.op fun v h' b=>k (.f h.n b) v h')
  else p.gval (nth s g) w (fun k'=>lopK p s h o.op k') fun v=>k (.g (nth s g) w v) v h
def eK (ops:List Oper) (o:Oper) (s:Sl) (h:Hp) (k:V→Hp→Prop):Prop:=
 match zk6 ops o.guard with
 | none=>False
 | some none=>effK p s h o.op k
 | some (some (g,w))=>p.geff (nth s g) w (fun k'=>effK p s h o.op k') h k
def reK (s:Sl) (h:Hp) (x:Nat × Oper × PRk) (k:Prop):Prop:=
 match x.2.2 with
 | .skip=>k
 | .l v=>bif readsM x.2.1.op then lopK p s h x.2.1.op fun u=>p.same u v k else k
 | .f id b=>p.sameb h id b k
 | .g b w v=>bif readsM x.2.1.op then p.gchk b w (fun k'=>lopK p s h x.2.1.op fun u=>p.same u v k') k else k
def reAll (s:Sl) (h:Hp) (l:List (Nat × Oper × PRk)):Prop→Prop:=
 List.rec (motive:=fun _=>Prop→Prop) (fun k=>k) (fun x _ ih k=>reK p s h x (ih k)) l
def leftK (m:Nat) (l:List (Nat × Oper × PRk)):(List (Nat × Oper × PRk)→Prop)→Prop:=
 List.rec (motive:=fun _=>(List (Nat × Oper × PRk)→Prop)→Prop) (fun k=>k []) (fun x _ ih k=>Bool.rec (motive:=fun _=>Prop) (ih fun r=>k (x::r)) (ih k) (Nat.testBit m x.1)) l
def planK (ops:List Oper) (l:List PStep):List (Nat × Oper × PRk)→Sl→Hp→Dl→(Sl→Hp→Dl→Prop)→Prop:=
 List.rec (motive:=fun _=>List (Nat × Oper × PRk)→Sl→Hp→Dl→(Sl→Hp→Dl→Prop)→Prop) (fun _ s h d k=>k s h d)
  (fun x _ ih pd s h d k=>match x with
   | .n i o=>nK p E ops o s h fun pr v h'=>putK s o.dst v fun s'=>match pr with
    | .f id b=>reAll p s' h' pd (ih ((i,o,.f id b)::pd) s' h' d k)
    | pr=>ih ((i,o,pr)::pd) s' h' d k
   | .e _ o m=>eK p ops o s h fun v h'=>putK s o.dst v fun s'=>leftK m pd fun pd'=>reAll p s' h' pd' (ih pd' s' h' d k)) l
theorem reAll_cons (s:Sl) (h:Hp) (x:Nat × Oper × PRk) (r:List (Nat × Oper × PRk)) (k:Prop):reAll p s h (x::r) k=reK p s h x (reAll p s h r k):=rfl
theorem planK_n (ops:List Oper) (i:Nat) (o:Oper) (r:List PStep) (pd:List (Nat × Oper × PRk)) (s:Sl) (h:Hp) (d:Dl) (k:Sl→Hp→Dl→Prop):planK p E ops (.n i o::r) pd s h d k =
  nK p E ops o s h fun pr v h'=>putK s o.dst v fun s'=>match pr with
    | .f id b=>reAll p s' h' pd (planK p E ops r ((i,o,.f id b)::pd) s' h' d k)
    | pr=>planK p E ops r ((i,o,pr)::pd) s' h' d k:=rfl
theorem planK_e (ops:List Oper) (i:Nat) (o:Oper) (m:Nat) (r:List PStep) (pd:List (Nat × Oper × PRk)) (s:Sl) (h:Hp) (d:Dl) (k:Sl→Hp→Dl→Prop):planK p E ops (.e i o m::r) pd s h d k =
  eK p ops o s h fun v h'=>putK s o.dst v fun s'=>leftK m pd fun pd'=>reAll p s' h' pd' (planK p E ops r pd' s' h' d k):=rfl
def forceN:Nat→(Nat→Prop)→Prop
 | 0,k=>k 0
 | n+1,k=>k (n+1)
def forceP:List PStep→(List PStep→Prop)→Prop
 | [],k=>k []
 | .n i o::r,k=>forceN i fun i=>forceP r fun r=>k (.n i o::r)
 | .e i o m::r,k=>forceN i fun i=>forceN m fun m=>forceP r fun r=>k (.e i o m::r)
def regK (ops:List Oper) (draw:Bool) (s:Sl) (h:Hp) (d:Dl) (k:Sl→Hp→Dl→Prop):Prop:=
 match draw with
 | false=>opsK p E ops ops s h d k
 | true=>match planOf ops with
  | some pl=>forceP pl fun pl=>planK p E ops pl [] s h d k
  | none=>False
abbrev Kx:=Ex→Sl→Hp→Dl→Prop
abbrev Lb:=List Bool→Sl→Hp→Dl→Prop
def eqB:List Bool→List Bool→Bool
 | [],[]=>true
 | true::a,true::b=>eqB a b
 | false::a,false::b=>eqB a b
 | _,_=>false
variable (cut:List Bool→Bool) (lab:Lb)
def blK (id:Nat) (k:Kx):Kx:=fun e s h d=>match e with
 | .exit j=>bif Nat.beq j id then k .normal s h d else k (.exit j) s h d
 | .normal=>k .normal s h d
 | .ret=>k .ret s h d
def sqK (k:Kx) (b:Sl→Hp→Dl→Prop):Kx:=fun e s h d=>match e with
 | .normal=>b s h d
 | .exit j=>k (.exit j) s h d
 | .ret=>k .ret s h d
def Kc:Code→List Bool→Sl→Hp→Dl→Kx→Prop
 | .skip,_,s,h,d,k=>k .normal s h d
 | .region _ ops draw,_,s,h,d,k=>regK p E ops.toList draw s h d (k .normal)
 | .seq a b,π,s,h,d,k=>Kc a (false::π) s h d (sqK k fun s' h' d'=>bif cut (true::π) then lab (true::π) s' h' d' else Kc b (true::π) s' h' d' k)
 | .cond c a b,π,s,h,d,k=>evK s c fun v=>p.cond v (fun _=>Kc a (false::π) s h d k) (fun _=>Kc b (true::π) s h d k)
 | .block id c,π,s,h,d,k=>Kc c (false::π) s h d (blK id k)
 | .loop _,π,s,h,d,_=>lab π s h d
 | .exit id,_,s,h,d,k=>k (.exit id) s h d
 | .ret,_,s,h,d,k=>k .ret s h d
 | _,_,_,_,_,_=>False
def KAt:Code→List Bool→List Bool→Kx→Sl→Hp→Dl→Prop
 | c,π,[],k,s,h,d=>(match c with
  | .loop b=>Kc p E cut lab b (false::π) s h d (sqK k (lab π))
  | c=>Kc p E cut lab c π s h d k)
 | .seq a b,π,false::r,k,s,h,d=>KAt a (false::π) r (sqK k fun s' h' d'=>bif cut (true::π) then lab (true::π) s' h' d' else Kc p E cut lab b (true::π) s' h' d' k) s h d
 | .seq _ b,π,true::r,k,s,h,d=>KAt b (true::π) r k s h d
 | .cond _ a _,π,false::r,k,s,h,d=>KAt a (false::π) r k s h d
 | .cond _ _ b,π,true::r,k,s,h,d=>KAt b (true::π) r k s h d
 | .block id c,π,false::r,k,s,h,d=>KAt c (false::π) r (blK id k) s h d
 | .loop c,π,false::r,k,s,h,d=>KAt c (false::π) r (sqK k (lab π)) s h d
 | _,_,_,_,_,_,_=>False
def resK (s:Sl) (h:Hp):List ResultVar→(List V→Prop)→Prop
 | [],k=>k []
 | .tmp t::r,k=>resK s h r fun l=>k (nth s t::l)
 | .cell a ty::r,k=>p.load h ty (nth s a) fun v=>resK s h r fun l=>k (v::l)
def finK (fn:Func) (Q:V→Hp→Prop):Kx:=fun e s h d=>match e with
 | .exit _=>False
 | _=>(match d with
  | []=>resK p s h fn.results.toList fun l=>Q (match l with | [v]=>v | l=>.tup l) h
  | x::r=>p.idle (x::r) (resK p s h fn.results.toList fun l=>Q (match l with | [v]=>v | l=>.tup l) h))
end
end
end Go.Proofs.YtbchdlelmkmagaaGreatDoor.VM
