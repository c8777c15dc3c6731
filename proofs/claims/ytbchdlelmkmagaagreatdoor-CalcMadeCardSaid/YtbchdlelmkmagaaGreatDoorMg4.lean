/- VmU VmV VmT VkA VkB VkC VkM DpHeap DpLaw -/
import Derived.Test.YtbchdlelmkmagaaGreatDoorMg3
namespace Go.Proofs.YtbchdlelmkmagaaGreatDoor.VM
open Go
noncomputable section
def vbinB (E:Env) (op:BinOp) (ty:TypeId) (cx cy:Bool) (x y:V):Option V:=
 match x,y with
 | .int k a,.int j b=>vbin op (.int k a) (.int j b)
 | .str a,.str b=>vbin op (.str a) (.str b)
 | .nili,.nili=>bif cx || cy then eqOp op ((E.ty.get ty).bind fun i=>match i.k with | .iface _=>some true | _=>none) else none
 | .symI k j,y=>E.so (.bin op) [.symI k j,y]
 | .symS j,y=>E.so (.bin op) [.symS j,y]
 | x,.symI k j=>E.so (.bin op) [x,.symI k j]
 | x,.symS j=>E.so (.bin op) [x,.symS j]
 | x,y=>eqOp op ((E.ty.get ty).bind fun i=>veq E i x y)
def ebuiV (E:Env) (h:Hp) (ts:Array TypeId) (b:Builtin) (al:List V):Option (V × Hp):=
 match b,al with
 | .append,[x,y]=>ziZ E h ts x y
 | .copy,[x,y]=>vcopy E h ts x y
 | _,_=>none
def zgt (b:V) (w:Bool):Option Bool:=
 match b with
 | .bool c=>some (c == w)
 | .tup []=>some false
 | _=>none
def boxV (e:TypeId) (x:V):F:=bif zh x.cells then some (ziu e x.cells) else none
def Ans (E:Env) (f:Nat) (al:List V) (h:Hp) (Q:V→Hp→Prop):Prop:=∃ v h',Cs E f al h (v,h')∧Q v h'
theorem Ans.mono {E:Env} {f:Nat} {al:List V} {h:Hp} {Q Q':V→Hp→Prop} (c:Ans E f al h Q) (hq:∀ v h',Q v h'→Q' v h'):Ans E f al h Q':=by
 obtain ⟨v,h',h1,h2⟩:=c; exact ⟨v,h',h1,hq _ _ h2⟩
def Pu (E:Env):Pr where
 pick c a b k:=∃ x,c=.bool x∧∃ v,(bif x then a else b)=some v∧k v
 build ty ps k:=∃ v,zkE E ty ps=some v∧k v
 load h ty a k:=∃ v,ziF E h ty a=some v∧k v
 nilc x k:=∃ v,zjm x=some v∧k v
 bin op ty cx cy x y k:=∃ v,vbinB E op ty cx cy x y=some v∧k v
 un op x k:=∃ v,vun op x=some v∧k v
 conv h s d x k:=∃ v,vconv E h s d x=some v∧k v
 iface ty x k:=∃ v,((E.ty.get ty).bind fun i=>ifaceV ty x i)=some v∧k v
 slice ty x lo hi mx k:=∃ v,zgF E ty x lo hi mx=some v∧k v
 faddr ty x f k:=∃ v,zfO E ty x f=some v∧k v
 field ty x f k:=∃ v,vfield E ty x f=some v∧k v
 iaddr ty x i k:=∃ v,zbi E ty x i=some v∧k v
 index ty x i k:=∃ v,vindex E ty x i=some v∧k v
 look h ty x q ok k:=∃ v,zcM E h ty x q ok=some v∧k v
 assert x a ok k:=∃ v,zeA E x a ok=some v∧k v
 extr x i k:=∃ v,extractV i x=some v∧k v
 lbui h ts b al k:=∃ v,zdV E h ts b al=some v∧k v
 alloc h e k:=∃ x,fAlloc E e=some x∧k (x.1.at h.n) (h.new x.2) x.2
 box h e x k:=∃ y,boxV e x=some y∧k (y.1.at h.n) (h.new y.2) y.2
 bsl h ty n ps k:=∃ y,zbk E ty n ps=some y∧k (y.1.at h.n) (h.new y.2) y.2
 mkmap h b k:=b=true∧k (.mp h.n) (h.new (.map [] 0)) (.map [] 0)
 mksl h ty l c k:=∃ y,((E.ty.get ty).bind fun i=>makeV E l c i)=some y∧k (y.1.at h.n) (h.new y.2) y.2
 fconv h s d x k:=∃ y,((E.ty.get s).bind fun _=>fconv E d x)=some y∧k (y.1.at h.n) (h.new y.2) y.2
 store h ty a x k:=∃ h',vstore E h ty a x=some h'∧k h'
 mapu h ty m q x k:=∃ h',zfL E h ty m q x=some h'∧k h'
 mape h ty m q k:=∃ r,zbG E h ty m q=some r∧k r.1 r.2
 ests h m s x k:=∃ h',zc9 h m s x=some h'∧k h'
 ebui h ts b al k:=∃ r,ebuiV E h ts b al=some r∧k r.1 r.2
 call f al h k:=Ans E f al h k
 callv f al h k:=∃ x,target f al=some x∧Ans E x.1 x.2 h k
 invk r n al h k:=∃ x,methodV E r n al=some x∧Ans E x.1 x.2 h k
 dfr f al k:=∃ x,target f al=some x∧k x
 cond v a b:=∃ c,v=.bool c∧(c=true→a ())∧(c=false→b ())
 gval b w f k:=∃ c,zgt b w=some c∧(c=true→f k)∧(c=false→k zj)
 geff b w f h k:=∃ c,zgt b w=some c∧(c=true→f k)∧(c=false→k zj h)
 gchk b w f k:=∃ c,zgt b w=some c∧(c=true→f k)∧(c=false→k)
 same u v k:=zd9 u v=true∧k
 sameb h id b k:=(∃ c,h.t.get id=some c∧sameB c b=true)∧k
 idle d k:=zhd E d=true∧k
structure RelT (t:Tm) (s:Sl) (n:Nat):Prop where
 len:s.length=n
 at_:∀ i,(t.get i).getD zj=nth s i
theorem setK_out {w:V}:∀ {s:Sl} {i:Nat} {k:Sl→Prop},setK w s i k→∃ s',k s'∧i < s.length∧s'.length=s.length∧∀ j,nth s' j=if j=i then w else nth s j
 | [],_,_,h=>h.elim
 | v::l,0,k,h=>by
  rw [setK_zero] at h
  exact ⟨_,h,by simp,rfl,fun j=>by cases j <;> simp [nth_zero,nth_succ]⟩
 | v::l,n+1,k,h=>by
  rw [setK_succ] at h
  obtain ⟨s',h0,h1,h2,h3⟩:=setK_out h
  refine ⟨_,h0,by simp; omega,by simp [h2],fun j=>?_⟩
  cases j with
  | zero=>simp [nth_zero]
  | succ j=>simp [nth_succ,h3]
variable {E:Env} {t:Tm} {s:Sl} {n:Nat} {h:Hp}
theorem ev_eq (R:RelT t s n) (x:Operand):ev t x=evL s x:=by
 cases x <;> first | rfl | skip
 rename_i i
 show some _=some _
 rw [R.at_ i]
theorem zag (R:RelT t s n) {x:Operand} {k:V→Prop} (hk:evK s x k):∃ v,ev t x=some v∧k v:=by
 unfold evK at hk
 rw [← ev_eq R] at hk
 split at hk
 ·rename_i v hv; exact ⟨v,hv,hk⟩
 ·exact hk.elim
theorem zj0 (R:RelT t s n):∀ {l:List Operand} {k:List V→Prop},evsK s l k→∃ al,evs t l=some al∧k al
 | [],_,hk=>⟨[],rfl,hk⟩
 | x::l,k,hk=>by
  obtain ⟨v,h1,h2⟩:=zag R hk
  obtain ⟨al,h3,h4⟩:=zj0 R h2
  exact ⟨v::al,by rw [evs,h1,Option.bind_some,h3,Option.bind_some],h4⟩
theorem evoK_out (R:RelT t s n) {x:Option Operand} {k:Option V→Prop} (hk:evoK s x k):∃ v,evo t x=some v∧k v:=by
 cases x with
 | none=>exact ⟨none,rfl,hk⟩
 | some x=>
  obtain ⟨v,h1,h2⟩:=zag R (k:=fun v=>k (some v)) hk
  exact ⟨some v,by rw [evo,h1]; rfl,h2⟩
theorem partsK_out (R:RelT t s n):∀ {l:List (Nat × Operand)} {k:List (Nat × V)→Prop},partsK s l k→∃ al,parts t l=some al∧k al
 | [],_,hk=>⟨[],rfl,hk⟩
 | (i,x)::l,k,hk=>by
  obtain ⟨v,h1,h2⟩:=zag R (k:=fun v=>partsK s l fun l=>k ((i,v)::l)) hk
  obtain ⟨al,h3,h4⟩:=partsK_out R h2
  exact ⟨(i,v)::al,by rw [parts,h1,Option.bind_some,h3,Option.bind_some],h4⟩
theorem zh8 (R:RelT t s n) {dst:Option Tmp} {v:V} {k:Sl→Prop} (hk:putK s dst v k) (h0 h:Hp) (d:Dl):∃ t' s',St.put ⟨t,h0,d,n⟩ dst v h=some ⟨t',h,d,n⟩∧RelT t' s' n∧k s':=by
 cases dst with
 | none=>exact ⟨t,s,rfl,R,hk⟩
 | some i=>
  have hk:setK v s i k:=hk
  ·obtain ⟨s',hk,h1,h2,h3⟩:=setK_out hk
   refine ⟨t.put i v,s',?_,⟨h2.trans R.len,fun j=>?_⟩,hk⟩
   ·have:Nat.blt i n=true:=by simp [Nat.blt_eq,← R.len,h1]
    simp only [St.put,this,cond_true]
   ·rw [T.get_put,h3]
    split
    ·rfl
    ·exact R.at_ j
theorem zj7 (R:RelT t s n) {op:Op} {k:V→Prop} (hk:lopK (Pu E) s h op k):∃ v,lop E t h op=some v∧k v:=by
 cases op <;> simp only [lopK] at hk <;> first | exact hk.elim | skip
 case move x=>exact zag R hk
 case pick c a b=>
  obtain ⟨cv,h1,x,rfl,v,h3,h4⟩:=zag R hk
  refine ⟨v,?_,h4⟩
  show lPick t c a b=_
  rw [lPick,h1,Option.bind_some,ev_eq R,ev_eq R]
  cases x <;> exact h3
 case build ty ps=>
  obtain ⟨l,h1,v,h2,h3⟩:=partsK_out R hk
  exact ⟨v,by show lBuild E t ty ps=_; rw [lBuild,h1,Option.bind_some,h2],h3⟩
 case load ty a=>
  obtain ⟨x,h1,v,h2,h3⟩:=zag R hk
  exact ⟨v,by show lLoad E t h ty a=_; rw [lLoad,h1,Option.bind_some,h2],h3⟩
 case nilCheck x=>
  obtain ⟨y,h1,v,h2,h3⟩:=zag R hk
  exact ⟨v,by show zhF t x=_; rw [zhF,h1,Option.bind_some,h2],h3⟩
 case binOp op ty x y yt=>
  obtain ⟨a,h1,hk⟩:=zag R hk
  obtain ⟨b,h2,v,h3,h4⟩:=zag R hk
  exact ⟨v,by show lBin E t op ty x y=_; rw [lBin,h1,Option.bind_some,h2,Option.bind_some]; exact h3,h4⟩
 case unOp op ty x=>
  obtain ⟨y,h1,v,h2,h3⟩:=zag R hk
  exact ⟨v,by show lUn t op x=_; rw [lUn,h1,Option.bind_some,h2],h3⟩
 case convert a d x=>
  obtain ⟨y,h1,v,h2,h3⟩:=zag R hk
  exact ⟨v,by show lConv E t h a d x=_; rw [lConv,h1,Option.bind_some,h2],h3⟩
 case makeInterface ty x=>
  obtain ⟨y,h1,v,h2,h3⟩:=zag R hk
  exact ⟨v,by show lIface E t ty x=_; rw [lIface,h1,Option.bind_some,h2],h3⟩
 case makeFunc f a c=>
  obtain ⟨al,h1,hk⟩:=zj0 R hk
  obtain ⟨cl,h2,h3⟩:=zj0 R hk
  exact ⟨_,by show lFunc t f a c=_; rw [lFunc,h1,Option.bind_some,h2,Option.bind_some],h3⟩
 case slice ty x lo hi mx=>
  obtain ⟨y,h1,hk⟩:=zag R hk
  obtain ⟨lo',h2,hk⟩:=evoK_out R hk
  obtain ⟨hi',h3,hk⟩:=evoK_out R hk
  obtain ⟨mx',h4,v,h5,h6⟩:=evoK_out R hk
  exact ⟨v,by show lSlice E t ty x lo hi mx=_; rw [lSlice,h1,Option.bind_some,h2,Option.bind_some,h3,Option.bind_some,h4,Option.bind_some,h5],h6⟩
 case fieldAddr ty x f=>
  obtain ⟨y,h1,v,h2,h3⟩:=zag R hk
  exact ⟨v,by show zfK E t ty x f=_; rw [zfK,h1,Option.bind_some,h2],h3⟩
 case field ty x f=>
  obtain ⟨y,h1,v,h2,h3⟩:=zag R hk
  exact ⟨v,by show lField E t ty x f=_; rw [lField,h1,Option.bind_some,h2],h3⟩
 case indexAddr ty x i=>
  obtain ⟨y,h1,hk⟩:=zag R hk
  obtain ⟨z,h2,v,h3,h4⟩:=zag R hk
  exact ⟨v,by show zfR E t ty x i=_; rw [zfR,h1,Option.bind_some,h2,Option.bind_some,h3],h4⟩
 case index ty x i=>
  obtain ⟨y,h1,hk⟩:=zag R hk
  obtain ⟨z,h2,v,h3,h4⟩:=zag R hk
  exact ⟨v,by show lIndex E t ty x i=_; rw [lIndex,h1,Option.bind_some,h2,Option.bind_some,h3],h4⟩
 case lookup ty x q ok=>
  obtain ⟨y,h1,hk⟩:=zag R hk
  obtain ⟨z,h2,v,h3,h4⟩:=zag R hk
  exact ⟨v,by show lLookup E t h ty x q ok=_; rw [lLookup,h1,Option.bind_some,h2,Option.bind_some,h3],h4⟩
 case typeAssert x xt a ok=>
  obtain ⟨y,h1,v,h2,h3⟩:=zag R hk
  exact ⟨v,by show lAssert E t x a ok=_; rw [lAssert,h1,Option.bind_some,h2],h3⟩
 case extract x i=>
  obtain ⟨y,h1,v,h2,h3⟩:=zag R hk
  exact ⟨v,by show zj1 t x i=_; rw [zj1,h1,Option.bind_some,h2],h3⟩
 case call c=>
  obtain ⟨callee,args,ats⟩:=c
  cases callee with
  | value f=>exact hk.elim
  | invoke r m=>exact hk.elim
  | builtin b=>
   obtain ⟨al,h1,v,h2,h3⟩:=zj0 R hk
   exact ⟨v,by show lCall E t h ⟨.builtin b,args,ats⟩=_; rw [lCall]; simp only; rw [h1,Option.bind_some,h2],h3⟩
theorem fopK_out (R:RelT t s n) {op:Op} {k:V→Hp→Blk→Prop} (hF:isF E op=true) (hk:fopK (Pu E) s h op k):∃ r b,fop E t op=some (r,b)∧lop E t h op=none∧k (r.at h.n) (h.new b) b:=by
 cases op <;> simp only [fopK] at hk <;> first | exact hk.elim | skip
 case alloc e=>
  obtain ⟨⟨r,b⟩,h1,h2⟩:=hk
  exact ⟨r,b,h1,rfl,h2⟩
 case box e x=>
  obtain ⟨v,h1,⟨r,b⟩,h2,h3⟩:=zag R hk
  exact ⟨r,b,by show fBox t e x=_; rw [fBox,h1,Option.bind_some]; exact h2,rfl,h3⟩
 case buildSlice ty m ps=>
  obtain ⟨l,h1,⟨r,b⟩,h2,h3⟩:=partsK_out R hk
  exact ⟨r,b,by show zeL E t ty m ps=_; rw [zeL,h1,Option.bind_some,h2],rfl,h3⟩
 case makeMap ty r=>
  obtain ⟨h1,h2⟩:=hk
  cases r with
  | none=>exact ⟨.mp,.map [] 0,rfl,rfl,h2⟩
  | some r=>cases h1
 case makeSlice ty l c=>
  obtain ⟨lv,h1,hk⟩:=zag R hk
  obtain ⟨cv,h2,⟨r,b⟩,h3,h4⟩:=zag R hk
  exact ⟨r,b,by show fMake E t ty l c=_; rw [fMake,h1,Option.bind_some,h2,Option.bind_some,h3],rfl,h4⟩
 case convert a d x=>
  obtain ⟨v,h1,⟨r,b⟩,h2,h3⟩:=zag R hk
  refine ⟨r,b,?_,?_,h3⟩
  ·show fConv E t a d x=_
   rw [fConv,← h2]
   cases E.ty.get a with
   | none=>rfl
   | some i=>rw [Option.bind_some,Option.bind_some,h1,Option.bind_some]
  ·show lConv E t h a d x=_
   rw [lConv,h1,Option.bind_some]
   simp only [isF,isSlT] at hF
   split at hF
   ·rename_i i hi
    unfold vconv
    rw [hi]
    cases E.ty.get a with
    | none=>rfl
    | some j=>
     simp only [Option.bind_some]
     split at hF
     ·rename_i e he
      rw [he]
     ·cases hF
   ·cases hF
theorem effK_out (R:RelT t s n) {op:Op} {k:V→Hp→Prop} (hk:effK (Pu E) s h op k):∃ v h',k v h'∧∀ (d:Dl) (dst:Option Tmp) (x:St),St.put ⟨t,h,d,n⟩ dst v h'=some x→onNxs E ⟨t,h,d,n⟩ dst (eop E t h op) x:=by
 have put_h:∀ (d:Dl) (dst:Option Tmp) (v:V) (h0 h1 h2:Hp),St.put ⟨t,h0,d,n⟩ dst v h2=St.put ⟨t,h1,d,n⟩ dst v h2:=fun _ _ _ _ _ _=>rfl
 cases op <;> simp only [effK] at hk <;> first | exact hk.elim | skip
 case assign x=>
  obtain ⟨v,h1,h2⟩:=zag R hk
  refine ⟨v,h,h2,fun d dst x hx=>?_⟩
  show onNxs E _ dst (rV h (ev t _)) x
  rw [h1]; exact hx
 case store ty a x=>
  obtain ⟨av,h1,hk⟩:=zag R hk
  obtain ⟨xv,h2,h',h3,h4⟩:=zag R hk
  refine ⟨zj,h',h4,fun d dst z hz=>?_⟩
  show onNxs E _ dst (eStore E t h ty a x) z
  rw [eStore,h1,Option.bind_some,h2,Option.bind_some,h3]; exact hz
 case mapUpdate ty m q x=>
  obtain ⟨mv,h1,hk⟩:=zag R hk
  obtain ⟨qv,h2,hk⟩:=zag R hk
  obtain ⟨xv,h3,h',h4,h5⟩:=zag R hk
  refine ⟨zj,h',h5,fun d dst z hz=>?_⟩
  show onNxs E _ dst (zdg E t h ty m q x) z
  rw [zdg,h1,Option.bind_some,h2,Option.bind_some,h3,Option.bind_some,h4]; exact hz
 case insert ty m q x=>
  obtain ⟨mv,h1,hk⟩:=zag R hk
  obtain ⟨qv,h2,hk⟩:=zag R hk
  obtain ⟨xv,h3,h',h4,h5⟩:=zag R hk
  refine ⟨zj,h',h5,fun d dst z hz=>?_⟩
  show onNxs E _ dst (zdg E t h ty m q x) z
  rw [zdg,h1,Option.bind_some,h2,Option.bind_some,h3,Option.bind_some,h4]; exact hz
 case mapEntry ty m q=>
  obtain ⟨mv,h1,hk⟩:=zag R hk
  obtain ⟨qv,h2,⟨v,h'⟩,h3,h4⟩:=zag R hk
  refine ⟨v,h',h4,fun d dst z hz=>?_⟩
  show onNxs E _ dst (eMapEntry E t h ty m q) z
  rw [eMapEntry,h1,Option.bind_some,h2,Option.bind_some,h3]; exact hz
 case entryStore ty m q x=>
  obtain ⟨mv,h1,hk⟩:=zag R hk
  obtain ⟨qv,h2,hk⟩:=zag R hk
  obtain ⟨xv,h3,h',h4,h5⟩:=zag R hk
  refine ⟨zj,h',h5,fun d dst z hz=>?_⟩
  show onNxs E _ dst (zif t h m q x) z
  rw [zif,h1,Option.bind_some,h2,Option.bind_some,h3,Option.bind_some,h4]; exact hz
 case call c=>
  obtain ⟨callee,args,ats⟩:=c
  obtain ⟨al,h1,hk⟩:=zj0 R hk
  cases callee with
  | value f=>
   have key:∀ fv g xs,ev t f=some fv→target fv al=some (g,xs)→Ans E g xs h k→∃ v h',k v h'∧∀ (d:Dl) (dst:Option Tmp) (x:St),St.put ⟨t,h,d,n⟩ dst v h'=some x→onNxs E ⟨t,h,d,n⟩ dst (eop E t h (.call ⟨.value f,args,ats⟩)) x:=by
    rintro fv g xs h2 h3 ⟨v,h',h4,h5⟩
    refine ⟨v,h',h5,fun d dst z hz=>?_⟩
    show onNxs E _ dst (eCall E t h ⟨.value f,args,ats⟩) z
    rw [eCall,h1,Option.bind_some]
    simp only
    rw [h2,Option.bind_some,h3,Option.bind_some]
    exact ⟨(v,h'),h4,hz⟩
   cases f with
   | func f=>exact key (.fn (.func f) [] []) f al rfl (by simp [target]) hk
   | tmp i=>
    obtain ⟨fv,h2,⟨g,xs⟩,h3,h4⟩:=zag R hk
    exact key fv g xs h2 h3 h4
   | const c=>
    obtain ⟨fv,h2,⟨g,xs⟩,h3,h4⟩:=zag R hk
    exact key fv g xs h2 h3 h4
   | global g=>obtain ⟨x,h3,_⟩:=hk; cases h3
  | invoke r m=>
   obtain ⟨rv,h2,⟨g,xs⟩,h3,v,h',h4,h5⟩:=zag R hk
   refine ⟨v,h',h5,fun d dst z hz=>?_⟩
   show onNxs E _ dst (eCall E t h ⟨.invoke r m,args,ats⟩) z
   rw [eCall,h1,Option.bind_some]
   simp only
   rw [h2,Option.bind_some,h3,Option.bind_some]
   exact ⟨(v,h'),h4,hz⟩
  | builtin b=>
   obtain ⟨⟨v,h'⟩,h2,h3⟩:=hk
   refine ⟨v,h',h3,fun d dst z hz=>?_⟩
   show onNxs E _ dst (eCall E t h ⟨.builtin b,args,ats⟩) z
   rw [eCall,h1,Option.bind_some]
   simp only
   unfold ebuiV at h2
   split at h2
   ·rw [eBuiltin,h2]; exact hz
   ·rw [eBuiltin,h2]; exact hz
   ·cases h2
end
end Go.Proofs.YtbchdlelmkmagaaGreatDoor.VM
namespace Go.Proofs.YtbchdlelmkmagaaGreatDoor.VM
open Go
noncomputable section
variable {E:Env} {t:Tm} {s:Sl} {n:Nat} {h:Hp}
theorem guard_none {ops:List Oper} {g:Option (Nat × Bool)} (hg:zk6 ops g=some none):za0 t ops g=some true:=by
 unfold zk6 at hg
 split at hg
 ·rfl
 ·split at hg
  ·split at hg <;> cases hg
  ·cases hg
theorem guard_some (R:RelT t s n) {ops:List Oper} {g:Option (Nat × Bool)} {i:Nat} {w:Bool} (hg:zk6 ops g=some (some (i,w))):za0 t ops g=zgt (nth s i) w:=by
 unfold zk6 at hg
 split at hg
 ·cases hg
 ·rename_i j w'
  split at hg
  ·rename_i o ho
   split at hg
   ·rename_i d hd
    cases hg
    rw [za0,ho,Option.bind_some,hd,Option.bind_some]
    rw [R.at_]
    rfl
   ·cases hg
  ·cases hg
theorem opK_out (R:RelT t s n) {ops:List Oper} {o:Oper} {d:Dl} {k:Sl→Hp→Dl→Prop} (hk:opK (Pu E) E ops o s h d k):
  ∃ t' s' h' d',(∃ m,zel E (zax E (exec E m)) ops o ⟨t,h,d,n⟩=some ⟨t',h',d',n⟩)∧RelT t' s' n∧k s' h' d':=by
 unfold opK at hk
 have viaE:∀ {v:V} {h':Hp} (hE:isE o.op=true) (hw:za0 t ops o.guard=some true),(∀ (d:Dl) (dst:Option Tmp) (x:St),St.put ⟨t,h,d,n⟩ dst v h'=some x→onNxs E ⟨t,h,d,n⟩ dst (eop E t h o.op) x)→putK s o.dst v (fun s'=>k s' h' d) →
   ∃ t' s' h' d',(∃ m,zel E (zax E (exec E m)) ops o ⟨t,h,d,n⟩=some ⟨t',h',d',n⟩)∧RelT t' s' n∧k s' h' d':=by
  intro v h' hE hw h2 hp
  obtain ⟨t',s',h3,h4,h5⟩:=zh8 R hp h h' d
  obtain ⟨m,h6⟩:=onNxs_some (h2 d o.dst _ h3)
  exact ⟨t',s',h',d,⟨m,by rw [zel,hE]; simp only; rw [ziH]; simp only; rw [hw,Option.bind_some]; exact h6⟩,h4,h5⟩
 have viaL:∀ {v:V} (hE:isE o.op=false) (hw:za0 t ops o.guard=some true),lop E t h o.op=some v→putK s o.dst v (fun s'=>k s' h d) →
   ∃ t' s' h' d',(∃ m,zel E (zax E (exec E m)) ops o ⟨t,h,d,n⟩=some ⟨t',h',d',n⟩)∧RelT t' s' n∧k s' h' d':=by
  intro v hE hw h2 hp
  obtain ⟨t',s',h3,h4,h5⟩:=zh8 R hp h h d
  exact ⟨t',s',h,d,⟨0,by rw [zel,hE]; simp only; rw [zjK]; simp only; rw [hw,Option.bind_some,prOf,h2,Option.bind_some]; exact h3⟩,h4,h5⟩
 have viaF:∀ {r:Fr} {b:Blk} (hE:isE o.op=false) (hw:za0 t ops o.guard=some true),fop E t o.op=some (r,b)→lop E t h o.op=none→putK s o.dst (r.at h.n) (fun s'=>k s' (h.new b) d) →
   ∃ t' s' h' d',(∃ m,zel E (zax E (exec E m)) ops o ⟨t,h,d,n⟩=some ⟨t',h',d',n⟩)∧RelT t' s' n∧k s' h' d':=by
  intro r b hE hw h2 h2' hp
  obtain ⟨t',s',h3,h4,h5⟩:=zh8 R hp h (h.new b) d
  exact ⟨t',s',h.new b,d,⟨0,by rw [zel,hE]; simp only; rw [zjK]; simp only; rw [hw,Option.bind_some,prOf,h2',h2,Option.bind_some]; exact h3⟩,h4,h5⟩
 have viaN:(hw:za0 t ops o.guard=some false)→putK s o.dst zj (fun s'=>k s' h d) →
   ∃ t' s' h' d',(∃ m,zel E (zax E (exec E m)) ops o ⟨t,h,d,n⟩=some ⟨t',h',d',n⟩)∧RelT t' s' n∧k s' h' d':=by
  intro hw hp
  obtain ⟨t',s',h3,h4,h5⟩:=zh8 R hp h h d
  refine ⟨t',s',h,d,⟨0,?_⟩,h4,h5⟩
  rw [zel]
  cases isE o.op with
  | true=>simp only; rw [ziH]; simp only; rw [hw,Option.bind_some]; exact h3
  | false=>simp only; rw [zjK]; simp only; rw [hw,Option.bind_some,Option.bind_some]; exact h3
 split at hk
 ·exact hk.elim
 ·rename_i hg
  have hw:=guard_none (t:=t) hg
  split at hk
  ·rename_i c hop
   split at hk
   ·rename_i f hc
    obtain ⟨al,h1,hk⟩:=zj0 R hk
    obtain ⟨fv,h2,⟨g,xs⟩,h3,h4⟩:=zag R hk
    obtain ⟨t',s',h5,h6,h7⟩:=zh8 R h4 h h ((g,xs)::d)
    refine ⟨t',s',h,(g,xs)::d,⟨0,?_⟩,h6,h7⟩
    have hE:isE o.op=true:=by rw [hop]; rfl
    rw [zel,hE]
    simp only
    rw [ziH]
    simp only
    rw [hw,Option.bind_some]
    simp only
    have:eop E t h o.op=some (.dfr g xs,h):=by
     rw [hop]
     show eDefer t h c=_
     rw [eDefer,hc]
     simp only
     rw [h1,Option.bind_some,h2,Option.bind_some,h3,Option.bind_some]
    rw [this]
    exact h5
   ·exact hk.elim
  ·rename_i op hne
   cases hE:isE o.op with
   | true=>
    rw [hE] at hk
    simp only [cond_true] at hk
    obtain ⟨v,h',h1,h2⟩:=effK_out R hk
    exact viaE hE hw h2 h1
   | false=>
    rw [hE] at hk
    simp only [cond_false] at hk
    cases hF:isF E o.op with
    | true=>
     rw [hF] at hk
     simp only [cond_true] at hk
     obtain ⟨r,b,h1,h2,h3⟩:=fopK_out R hF hk
     exact viaF hE hw h1 h2 h3
    | false=>
     rw [hF] at hk
     simp only [cond_false] at hk
     obtain ⟨v,h1,h2⟩:=zj7 R hk
     exact viaL hE hw h1 h2
 ·rename_i g w hg
  have hw:=guard_some R hg
  cases hE:isE o.op with
  | true=>
   rw [hE] at hk
   obtain ⟨c,h1,h2,h3⟩:=hk
   rw [h1] at hw
   cases c with
   | true=>
    obtain ⟨v,h',h4,h5⟩:=effK_out R (h2 rfl)
    exact viaE hE hw h5 h4
   | false=>exact viaN hw (h3 rfl)
  | false=>
   rw [hE] at hk
   simp only [cond_false] at hk
   cases hF:isF E o.op with
   | true=>
    rw [hF] at hk
    obtain ⟨c,h1,h2,h3⟩:=hk
    rw [h1] at hw
    cases c with
    | true=>
     obtain ⟨r,b,h4,h5,h6⟩:=fopK_out R hF (h2 rfl)
     exact viaF hE hw h4 h5 h6
    | false=>exact viaN hw (h3 rfl)
   | false=>
    rw [hF] at hk
    obtain ⟨c,h1,h2,h3⟩:=hk
    rw [h1] at hw
    cases c with
    | true=>
     obtain ⟨v,h4,h5⟩:=zj7 R (h2 rfl)
     exact viaL hE hw h4 h5
    | false=>exact viaN hw (h3 rfl)
theorem opsK_out {ops:List Oper}:∀ {l:List Oper} {t:Tm} {s:Sl} {h:Hp} {d:Dl} {k:Sl→Hp→Dl→Prop},RelT t s n→opsK (Pu E) E ops l s h d k →
  ∃ t' s' h' d',(∃ m,ziz E (zax E (exec E m)) ops l ⟨t,h,d,n⟩=some ⟨t',h',d',n⟩)∧RelT t' s' n∧k s' h' d'
 | [],t,s,h,d,k,R,hk=>⟨t,s,h,d,⟨0,rfl⟩,R,hk⟩
 | o::l,t,s,h,d,k,R,hk=>by
  rw [opsK_cons] at hk
  obtain ⟨t1,s1,h1,d1,a1,R1,hk⟩:=opK_out R hk
  obtain ⟨t2,s2,h2,d2,a2,R2,hk⟩:=opsK_out R1 hk
  exact ⟨t2,s2,h2,d2,ops_cons a1 a2,R2,hk⟩
def prOfK:PRk→PR→Prop
 | .skip,.skip=>True
 | .l v,.l u=>v=u
 | .f i b,.f _ c j=>i=j∧b=c
 | .g b w v,p=>∃ c,zgt b w=some c∧(c=true→p=.l v)∧(c=false→p=.skip)
 | _,_=>False
def pdOK:List (Nat × Oper × PRk)→List (Nat × Oper × PR)→Prop
 | [],[]=>True
 | x::r,y::q=>x.1=y.1∧x.2.1=y.2.1∧prOfK x.2.2 y.2.2∧pdOK r q
 | _,_=>False
theorem pdOK.filter (f:Nat→Bool):∀ {a:List (Nat × Oper × PRk)} {b:List (Nat × Oper × PR)},pdOK a b→pdOK (a.filter fun x=>f x.1) (b.filter fun x=>f x.1)
 | [],[],_=>trivial
 | [],_::_,h=>h.elim
 | _::_,[],h=>h.elim
 | x::r,y::q,h=>by
  obtain ⟨h1,h2,h3,h4⟩:=h
  rw [List.filter_cons,List.filter_cons,h1]
  split
  ·exact ⟨h1,h2,h3,h4.filter f⟩
  ·exact h4.filter f
theorem reK_out (R:RelT t s n) {x:Nat × Oper × PRk} {y:Nat × Oper × PR} {k:Prop} {d:Dl} (h2:x.2.1=y.2.1) (h3:prOfK x.2.2 y.2.2) (hk:reK (Pu E) s h x k):still E ⟨t,h,d,n⟩ y=true∧k:=by
 obtain ⟨i,o,r⟩:=x
 obtain ⟨j,o',q⟩:=y
 simp only at h2 h3
 subst h2
 cases r with
 | skip=>
  cases q <;> first | exact h3.elim | exact ⟨rfl,hk⟩
 | l v=>
  cases q <;> first | exact h3.elim | skip
  rename_i u
  cases h3
  simp only [reK] at hk
  simp only [still]
  cases hr:readsM o.op with
  | false=>rw [hr] at hk; exact ⟨rfl,hk⟩
  | true=>
   rw [hr] at hk
   obtain ⟨u,h4,h5,h6⟩:=zj7 R hk
   simp only [cond_true,h4]
   exact ⟨h5,h6⟩
 | f id b=>
  cases q <;> first | exact h3.elim | skip
  obtain ⟨h3,h4⟩:=h3
  subst h3 h4
  simp only [reK] at hk
  obtain ⟨⟨c,h5,h6⟩,h7⟩:=hk
  simp only [still]
  rw [h5]
  exact ⟨h6,h7⟩
 | g b w v=>
  obtain ⟨c,h4,h5,h6⟩:=h3
  simp only [reK] at hk
  cases c with
  | false=>
   obtain rfl:=h6 rfl
   refine ⟨rfl,?_⟩
   cases hr:readsM o.op with
   | false=>rw [hr] at hk; exact hk
   | true=>
    rw [hr] at hk
    obtain ⟨c',h7,_,h8⟩:=hk
    rw [h4] at h7
    cases h7
    exact h8 rfl
  | true=>
   obtain rfl:=h5 rfl
   simp only [still]
   cases hr:readsM o.op with
   | false=>rw [hr] at hk; exact ⟨rfl,hk⟩
   | true=>
    rw [hr] at hk
    obtain ⟨c',h7,h8,_⟩:=hk
    rw [h4] at h7
    cases h7
    obtain ⟨u,h9,h10,h11⟩:=zj7 R (h8 rfl)
    simp only [cond_true,h9]
    exact ⟨h10,h11⟩
theorem reAll_out (R:RelT t s n) {d:Dl}:∀ {a:List (Nat × Oper × PRk)} {b:List (Nat × Oper × PR)} {k:Prop},pdOK a b→reAll (Pu E) s h a k→b.all (still E ⟨t,h,d,n⟩)=true∧k
 | [],[],_,_,hk=>⟨rfl,hk⟩
 | [],_::_,_,h,_=>h.elim
 | _::_,[],_,h,_=>h.elim
 | x::r,y::q,k,hp,hk=>by
  obtain ⟨h1,h2,h3,h4⟩:=hp
  rw [reAll_cons] at hk
  obtain ⟨h5,h6⟩:=reK_out (d:=d) R h2 h3 hk
  obtain ⟨h7,h8⟩:=reAll_out R (d:=d) h4 h6
  exact ⟨by rw [List.all_cons,h5,h7]; rfl,h8⟩
theorem nK_out (R:RelT t s n) {ops:List Oper} {o:Oper} {k:PRk→V→Hp→Prop} {d:Dl} (hk:nK (Pu E) E ops o s h k):
  ∃ pk p v h',zjK E ops o ⟨t,h,d,n⟩=some p∧prOfK pk p∧k pk v h'∧∀ dst,St.take ⟨t,h,d,n⟩ dst p=St.put ⟨t,h,d,n⟩ dst v h':=by
 have go:za0 t ops o.guard=some true→(bif isF E o.op then fopK (Pu E) s h o.op (fun v h' b=>k (.f h.n b) v h') else lopK (Pu E) s h o.op fun v=>k (.l v) v h) →
   ∃ pk p v h',zjK E ops o ⟨t,h,d,n⟩=some p∧prOfK pk p∧k pk v h'∧∀ dst,St.take ⟨t,h,d,n⟩ dst p=St.put ⟨t,h,d,n⟩ dst v h':=by
  intro hw hk
  cases hF:isF E o.op with
  | true=>
   rw [hF] at hk
   obtain ⟨r,b,h1,h2,h3⟩:=fopK_out R hF hk
   exact ⟨.f h.n b,.f r b h.n,r.at h.n,h.new b,by rw [zjK]; simp only; rw [hw,Option.bind_some,prOf,h2,h1],⟨rfl,rfl⟩,h3,fun _=>rfl⟩
  | false=>
   rw [hF] at hk
   obtain ⟨v,h1,h2⟩:=zj7 R hk
   exact ⟨.l v,.l v,v,h,by rw [zjK]; simp only; rw [hw,Option.bind_some,prOf,h1],rfl,h2,fun _=>rfl⟩
 have no:za0 t ops o.guard=some false→k .skip zj h →
   ∃ pk p v h',zjK E ops o ⟨t,h,d,n⟩=some p∧prOfK pk p∧k pk v h'∧∀ dst,St.take ⟨t,h,d,n⟩ dst p=St.put ⟨t,h,d,n⟩ dst v h':=by
  intro hw hk
  exact ⟨.skip,.skip,zj,h,by rw [zjK]; simp only; rw [hw,Option.bind_some],trivial,hk,fun _=>rfl⟩
 unfold nK at hk
 split at hk
 ·exact hk.elim
 ·rename_i hg
  exact go (guard_none hg) hk
 ·rename_i g w hg
  have hw:=guard_some R hg
  cases hF:isF E o.op with
  | true=>
   rw [hF] at hk go
   simp only [cond_true] at hk go
   obtain ⟨c,h1,h2,h3⟩:=hk
   have hw':za0 t ops o.guard=some (c == w):=by rw [hw,h1]; rfl
   cases c with
   | true=>
    have h2:=h2 rfl
    cases w with
    | true=>exact go hw' h2
    | false=>exact no hw' h2
   | false=>
    have h3:=h3 rfl
    cases w with
    | true=>exact no hw' h3
    | false=>exact go hw' h3
  | false=>
   rw [hF] at hk
   obtain ⟨c,h1,h2,h3⟩:=hk
   rw [h1] at hw
   cases c with
   | true=>
    obtain ⟨v,h4,h5⟩:=zj7 R (h2 rfl)
    exact ⟨.g (nth s g) w v,.l v,v,h,by rw [zjK]; simp only; rw [hw,Option.bind_some,prOf,h4],⟨true,h1,fun _=>rfl,by simp⟩,h5,fun _=>rfl⟩
   | false=>exact ⟨.g (nth s g) w zj,.skip,zj,h,by rw [zjK]; simp only; rw [hw,Option.bind_some],⟨false,h1,by simp,fun _=>rfl⟩,h3 rfl,fun _=>rfl⟩
theorem eK_out (R:RelT t s n) {ops:List Oper} {o:Oper} {k:V→Hp→Prop} {d:Dl} (hk:eK (Pu E) ops o s h k):
  ∃ v h',k v h'∧∀ x,St.put ⟨t,h,d,n⟩ o.dst v h'=some x→∃ m,ziH E (zax E (exec E m)) ops o ⟨t,h,d,n⟩=some x:=by
 have go:za0 t ops o.guard=some true→effK (Pu E) s h o.op k→∃ v h',k v h'∧∀ x,St.put ⟨t,h,d,n⟩ o.dst v h'=some x→∃ m,ziH E (zax E (exec E m)) ops o ⟨t,h,d,n⟩=some x:=by
  intro hw hk
  obtain ⟨v,h',h1,h2⟩:=effK_out R hk
  refine ⟨v,h',h1,fun x hx=>?_⟩
  obtain ⟨m,h3⟩:=onNxs_some (h2 d o.dst x hx)
  exact ⟨m,by rw [ziH]; simp only; rw [hw,Option.bind_some]; exact h3⟩
 unfold eK at hk
 split at hk
 ·exact hk.elim
 ·rename_i hg
  exact go (guard_none hg) hk
 ·rename_i g w hg
  have hw:=guard_some R hg
  obtain ⟨c,h1,h2,h3⟩:=hk
  rw [h1] at hw
  cases c with
  | true=>exact go hw (h2 rfl)
  | false=>exact ⟨zj,h,h3 rfl,fun x hx=>⟨0,by rw [ziH]; simp only; rw [hw,Option.bind_some]; exact hx⟩⟩
theorem leftK_eq (m:Nat):∀ (l:List (Nat × Oper × PRk)) (k:List (Nat × Oper × PRk)→Prop),leftK m l k=k (l.filter fun x=>!Nat.testBit m x.1)
 | [],_=>rfl
 | x::r,k=>by
  have e:leftK m (x::r) k=Bool.rec (motive:=fun _=>Prop) (leftK m r fun r=>k (x::r)) (leftK m r k) (Nat.testBit m x.1):=rfl
  rw [e,leftK_eq m r,leftK_eq m r,List.filter_cons]
  cases Nat.testBit m x.1 <;> rfl
theorem zf7 {ops:List Oper}:∀ {l:List PStep} {pd:List (Nat × Oper × PRk)} {qd:List (Nat × Oper × PR)} {t:Tm} {s:Sl} {h:Hp} {d:Dl} {k:Sl→Hp→Dl→Prop},RelT t s n→pdOK pd qd→planK (Pu E) E ops l pd s h d k →
  ∃ t' s' h' d',(∃ m,zbN E (zax E (exec E m)) ops l qd ⟨t,h,d,n⟩=some ⟨t',h',d',n⟩)∧RelT t' s' n∧k s' h' d'
 | [],_,_,t,s,h,d,_,R,_,hk=>⟨t,s,h,d,⟨0,rfl⟩,R,hk⟩
 | .n i o::l,pd,qd,t,s,h,d,k,R,hp,hk=>by
  rw [planK_n] at hk
  obtain ⟨pk,p,v,h1,a1,a2,a3,a4⟩:=nK_out (d:=d) R hk
  obtain ⟨t1,s1,b1,R1,hk⟩:=zh8 R a3 h h1 d
  rw [← a4] at b1
  cases pk with
  | f id b=>
   obtain ⟨c1,c2⟩:=reAll_out R1 (d:=d) hp hk
   cases p with
   | f r c j=>
    obtain ⟨t2,s2,h2,d2,e1,R2,hk⟩:=zf7 (pd:=(i,o,.f id b)::pd) (qd:=(i,o,.f r c j)::qd) R1 ⟨rfl,rfl,a2,hp⟩ c2
    exact ⟨t2,s2,h2,d2,plan_n a1 b1 c1 e1,R2,hk⟩
   | skip=>exact a2.elim
   | l u=>exact a2.elim
  | l v=>
   cases p with
   | l u=>
    obtain ⟨t2,s2,h2,d2,e1,R2,hk⟩:=zf7 (pd:=(i,o,.l v)::pd) (qd:=(i,o,.l u)::qd) R1 ⟨rfl,rfl,a2,hp⟩ hk
    exact ⟨t2,s2,h2,d2,plan_n a1 b1 rfl e1,R2,hk⟩
   | skip=>exact a2.elim
   | f r c j=>exact a2.elim
  | g b w u=>
   obtain ⟨c,c1,c2,c3⟩:=a2
   cases c with
   | true=>
    obtain rfl:=c2 rfl
    obtain ⟨t2,s2,h2,d2,e1,R2,hk⟩:=zf7 (pd:=(i,o,.g b w u)::pd) (qd:=(i,o,.l u)::qd) R1 ⟨rfl,rfl,⟨true,c1,fun _=>rfl,by simp⟩,hp⟩ hk
    exact ⟨t2,s2,h2,d2,plan_n a1 b1 rfl e1,R2,hk⟩
   | false=>
    obtain rfl:=c3 rfl
    obtain ⟨t2,s2,h2,d2,e1,R2,hk⟩:=zf7 (pd:=(i,o,.g b w u)::pd) (qd:=(i,o,.skip)::qd) R1 ⟨rfl,rfl,⟨false,c1,by simp,fun _=>rfl⟩,hp⟩ hk
    exact ⟨t2,s2,h2,d2,plan_n a1 b1 rfl e1,R2,hk⟩
  | skip=>
   cases p with
   | skip=>
    obtain ⟨t2,s2,h2,d2,e1,R2,hk⟩:=zf7 (pd:=(i,o,.skip)::pd) (qd:=(i,o,.skip)::qd) R1 ⟨rfl,rfl,a2,hp⟩ hk
    exact ⟨t2,s2,h2,d2,plan_n a1 b1 rfl e1,R2,hk⟩
   | l u=>exact a2.elim
   | f r c j=>exact a2.elim
 | .e i o m::l,pd,qd,t,s,h,d,k,R,hp,hk=>by
  rw [planK_e] at hk
  obtain ⟨v,h1,a1,a2⟩:=eK_out (d:=d) R hk
  obtain ⟨t1,s1,b1,R1,hk⟩:=zh8 R a1 h h1 d
  have hp':=hp.filter (fun x=>!Nat.testBit m x)
  rw [leftK_eq] at hk
  obtain ⟨c1,c2⟩:=reAll_out R1 (d:=d) hp' hk
  obtain ⟨t2,s2,h2,d2,e1,R2,hk⟩:=zf7 R1 hp' c2
  exact ⟨t2,s2,h2,d2,plan_e (a2 _ b1) c1 e1,R2,hk⟩
theorem forceN_eq (n:Nat) (k:Nat→Prop):forceN n k=k n:=by cases n <;> rfl
theorem forceP_eq:∀ (l:List PStep) (k:List PStep→Prop),forceP l k=k l
 | [],_=>rfl
 | .n i o::r,k=>by rw [forceP,forceN_eq,forceP_eq r]
 | .e i o m::r,k=>by rw [forceP,forceN_eq,forceN_eq,forceP_eq r]
theorem regK_out (R:RelT t s n) {ops:List Oper} {draw:Bool} {d:Dl} {k:Sl→Hp→Dl→Prop} (hk:regK (Pu E) E ops draw s h d k):
  ∃ t' s' h' d',(∃ m,zhl E (zax E (exec E m)) ops draw ⟨t,h,d,n⟩=some ⟨t',h',d',n⟩)∧RelT t' s' n∧k s' h' d':=by
 cases draw with
 | false=>exact opsK_out R hk
 | true=>
  simp only [regK] at hk
  split at hk
  ·rename_i pl hpl
   rw [forceP_eq] at hk
   obtain ⟨t',s',h',d',⟨m,h1⟩,h2⟩:=zf7 (pd:=[]) (qd:=[]) R trivial hk
   exact ⟨t',s',h',d',⟨m,by rw [zhl,hpl]; exact h1⟩,h2⟩
  ·exact hk.elim
def sqT (E:Env) (k:Ex→St→Prop) (b:Code):Ex→St→Prop:=fun e s=>match e with
 | .normal=>∃ e2 s2,Xs E b s (e2,s2)∧k e2 s2
 | .exit j=>k (.exit j) s
 | .ret=>k .ret s
def blT (id:Nat) (k:Ex→St→Prop):Ex→St→Prop:=fun e s=>match e with
 | .exit j=>bif Nat.beq j id then k .normal s else k (.exit j) s
 | .normal=>k .normal s
 | .ret=>k .ret s
def RAt (E:Env):Code→List Bool→(Ex→St→Prop)→St→Prop
 | c,[],k,s=>∃ e s',Xs E c s (e,s')∧k e s'
 | .seq a b,false::r,k,s=>RAt E a r (sqT E k b) s
 | .seq _ b,true::r,k,s=>RAt E b r k s
 | .cond _ a _,false::r,k,s=>RAt E a r k s
 | .cond _ _ b,true::r,k,s=>RAt E b r k s
 | .block id c,false::r,k,s=>RAt E c r (blT id k) s
 | .loop c,false::r,k,s=>RAt E c r (sqT E k (.loop c)) s
 | _,_,_,_=>False
theorem RAt.nil (c:Code) (k:Ex→St→Prop) (s:St):RAt E c [] k s = ∃ e s',Xs E c s (e,s')∧k e s':=by cases c <;> rfl
def LabOK (E:Env) (n:Nat) (lab:Lb) (c:Code) (π:List Bool) (k:Ex→St→Prop):Prop:=
 ∀ (r:List Bool) (s:Sl) (h:Hp) (d:Dl),lab (r.reverse++π) s h d→∀ t,RelT t s n→RAt E c r k ⟨t,h,d,n⟩
theorem LabOK.step {lab:Lb} {c c':Code} {π:List Bool} {b:Bool} {k k':Ex→St→Prop} (H:LabOK E n lab c π k) (he:∀ r s,RAt E c (b::r) k s=RAt E c' r k' s):LabOK E n lab c' (b::π) k':=by
 intro r s h d hl t R
 rw [← he]
 exact H (b::r) s h d (by simpa using hl) t R
def KxOK (n:Nat) (kL:Kx) (kT:Ex→St→Prop):Prop:=∀ e s h d,kL e s h d→∀ t,RelT t s n→kT e ⟨t,h,d,n⟩
theorem KxOK.bl {kL:Kx} {kT:Ex→St→Prop} (H:KxOK n kL kT) (id:Nat):KxOK n (blK id kL) (blT id kT):=by
 intro e s h d hk t R
 cases e with
 | normal=>exact H _ _ _ _ hk t R
 | ret=>exact H _ _ _ _ hk t R
 | exit j=>
  simp only [blK] at hk
  simp only [blT]
  cases hj:Nat.beq j id with
  | true=>rw [hj] at hk; exact H _ _ _ _ hk t R
  | false=>rw [hj] at hk; exact H _ _ _ _ hk t R
theorem Kc_out {cut:List Bool→Bool} {lab:Lb}:∀ (c:Code) (π:List Bool) (kT:Ex→St→Prop) (kL:Kx),LabOK E n lab c π kT→KxOK n kL kT →
  ∀ {s:Sl} {h:Hp} {d:Dl} {t:Tm},RelT t s n→Kc (Pu E) E cut lab c π s h d kL→∃ e s',Xs E c ⟨t,h,d,n⟩ (e,s')∧kT e s'
 | .skip,π,kT,kL,HL,HK,s,h,d,t,R,hk=>⟨_,_,Xs.skip _,HK _ _ _ _ hk t R⟩
 | .exit id,π,kT,kL,HL,HK,s,h,d,t,R,hk=>⟨_,_,Xs.exit _ _,HK _ _ _ _ hk t R⟩
 | .ret,π,kT,kL,HL,HK,s,h,d,t,R,hk=>⟨_,_,Xs.ret _,HK _ _ _ _ hk t R⟩
 | .region id ops draw,π,kT,kL,HL,HK,s,h,d,t,R,hk=>by
  obtain ⟨t',s',h',d',h1,R',h2⟩:=regK_out R hk
  exact ⟨_,_,Xs.region h1,HK _ _ _ _ h2 t' R'⟩
 | .seq a b,π,kT,kL,HL,HK,s,h,d,t,R,hk=>by
  have HLa:LabOK E n lab a (false::π) (sqT E kT b):=HL.step fun _ _=>rfl
  have HLb:LabOK E n lab b (true::π) kT:=HL.step fun _ _=>rfl
  have HKa:KxOK n (sqK kL fun s' h' d'=>bif cut (true::π) then lab (true::π) s' h' d' else Kc (Pu E) E cut lab b (true::π) s' h' d' kL) (sqT E kT b):=by
   intro e s h d hk t R
   cases e with
   | exit j=>exact HK _ _ _ _ hk t R
   | ret=>exact HK _ _ _ _ hk t R
   | normal=>
    simp only [sqK] at hk
    simp only [sqT]
    cases hc:cut (true::π) with
    | true=>
     rw [hc] at hk
     have:=HLb [] s h d hk t R
     rwa [RAt.nil] at this
    | false=>rw [hc] at hk; exact Kc_out b (true::π) kT kL HLb HK R hk
  obtain ⟨e,s',h1,h2⟩:=Kc_out a (false::π) _ _ HLa HKa R hk
  cases e with
  | normal=>
   obtain ⟨e2,s2,h3,h4⟩:=h2
   exact ⟨e2,s2,h1.seq h3,h4⟩
  | exit j=>exact ⟨_,_,h1.seq_stop (by simp),h2⟩
  | ret=>exact ⟨_,_,h1.seq_stop (by simp),h2⟩
 | .cond c a b,π,kT,kL,HL,HK,s,h,d,t,R,hk=>by
  have HLa:LabOK E n lab a (false::π) kT:=HL.step fun _ _=>rfl
  have HLb:LabOK E n lab b (true::π) kT:=HL.step fun _ _=>rfl
  obtain ⟨v,h1,x,rfl,h2,h3⟩:=zag R hk
  cases x with
  | true=>
   obtain ⟨e,s',h4,h5⟩:=Kc_out a (false::π) _ _ HLa HK R (h2 rfl)
   exact ⟨e,s',Xs.cond h1 h4,h5⟩
  | false=>
   obtain ⟨e,s',h4,h5⟩:=Kc_out b (true::π) _ _ HLb HK R (h3 rfl)
   exact ⟨e,s',Xs.cond h1 h4,h5⟩
 | .block id c,π,kT,kL,HL,HK,s,h,d,t,R,hk=>by
  have HLc:LabOK E n lab c (false::π) (blT id kT):=HL.step fun _ _=>rfl
  obtain ⟨e,s',h1,h2⟩:=Kc_out c (false::π) _ _ HLc (HK.bl id) R hk
  have:=Xs.block (id:=id) h1
  cases e with
  | normal=>exact ⟨_,_,this,h2⟩
  | ret=>exact ⟨_,_,this,h2⟩
  | exit j=>
   simp only [blT] at h2
   cases hj:Nat.beq j id with
   | true=>rw [hj] at h2; simp only [hj,cond_true] at this; exact ⟨_,_,this,h2⟩
   | false=>rw [hj] at h2; simp only [hj,cond_false] at this; exact ⟨_,_,this,h2⟩
 | .loop c,π,kT,kL,HL,HK,s,h,d,t,R,hk=>by
  have:=HL [] s h d hk t R
  rwa [RAt.nil] at this
 | .scope _,_,_,_,_,_,_,_,_,_,_,hk=>hk.elim
 | .rangeFunc ..,_,_,_,_,_,_,_,_,_,_,hk=>hk.elim
 | .goto _,_,_,_,_,_,_,_,_,_,_,hk=>hk.elim
 | .label _,_,_,_,_,_,_,_,_,_,_,hk=>hk.elim
 | .refuse _,_,_,_,_,_,_,_,_,_,_,hk=>hk.elim
end
end Go.Proofs.YtbchdlelmkmagaaGreatDoor.VM
namespace Go.Proofs.YtbchdlelmkmagaaGreatDoor.VM
open Go
noncomputable section
variable {E:Env} {t:Tm} {s:Sl} {n:Nat} {h:Hp}
theorem sq_ok {cut:List Bool→Bool} {lab:Lb} {b:Code} {π:List Bool} {kT:Ex→St→Prop} {kL:Kx} (HLb:LabOK E n lab b (true::π) kT) (HK:KxOK n kL kT):
  KxOK n (sqK kL fun s' h' d'=>bif cut (true::π) then lab (true::π) s' h' d' else Kc (Pu E) E cut lab b (true::π) s' h' d' kL) (sqT E kT b):=by
 intro e s h d hk t R
 cases e with
 | exit j=>exact HK _ _ _ _ hk t R
 | ret=>exact HK _ _ _ _ hk t R
 | normal=>
  simp only [sqK] at hk
  simp only [sqT]
  cases hc:cut (true::π) with
  | true=>
   rw [hc] at hk
   have:=HLb [] s h d hk t R
   rwa [RAt.nil] at this
  | false=>rw [hc] at hk; exact Kc_out b (true::π) kT kL HLb HK R hk
theorem lp_ok {lab:Lb} {c:Code} {π:List Bool} {kT:Ex→St→Prop} {kL:Kx} (HL:LabOK E n lab (.loop c) π kT) (HK:KxOK n kL kT):KxOK n (sqK kL (lab π)) (sqT E kT (.loop c)):=by
 intro e s h d hk t R
 cases e with
 | exit j=>exact HK _ _ _ _ hk t R
 | ret=>exact HK _ _ _ _ hk t R
 | normal=>
  have:=HL [] s h d hk t R
  rwa [RAt.nil] at this
theorem KAt_out {cut:List Bool→Bool} {lab:Lb}:∀ (path:List Bool) (c:Code) (π:List Bool) (kT:Ex→St→Prop) (kL:Kx),LabOK E n lab c π kT→KxOK n kL kT →
  ∀ {s:Sl} {h:Hp} {d:Dl} {t:Tm},RelT t s n→KAt (Pu E) E cut lab c π path kL s h d→RAt E c path kT ⟨t,h,d,n⟩:=by
 intro path
 induction path with
 | nil=>
  intro c π kT kL HL HK s h d t R hk
  rw [RAt.nil]
  cases c with
  | loop b=>
   obtain ⟨e,s',h1,h2⟩:=Kc_out b (false::π) (sqT E kT (.loop b)) _ (HL.step fun _ _=>rfl) (lp_ok HL HK) R hk
   cases e with
   | normal=>
    obtain ⟨e2,s2,h3,h4⟩:=h2
    exact ⟨e2,s2,h1.loop h3,h4⟩
   | exit j=>exact ⟨_,_,h1.loop_stop (by simp),h2⟩
   | ret=>exact ⟨_,_,h1.loop_stop (by simp),h2⟩
  | _=>exact Kc_out (cut:=cut) _ π kT kL HL HK R hk
 | cons b r ih=>
  intro c π kT kL HL HK s h d t R hk
  cases c <;> cases b <;> first | exact hk.elim | skip
  case seq.false a b=>exact ih a (false::π) (sqT E kT b) _ (HL.step fun _ _=>rfl) (sq_ok (HL.step fun _ _=>rfl) HK) R hk
  case seq.true a b=>exact ih b (true::π) kT _ (HL.step fun _ _=>rfl) HK R hk
  case cond.false c a b=>exact ih a (false::π) kT _ (HL.step fun _ _=>rfl) HK R hk
  case cond.true c a b=>exact ih b (true::π) kT _ (HL.step fun _ _=>rfl) HK R hk
  case block.false id c=>exact ih c (false::π) (blT id kT) _ (HL.step fun _ _=>rfl) (HK.bl id) R hk
  case loop.false c=>exact ih c (false::π) (sqT E kT (.loop c)) _ (HL.step fun _ _=>rfl) (lp_ok HL HK) R hk
def finT (E:Env) (fn:Func) (Q:V→Hp→Prop):Ex→St→Prop:=fun e s=>∃ v h',finOf E fn (some (e,s))=some (v,h')∧Q v h'
theorem resK_out (R:RelT t s n) {d:Dl}:∀ {l:List ResultVar} {k:List V→Prop},resK (Pu E) s h l k→∃ vs,resV E ⟨t,h,d,n⟩ l=some vs∧k vs
 | [],k,hk=>⟨[],rfl,hk⟩
 | .tmp i::l,k,hk=>by
  obtain ⟨vs,h1,h2⟩:=resK_out R (d:=d) (l:=l) hk
  exact ⟨_,by rw [resV,h1,Option.bind_some,R.at_],h2⟩
 | .cell a ty::l,k,hk=>by
  obtain ⟨v,h0,hk⟩:=hk
  obtain ⟨vs,h1,h2⟩:=resK_out R (d:=d) (l:=l) hk
  exact ⟨_,by rw [resV,R.at_,h0,Option.bind_some,h1,Option.bind_some],h2⟩
theorem finK_ok (fn:Func) (Q:V→Hp→Prop):KxOK n (finK (Pu E) fn Q) (finT E fn Q):=by
 intro e s h d hk t R
 have go:∀ (hi:zhd E d=true) (e:Ex) (he:e=.normal∨e=.ret),resK (Pu E) s h fn.results.toList (fun l=>Q (match l with | [v]=>v | l=>.tup l) h)→finT E fn Q e ⟨t,h,d,n⟩:=by
  intro hi e he hk
  obtain ⟨vs,h1,h2⟩:=resK_out R (d:=d) hk
  refine ⟨_,h,?_,h2⟩
  have:finOf E fn (some (e,⟨t,h,d,n⟩))=endOf E fn ⟨t,h,d,n⟩:=by
   rcases he with rfl | rfl <;> simp only [finOf,hi,cond_true]
  rw [this,endOf,h1,Option.bind_some]
  cases vs with
  | nil=>rfl
  | cons v r=>cases r <;> rfl
 have both:∀ e,e=.normal∨e=.ret→finK (Pu E) fn Q e s h d→finT E fn Q e ⟨t,h,d,n⟩:=by
  intro e he hk
  cases d with
  | nil=>rcases he with rfl | rfl <;> exact go rfl _ (by simp) hk
  | cons x r=>rcases he with rfl | rfl <;> exact go hk.1 _ (by simp) hk.2
 cases e with
 | exit j=>exact hk.elim
 | normal=>exact both _ (.inl rfl) hk
 | ret=>exact both _ (.inr rfl) hk
def Lab (E:Env) (fn:Func) (c:Code) (Q:V→Hp→Prop):Lb:=fun π s h d=>∀ t,RelT t s fn.ntmps→RAt E c π.reverse (finT E fn Q) ⟨t,h,d,fn.ntmps⟩
theorem lab_ofX {fn:Func} {c:Code} {Q:V→Hp→Prop} {cut:List Bool→Bool} {lab:Lb} (hl:∀ π s h d,lab π s h d→s.length=fn.ntmps→Lab E fn c Q π s h d) (path:List Bool) {d:Dl} (hk:KAt (Pu E) E cut lab c [] path (finK (Pu E) fn Q) s h d):Lab E fn c Q path.reverse s h d:=by
 intro t R
 rw [List.reverse_reverse]
 refine KAt_out path c [] _ _ ?_ (finK_ok fn Q) R hk
 intro r s h d h1 t R1
 have:=hl _ _ _ _ h1 R1.len t R1
 simpa using this
theorem nth_append:∀ (l:List V) (m i:Nat),nth (l++List.replicate m zj) i=(l[i]?).getD zj
 | [],m,i=>by
  have:∀ m i,nth (List.replicate m zj) i=zj:=by
   intro m
   induction m with
   | zero=>intro i; rfl
   | succ m ih=>intro i; cases i with
    | zero=>rfl
    | succ i=>exact ih i
  simp [this]
 | v::l,m,0=>by simp [nth_zero]
 | v::l,m,i+1=>by simp [nth_succ,nth_append l m i]
theorem ans_of {f:Nat} {fn:Func} {c:Code} {al:List V} {Q:V→Hp→Prop} (hk:E.hook f=none) (hf:E.fn.get f=some fn) (hb:fn.body=some c) (hl0:Nat.ble al.length fn.ntmps=true) (H:Lab E fn c Q [] (al++List.replicate (fn.ntmps - al.length) zj) h []):Ans E f al h Q:=by
 have hl:=Nat.le_of_ble_eq_true hl0
 have R:RelT (T.ofL (al.map some) 0 .leaf) (al++List.replicate (fn.ntmps - al.length) zj) fn.ntmps:=by
  refine ⟨by simp; omega,fun i=>?_⟩
  rw [nth_append,T.get_ofL,T.get_leaf]
  split
  ·rename_i hi
   simp at hi
   simp [hi]
  ·rename_i hi
   simp at hi
   simp [List.getElem?_eq_none hi]
 have:=H _ R
 rw [List.reverse_nil,RAt.nil] at this
 obtain ⟨e,s',hx,v,h',h1,h2⟩:=this
 exact ⟨v,h',Cs.of hk hf hb hl hx h1,h2⟩
theorem eqB_eq:∀ {a b:List Bool},eqB a b=true→a=b
 | [],[],_=>rfl
 | [],_::_,h=>by cases h
 | true::_,[],h=>by cases h
 | false::_,[],h=>by cases h
 | true::a,true::b,h=>by rw [eqB_eq (a:=a) (b:=b) h]
 | false::a,false::b,h=>by rw [eqB_eq (a:=a) (b:=b) h]
 | true::a,false::b,h=>by cases h
 | false::a,true::b,h=>by cases h
def nths (s:Sl):Nat→Nat→Sl
 | 0,_=>[]
 | n+1,i=>nth s i::nths s n (i+1)
theorem nths_cons (v:V) (l:Sl):∀ n i,nths (v::l) n (i+1)=nths l n i
 | 0,_=>rfl
 | n+1,i=>by rw [nths,nths,nths_cons v l n (i+1)]; rfl
theorem nth_all:∀ {s:Sl} {n:Nat},s.length=n→s=nths s n 0
 | [],_,h=>by subst h; rfl
 | v::l,_,h=>by
  subst h
  rw [List.length_cons,nths,nths_cons,← nth_all (s:=l) rfl]
  rfl
end
end Go.Proofs.YtbchdlelmkmagaaGreatDoor.VM
namespace Go.Proofs.YtbchdlelmkmagaaGreatDoor.VM
open Go
noncomputable section
@[reducible] def syZ:Sy:=⟨fun _=>0,fun _=>[],[],fun g=>(g,0)⟩
attribute [local instance] syZ
variable {E:Env}
theorem ilt_dec (a b:Int):ilt a b=decide (a < b):=by
 cases a <;> cases b <;> simp only [ilt] <;> rw [Bool.eq_iff_iff] <;> simp [Nat.blt_eq] <;> omega
theorem zet (a b:Int):ieq a b=decide (a=b):=by
 cases a <;> cases b <;> simp only [ieq] <;> rw [Bool.eq_iff_iff] <;> simp [Nat.beq_eq] <;> omega
theorem zbc (k:IntKind):keq k k=true:=by cases k <;> rfl
theorem zci:∀ (a b:List Nat),seq a b=decide (a=b)
 | [],[]=>rfl
 | [],_::_=>rfl
 | _::_,[]=>rfl
 | a::x,b::y=>by
  rw [seq,zci x y]
  by_cases h:a=b
  ·subst h; simp
  ·have:Nat.beq a b=false:=by rw [Bool.eq_false_iff]; simpa [Nat.beq_eq] using h
   simp [this,h]
theorem zbV (n:Nat):natOf (n:Int)=some n:=rfl
theorem ziU (c:Bool) (a b:Unit→Prop):(Pu E).cond (.bool c) a b↔(c=true→a ())∧(c=false→b ()):=
 ⟨fun ⟨x,h1,h2⟩=>by cases h1; exact h2,fun h=>⟨c,rfl,h⟩⟩
theorem zc (a b:Unit→Prop):(Pu E).cond (.bool true) a b↔a ():=by simp [ziU]
theorem zb (a b:Unit→Prop):(Pu E).cond (.bool false) a b↔b ():=by simp [ziU]
theorem zi (p:Prop) [Decidable p] (a b:Unit→Prop):(Pu E).cond (.bool (decide p)) a b↔(p→a ())∧(¬ p→b ()):=by simp [ziU]
theorem zjI (p:Prop) [Decidable p] (a b:Unit→Prop):(Pu E).cond (.bool (!decide p)) a b↔(¬ p→a ())∧(p→b ()):=by simp [ziU]
theorem zjA (op:BinOp) (t:Nat) (cx cy:Bool) (k j:IntKind) (a b:Int) (q:V→Prop):(Pu E).bin op t cx cy (.int k a) (.int j b) q↔∃ v,vbin op (.int k a) (.int j b)=some v∧q v:=Iff.rfl
theorem zT {α:Type} {a:α} {q:α→Prop}:(∃ v,some a=some v∧q v)↔q a:=by simp
theorem pu_add (t:Nat) (cx cy:Bool) (k:IntKind) (a b:Int) (q:V→Prop):(Pu E).bin .add t cx cy (.int k a) (.int k b) q↔q (.int k (k.wrap (a+b))):=by
 rw [zjA]; simp only [vbin,zbc,cond_true,zbn,zT]
theorem zdf (t:Nat) (cx cy:Bool) (k:IntKind) (a b:Int) (q:V→Prop):(Pu E).bin .sub t cx cy (.int k a) (.int k b) q↔q (.int k (k.wrap (a - b))):=by
 rw [zjA]; simp only [vbin,zbc,cond_true,zbn,zT]
theorem pu_mul (t:Nat) (cx cy:Bool) (k:IntKind) (a b:Int) (q:V→Prop):(Pu E).bin .mul t cx cy (.int k a) (.int k b) q↔q (.int k (k.wrap (a * b))):=by
 rw [zjA]; simp only [vbin,zbc,cond_true,zbn,zT]
theorem pu_quo (t:Nat) (cx cy:Bool) (k:IntKind) (a b:Int) (hb:b ≠ 0) (q:V→Prop):(Pu E).bin .quo t cx cy (.int k a) (.int k b) q↔q (.int k (k.wrap (a.tdiv b))):=by
 rw [zjA]; simp only [vbin,zbc,cond_true,zbn,zet,hb,decide_false,cond_false,zT]
theorem pu_rem (t:Nat) (cx cy:Bool) (k:IntKind) (a b:Int) (hb:b ≠ 0) (q:V→Prop):(Pu E).bin .rem t cx cy (.int k a) (.int k b) q↔q (.int k (a.tmod b)):=by
 rw [zjA]; simp only [vbin,zbc,cond_true,zbn,zet,hb,decide_false,cond_false,zT]
theorem zak (t:Nat) (cx cy:Bool) (k:IntKind) (a b:Int) (q:V→Prop):(Pu E).bin .lss t cx cy (.int k a) (.int k b) q↔q (.bool (decide (a < b))):=by
 rw [zjA]; simp only [vbin,zbc,cond_true,ilt_dec,zT]
theorem zgc (t:Nat) (cx cy:Bool) (k:IntKind) (a b:Int) (q:V→Prop):(Pu E).bin .gtr t cx cy (.int k a) (.int k b) q↔q (.bool (decide (b < a))):=by
 rw [zjA]; simp only [vbin,zbc,cond_true,ilt_dec,zT]
theorem not_lt_dec (a b:Int):(!decide (b < a))=decide (a≤b):=by rw [Bool.eq_iff_iff]; simp
theorem zhL (t:Nat) (cx cy:Bool) (k:IntKind) (a b:Int) (q:V→Prop):(Pu E).bin .leq t cx cy (.int k a) (.int k b) q↔q (.bool (decide (a≤b))):=by
 rw [zjA]; simp only [vbin,zbc,cond_true,ilt_dec,not_lt_dec,zT]
theorem pu_geq (t:Nat) (cx cy:Bool) (k:IntKind) (a b:Int) (q:V→Prop):(Pu E).bin .geq t cx cy (.int k a) (.int k b) q↔q (.bool (decide (b≤a))):=by
 rw [zjA]; simp only [vbin,zbc,cond_true,ilt_dec,not_lt_dec,zT]
theorem zcJ (t:Nat) (cx cy:Bool) (k:IntKind) (a b:Int) (q:V→Prop):(Pu E).bin .eql t cx cy (.int k a) (.int k b) q↔q (.bool (decide (a=b))):=by
 rw [zjA]; simp only [vbin,zbc,cond_true,zet,zT]
theorem pu_neq (t:Nat) (cx cy:Bool) (k:IntKind) (a b:Int) (q:V→Prop):(Pu E).bin .neq t cx cy (.int k a) (.int k b) q↔q (.bool (!decide (a=b))):=by
 rw [zjA]; simp only [vbin,zbc,cond_true,zet,zT]
theorem zaE (b:Bool) (q:V→Prop):(Pu E).un .not (.bool b) q↔q (.bool (!b)):=by
 show (∃ v,vun .not (.bool b)=some v∧q v)↔_
 simp only [vun,zT]
theorem zbj (t:Nat) (cx cy:Bool) (a b:List Nat) (q:V→Prop):(Pu E).bin .eql t cx cy (.str a) (.str b) q↔q (.bool (decide (a=b))):=by
 show (∃ v,vbin .eql (.str a) (.str b)=some v∧q v)↔_
 simp only [vbin,zci,zT]
theorem pu_sneq (t:Nat) (cx cy:Bool) (a b:List Nat) (q:V→Prop):(Pu E).bin .neq t cx cy (.str a) (.str b) q↔q (.bool (!decide (a=b))):=by
 show (∃ v,vbin .neq (.str a) (.str b)=some v∧q v)↔_
 simp only [vbin,zci,zT]
theorem pu_slss (t:Nat) (cx cy:Bool) (a b:List Nat) (q:V→Prop):(Pu E).bin .lss t cx cy (.str a) (.str b) q↔q (.bool (slt a b)):=by
 show (∃ v,vbin .lss (.str a) (.str b)=some v∧q v)↔_
 simp only [vbin,zT]
theorem pu_sgeq (t:Nat) (cx cy:Bool) (a b:List Nat) (q:V→Prop):(Pu E).bin .geq t cx cy (.str a) (.str b) q↔q (.bool (!slt a b)):=by
 show (∃ v,vbin .geq (.str a) (.str b)=some v∧q v)↔_
 simp only [vbin,zT]
theorem pu_sadd (t:Nat) (cx cy:Bool) (a b:List Nat) (h:a.length+b.length≤1048576) (q:V→Prop):(Pu E).bin .add t cx cy (.str a) (.str b) q↔q (.str (a++b)):=by
 show (∃ v,vbin .add (.str a) (.str b)=some v∧q v)↔_
 simp only [vbin,Nat.ble_eq_true_of_le h,cond_true,zT]
theorem pu_sidx (t:Nat) (i:TI) (ht:E.ty.get t=some i) (hk:i.k=.str) (s:List Nat) (k:IntKind) (n:Nat) (hn:n < s.length) (q:V→Prop):(Pu E).index t (.str s) (.int k n) q↔q (.int .u8 (s[n]:Nat)):=by
 show (∃ v,vindex E t (.str s) (.int k n)=some v∧q v)↔_
 simp only [vindex,zbV,ht,Option.bind_some,hk,List.getElem?_eq_getElem hn,zT]
 rfl
theorem pu_slen (t:TypeId) (i:TI) (h:Hp) (ht:E.ty.get t=some i) (hk:i.k=.str) (s:List Nat) (q:V→Prop):(Pu E).lbui h #[t] .len [.str s] q↔q (.int .i64 s.length):=by
 show (∃ v,zdV E h #[t] .len [.str s]=some v∧q v)↔_
 have:(#[t]:Array TypeId)[0]? = some t:=rfl
 simp only [zdV,bLen,vlen,this,ht,Option.bind_some,hk,zbn,zT]
 rfl
theorem bound_nat (n most d:Nat) (k:IntKind) (h:n≤most):bound (some (.int k n)) most d=some n:=by
 simp only [bound,zbV,Option.bind_some,Nat.ble_eq_true_of_le h,cond_true]
theorem zln (h:Hp) (s d:Nat) (i j:TI) (k k':IntKind) (hs:E.ty.get s=some i) (hd:E.ty.get d=some j) (hj:j.k=.int k) (n:Int) (q:V→Prop):(Pu E).conv h s d (.int k' n) q↔q (.int k (k.wrap n)):=by
 show (∃ v,vconv E h s d (.int k' n)=some v∧q v)↔_
 simp only [vconv,hs,hd,Option.bind_some,hj,zbn,zT]
end
end Go.Proofs.YtbchdlelmkmagaaGreatDoor.VM
namespace Go.Proofs.YtbchdlelmkmagaaGreatDoor.VM
open Go
noncomputable section
attribute [local instance] syZ
variable {E:Env}
def IsSl (E:Env) (t e:Nat):Prop:=∃ i,E.ty.get t=some i∧i.k=.sl e
theorem isSl {t e:Nat} (h:(E.ty.get t).map (·.k)=some (.sl e)):IsSl E t e:=by
 obtain ⟨i,h1,h2⟩:=Option.map_eq_some_iff.1 h; exact ⟨i,h1,h2⟩
def IsStr (E:Env) (t:Nat):Prop:=∃ i,E.ty.get t=some i∧i.k=.str
theorem isStr_ {t:Nat} (h:(E.ty.get t).map (·.k)=some .str):IsStr E t:=by
 obtain ⟨i,h1,h2⟩:=Option.map_eq_some_iff.1 h; exact ⟨i,h1,h2⟩
def IsInt (E:Env) (t:Nat) (k:IntKind):Prop:=∃ i,E.ty.get t=some i∧i.k=.int k
theorem isInt {t:Nat} {k:IntKind} (h:(E.ty.get t).map (·.k)=some (.int k)):IsInt E t k:=by
 obtain ⟨i,h1,h2⟩:=Option.map_eq_some_iff.1 h; exact ⟨i,h1,h2⟩
structure El (E:Env) (e sz:Nat) (z:List V) (ag:Bool):Prop where
 out:∃ j,E.ty.get e=some j∧j.size=sz∧j.zero=some z∧j.bytes≤65536∧(match j.k with | .struct _=>true | .arr ..=>true | _=>false)=ag
 len:z.length=sz
theorem zfe {e sz:Nat} {z:List V} {ag:Bool} (h:(E.ty.get e).map (fun j=>(j.size,j.zero,Nat.ble j.bytes 65536,(match j.k with | .struct _=>true | .arr ..=>true | _=>false)))=some (sz,some z,true,ag)) (hz:Nat.beq z.length sz=true):El E e sz z ag:=by
 obtain ⟨j,h1,h2⟩:=Option.map_eq_some_iff.1 h
 simp only [Prod.mk.injEq] at h2
 exact ⟨⟨j,h1,h2.1,h2.2.1,Nat.le_of_ble_eq_true h2.2.2.1,h2.2.2.2⟩,Nat.eq_of_beq_eq_true hz⟩
structure Ext (N:Nat) (h h':Hp):Prop where
 n:h.n≤h'.n
 old:∀ b,b < N→h'.t.get b=h.t.get b
theorem Ext.refl (N:Nat) (h:Hp):Ext N h h:=⟨Nat.le_refl _,fun _ _=>rfl⟩
theorem Ext.trans {N:Nat} {a b c:Hp} (h:Ext N a b) (k:Ext N b c):Ext N a c:=⟨Nat.le_trans h.n k.n,fun i hi=>(k.old i hi).trans (h.old i hi)⟩
theorem Ext.mono {N M:Nat} {a b:Hp} (h:Ext N a b) (hm:M≤N):Ext M a b:=⟨h.n,fun i hi=>h.old i (by omega)⟩
theorem Ext.new {N:Nat} {h:Hp} (hn:N≤h.n) (b:Blk):Ext N h (h.new b):=⟨Nat.le_succ _,fun i hi=>by rw [Hp.get_new,if_neg (by omega)]⟩
theorem Ext.set {N:Nat} {h:Hp} {b:Nat} (hn:N≤b) (k:Blk):Ext N h (h.set b k):=⟨Nat.le_refl _,fun i hi=>by rw [Hp.get_set,if_neg (by omega)]⟩
def zI:V→Option Nat
 | .sl b _ _ _=>some b
 | .slo b _ _ _ _=>some b
 | .ptr b _=>some b
 | .mp b=>some b
 | _=>none
def In (N:Nat) (v:V):Prop:=∀ b,zI v=some b→b < N
theorem In.mono {N M:Nat} {v:V} (h:In N v) (hm:N≤M):In M v:=fun b hb=>Nat.lt_of_lt_of_le (h b hb) hm
structure Rd (h:Hp) (sz:Nat) (v:V) (len:Nat) (cs:List V):Prop where
 sized:cs.length=len * sz
 at_:((v=.nils∨v=.emp)∧len=0)∨∃ b off vs,zas h b=some vs∧sub vs off (len * sz)=some cs∧((∃ cap,v=.sl b off len cap)∨∃ lo z,v=.slo b off len lo z)
theorem Rd.ext {N:Nat} {h h':Hp} {sz:Nat} {v:V} {len:Nat} {cs:List V} (r:Rd h sz v len cs) (x:Ext N h h') (hi:In N v):Rd h' sz v len cs:=by
 refine ⟨r.sized,r.at_.imp id ?_⟩
 rintro ⟨b,off,vs,h1,h2,h3⟩
 refine ⟨b,off,vs,?_,h2,h3⟩
 have hb:b < N:=hi b (by rcases h3 with ⟨c,rfl⟩ | ⟨lo,z,rfl⟩ <;> rfl)
 unfold zas at h1 ⊢
 rw [x.old b hb]
 exact h1
theorem zp {h:Hp} {sz:Nat} {v:V} {len:Nat} {cs:List V} (r:Rd h sz v len cs) {t e:TypeId} (ht:IsSl E t e) (h0:Hp) (q:V→Prop):(Pu E).lbui h0 #[t] .len [v] q↔q (.int .i64 len):=by
 obtain ⟨i,h1,h2⟩:=ht
 show (∃ u,zdV E h0 #[t] .len [v]=some u∧q u)↔_
 have e0:(#[t]:Array TypeId)[0]? = some t:=rfl
 rcases r.at_ with ⟨rfl | rfl,rfl⟩ | ⟨b,off,vs,_,_,⟨c,rfl⟩ | ⟨lo,z,rfl⟩⟩ <;> simp only [zdV,bLen,vlen,e0,h1,Option.bind_some,h2,zT] <;> rfl
def elemAt (ag:Bool) (sz:Nat) (cs:List V) (i:Nat):V:=if ag then .agg ((cs.drop (i * sz)).take sz) else (cs[i]?).getD zj
theorem mul_lt {i len sz:Nat} (hi:i < len):i * sz+sz≤len * sz:=by
 have:=Nat.mul_le_mul_right sz (show i+1≤len by omega)
 rwa [Nat.succ_mul] at this
theorem part_sub {vs cs:List V} {off len sz i:Nat} (hs:sub vs off (len * sz)=some cs) (hi:i < len):(vs.drop (off+i * sz)).take sz=(cs.drop (i * sz)).take sz:=by
 obtain ⟨h1,h2,_⟩:=zd4 hs
 subst h1
 have:=mul_lt (sz:=sz) hi
 rw [List.drop_take,List.take_take,List.drop_drop,Nat.min_eq_left (by omega)]
theorem rd_at {h:Hp} {sz:Nat} {v:V} {len:Nat} {cs:List V} (r:Rd h sz v len cs) {t e:TypeId} (ht:IsSl E t e) {z:List V} {ag:Bool} (he:El E e sz z ag) (hsz:ag=false→sz=1) (hpos:0 < sz) {i:Nat} (hi:i < len):
  ∃ b o,zI v=some b∧(∀ (k:IntKind) (q:V→Prop),(Pu E).iaddr t v (.int k i) q↔q (.ptr b o))∧(∀ q:V→Prop,(Pu E).load h e (.ptr b o) q↔q (elemAt ag sz cs i)) ∧
   ∃ vs,zas h b=some vs∧(vs.drop o).take sz=(cs.drop (i * sz)).take sz∧o+sz≤vs.length:=by
 obtain ⟨ti,h1,h2⟩:=ht
 obtain ⟨⟨j,h3,h4,h5,h6,h7⟩,h8⟩:=he
 subst h4
 rcases r.at_ with ⟨_,rfl⟩ | ⟨b,off,vs,hv,hs,hk⟩
 ·omega
 ·obtain ⟨s1,s2,_⟩:=zd4 hs
  have hm:=mul_lt (sz:=j.size) hi
  have hlen:(vs.drop (off+i * j.size)).take j.size=(cs.drop (i * j.size)).take j.size:=part_sub hs hi
  have hll:((cs.drop (i * j.size)).take j.size).length=j.size:=by simp only [List.length_take,List.length_drop,r.sized]; omega
  have hvl:(off+i * j.size)+j.size≤vs.length:=by
   have:=congrArg List.length hlen
   rw [hll] at this
   simp only [List.length_take,List.length_drop] at this
   omega
  refine ⟨b,off+i * j.size,by rcases hk with ⟨c,rfl⟩ | ⟨lo,z,rfl⟩ <;> rfl,fun k q=>?_,fun q=>?_,?_⟩
  ·show (∃ u,zbi E t v (.int k i)=some u∧q u)↔_
   have hbl:Nat.blt i len=true:=by rw [Nat.blt_eq]; exact hi
   rcases hk with ⟨c,rfl⟩ | ⟨lo,z,rfl⟩ <;> simp only [zbi,zbV,h1,Option.bind_some,h2,h3,hbl,cond_true,zT]
  ·show (∃ u,ziF E h e (.ptr b (off+i * j.size))=some u∧q u)↔_
   simp only [ziF,hv,Option.bind_some,partV,h3]
   cases ag with
   | true=>
    have hsub:sub vs (off+i * j.size) j.size=some ((cs.drop (i * j.size)).take j.size):=by
     unfold sub
     simp only [hlen,hll,Nat.beq_refl,cond_true]
    split at h7 <;> first | (cases h7; done) | skip
    ·rename_i fs hks
     rw [hks]; simp only [hsub,Option.bind_some,elemAt,if_true,zT]
    ·rename_i n e' hks
     rw [hks]; simp only [hsub,Option.bind_some,elemAt,if_true,zT]
   | false=>
    have h1s:=hsz rfl
    rw [h1s] at hlen hll hvl hm ⊢
    have hg:vs[off+i * 1]? = cs[i]?:=by
     have e1:((vs.drop (off+i * 1)).take 1)[0]? = ((cs.drop (i * 1)).take 1)[0]?:=by rw [hlen]
     simpa using e1
    have hci:cs[i]? = some cs[i]!:=by
     have:i < cs.length:=by rw [r.sized,h1s]; omega
     simp [this]
    have key:(match j.k with | .struct _=>(sub vs (off+i * 1) 1).bind fun l=>some (V.agg l) | .arr _ _=>(sub vs (off+i * 1) 1).bind fun l=>some (V.agg l) | _=>vs[off+i * 1]?)=vs[off+i * 1]?:=by
     split at h7 <;> first | (cases h7; done) | rfl
    have key2:∀ (A B:Option V),A=B→((∃ u,A=some u∧q u)↔(∃ u,B=some u∧q u)):=fun A B h=>by rw [h]
    refine (key2 _ _ key).trans ?_
    rw [hg,hci]
    simp only [elemAt,hci,Option.getD_some,zT,Bool.false_eq_true,if_false]
  ·exact ⟨vs,hv,hlen,hvl⟩
structure Own (N:Nat) (h:Hp) (v:V) (el sz len:Nat) (cs:List V):Prop where
 sized:cs.length=len * sz
 at_:(v=.nils∧len=0)∨∃ b,N≤b∧b < h.n∧h.t.get b=some (.cells cs el false)∧(v=.slo b 0 len len sz∨v=.sl b 0 len len)
theorem Own.nil (N:Nat) (h:Hp) (el sz:Nat):Own N h .nils el sz 0 []:=⟨by simp,.inl ⟨rfl,rfl⟩⟩
theorem sub_all {cs:List V} {n:Nat} (h:cs.length=n):sub cs 0 n=some cs:=by
 subst h
 unfold sub
 simp
theorem Own.rd {N:Nat} {h:Hp} {v:V} {el sz len:Nat} {cs:List V} (o:Own N h v el sz len cs):Rd h sz v len cs:=by
 refine ⟨o.sized,o.at_.imp (fun h=>⟨.inl h.1,h.2⟩) ?_⟩
 rintro ⟨b,_,_,h1,h2⟩
 refine ⟨b,0,cs,by unfold zas; rw [h1],sub_all o.sized,?_⟩
 rcases h2 with rfl | rfl
 ·exact .inr ⟨_,_,rfl⟩
 ·exact .inl ⟨_,rfl⟩
theorem Own.in_ {N:Nat} {h:Hp} {v:V} {el sz len:Nat} {cs:List V} (o:Own N h v el sz len cs):In h.n v:=by
 intro b hb
 rcases o.at_ with ⟨rfl,_⟩ | ⟨c,_,h1,_,rfl | rfl⟩ <;> cases hb <;> exact h1
theorem Own.ge {N:Nat} {h:Hp} {v:V} {el sz len:Nat} {cs:List V} (o:Own N h v el sz len cs):∀ b,zI v=some b→N≤b:=by
 intro b hb
 rcases o.at_ with ⟨rfl,_⟩ | ⟨c,h0,_,_,rfl | rfl⟩ <;> cases hb <;> exact h0
theorem Own.keep {N:Nat} {h h':Hp} {v:V} {el sz len:Nat} {cs:List V} (o:Own N h v el sz len cs) (hn:h.n≤h'.n) (hk:∀ c,zI v=some c→h'.t.get c=h.t.get c):Own N h' v el sz len cs:=by
 refine ⟨o.sized,o.at_.imp id ?_⟩
 rintro ⟨b,h0,h1,h2,h3⟩
 exact ⟨b,h0,by omega,by rw [hk b (by rcases h3 with rfl | rfl <;> rfl)]; exact h2,h3⟩
theorem Own.mono {N M:Nat} {h:Hp} {v:V} {el sz len:Nat} {cs:List V} (o:Own N h v el sz len cs) (hm:M≤N):Own M h v el sz len cs:=
 ⟨o.sized,o.at_.imp id fun ⟨b,h0,h1⟩=>⟨b,by omega,h1⟩⟩
theorem appOK_of {sz:Nat} {z:List V} {j:TI} {need:Nat} (h5:j.zero=some z) (h4:j.size=sz) (h6:j.bytes≤65536) (h8:z.length=sz) (hn:need≤1048576):ziI j need=true:=by
 simp only [ziI,Nat.ble_eq_true_of_le hn,Nat.ble_eq_true_of_le h6,h5,Option.getD_some,h4,h8,Nat.beq_refl,Option.isSome_some,Bool.and_self]
theorem elemsW_of {h:Hp} {sz:Nat} {y:V} {p:List V × Nat} (hy:zgQ h sz y=some p):elemsW E h sz y=some p:=by
 cases y <;> first | exact hy | (cases hy; done)
theorem zdj {N:Nat} {h:Hp} {v y:V} {e sz len n:Nat} {cs ws:List V} (o:Own N h v e sz len cs) {ts:Array TypeId} {t u:TypeId} (ht0:ts[0]? = some t) (ht1:ts[1]? = some u) (ht:IsSl E t e) (hu:∃ iu,E.ty.get u=some iu∧∀ k,iu.k ≠ .int k) {z:List V} {ag:Bool} (he:El E e sz z ag)
  (hy:zgQ h sz y=some (ws,n)) (hst:zk7 y=true→sz=1) (hw:zh ws=true) (hlen:len+n≤1048576) (hN:N≤h.n):
  ∃ v' h',(∀ q,(Pu E).ebui h ts .append [v,y] q↔q v' h')∧Own N h' v' e sz (len+n) (cs++ws)∧Ext N h h'∧(∀ c,c < h.n→zI v ≠ some c→h'.t.get c=h.t.get c)∧(∀ c,zI v'=some c→zI v=some c∨h.n≤c):=by
 obtain ⟨ti,h1,h2⟩:=ht
 obtain ⟨iu,h3,h4⟩:=hu
 obtain ⟨⟨j,h5,h6,h7,h8,_⟩,h9⟩:=he
 subst h6
 have hwl:ws.length=n * j.size:=elems_len hy hst
 have hss:(!zk7 y || Nat.beq j.size 1)=true:=by
  cases hc:zk7 y with
  | false=>rfl
  | true=>simp [hst hc]
 have hred:ziZ E h ts v y=appTo h e j v ws n:=by
  simp only [ziZ,ht0,ht1,Option.bind_some,h3,h1,h2]
  simp only [h5,Option.bind_some,hss,cond_true,elemsW_of hy]
 have fin:∀ {v':V} {h':Hp},appTo h e j v ws n=some (v',h')→∀ q:V→Hp→Prop,(Pu E).ebui h ts .append [v,y] q↔q v' h':=by
  intro v' h' ha q
  show (∃ r,ebuiV E h ts .append [v,y]=some r∧q r.1 r.2)↔_
  have:ebuiV E h ts .append [v,y]=some (v',h'):=hred.trans ha
  rw [this]
  simp
 have hok:=appOK_of (need:=len+n) h7 rfl h8 h9 hlen
 have hsz:(cs++ws).length=(len+n) * j.size:=by rw [List.length_append,o.sized,hwl,Nat.add_mul]
 rcases o.at_ with ⟨rfl,rfl⟩ | ⟨b,hb,hbn,hg,hv⟩
 ·have hcs:cs=[]:=by have:=o.sized; simpa using this
  subst hcs
  by_cases hn:n=0
  ·subst hn
   have hws:ws=[]:=by simpa using hwl
   subst hws
   refine ⟨.nils,h,fin rfl,?_,Ext.refl _ _,fun _ _ _=>rfl,fun c hc=>by cases hc⟩
   exact ⟨hsz,.inl ⟨rfl,rfl⟩⟩
  ·have hnb:Nat.beq n 0=false:=by rw [Bool.eq_false_iff]; simpa [Nat.beq_eq] using hn
   rw [Nat.zero_add] at hok
   refine ⟨.slo h.n 0 n n j.size,h.new (.cells ws e false),fin (by simp only [appTo,hnb,cond_false,hok,cond_true]),?_,Ext.new hN _,fun c hc _=>by rw [Hp.get_new,if_neg (by omega)],fun c hc=>by cases hc; exact .inr (Nat.le_refl _)⟩
   refine ⟨hsz,.inr ⟨h.n,hN,Nat.lt_succ_self _,by rw [Hp.get_new,if_pos rfl]; rfl,.inl (by rw [Nat.zero_add])⟩⟩
 ·have hrd:zas h b=some cs:=by unfold zas; rw [hg]
  by_cases hn:n=0
  ·subst hn
   have hws:ws=[]:=by simpa using hwl
   subst hws
   have hwr:zcP h b (0+len * j.size) []=some (h.set b (.cells cs e false)):=by
    unfold zcP
    rw [hg]
    simp only [zh,cond_true]
    have:spl cs (0+len * j.size) []=some cs:=by cases cs <;> rfl
    rw [this]; rfl
   have hget:∀ c,(h.set b (.cells cs e false)).t.get c=h.t.get c:=fun c=>by
    rw [Hp.get_set]; split
    ·rename_i e; rw [e,hg]
    ·rfl
   have hle:Nat.ble (len+0) len=true:=by simp
   refine ⟨v,h.set b (.cells cs e false),fin ?_,?_,Ext.set hb _,fun c _ _=>hget c,fun c hc=>.inl hc⟩
   ·rcases hv with rfl | rfl
    ·simp only [appTo,Nat.beq_refl,hle,cond_true,hwr,Option.bind_some]; rfl
    ·simp only [appTo,hle,cond_true,hwr,Option.bind_some]; rfl
   ·refine ⟨hsz,.inr ⟨b,hb,hbn,?_,hv⟩⟩
    rw [Hp.get_set,if_pos rfl,List.append_nil]
  ·have hle:Nat.ble (len+n) len=false:=by rw [Bool.eq_false_iff]; simp [Nat.ble_eq]; omega
   rcases hv with rfl | rfl
   ·have hgr:grow h e b j.size len n ws=some (.slo h.n 0 (len+n) (len+n) j.size,(h.new (.cells (cs++ws) e false)).set b .dead):=by
     unfold grow
     rw [hg]
     simp only [o.sized,Nat.beq_refl,hw,Bool.and_self,cond_true]
    refine ⟨.slo h.n 0 (len+n) (len+n) j.size,(h.new (.cells (cs++ws) e false)).set b .dead,fin (by simp only [appTo,Nat.beq_refl,hle,cond_true,cond_false,hok,Bool.and_self,hgr]),?_,⟨Nat.le_succ _,fun i hi=>?_⟩,fun c hc hne=>?_,fun c hc=>by cases hc; exact .inr (Nat.le_refl _)⟩
    ·exact ⟨hsz,.inr ⟨h.n,hN,Nat.lt_succ_self _,by rw [Hp.get_set,if_neg (by omega),Hp.get_new,if_pos rfl],.inl rfl⟩⟩
    ·rw [Hp.get_set,if_neg (by omega),Hp.get_new,if_neg (by omega)]
    ·have:c ≠ b:=fun e=>hne (by rw [e]; rfl)
     rw [Hp.get_set,if_neg this,Hp.get_new,if_neg (by omega)]
   ·have hsub:=sub_all (cs:=cs) o.sized
    refine ⟨.slo h.n 0 (len+n) (len+n) j.size,h.new (.cells (cs++ws) e false),fin (by simp only [appTo,hle,cond_false,hok,cond_true,hrd,Option.bind_some,hsub]),?_,Ext.new hN _,fun c hc _=>by rw [Hp.get_new,if_neg (by omega)],fun c hc=>by cases hc; exact .inr (Nat.le_refl _)⟩
    exact ⟨hsz,.inr ⟨h.n,hN,Nat.lt_succ_self _,by rw [Hp.get_new,if_pos rfl],.inl rfl⟩⟩
theorem zfx {h:Hp} {sz:Nat} {y:V} {n:Nat} {ws:List V} (r:Rd h sz y n ws):zgQ h sz y=some (ws,n)∧zk7 y=false:=by
 rcases r.at_ with ⟨rfl | rfl,rfl⟩ | ⟨b,off,vs,h1,h2,⟨c,rfl⟩ | ⟨lo,z,rfl⟩⟩
 ·have:ws=[]:=by simpa using r.sized
  subst this
  exact ⟨rfl,rfl⟩
 ·have:ws=[]:=by simpa using r.sized
  subst this
  exact ⟨rfl,rfl⟩
 ·exact ⟨by simp only [zgQ,h1,Option.bind_some,h2],rfl⟩
 ·exact ⟨by simp only [zgQ,h1,Option.bind_some,h2],rfl⟩
theorem zcL {h:Hp} {t e sz:Nat} {z:List V} {ag:Bool} (ht:IsSl E t e) (he:El E e sz z ag) (x:V) (hx:x.cells.length=sz) (hs:sz≤65536) (q:V→Hp→Blk→Prop):
  (Pu E).bsl h t 1 [(0,x)] q↔q (.sl h.n 0 1 1) (h.new (.cells x.cells e false)) (.cells x.cells e false):=by
 obtain ⟨ti,h1,h2⟩:=ht
 obtain ⟨⟨j,h5,h6,h7,h8,_⟩,h9⟩:=he
 subst h6
 show (∃ y,zbk E t 1 [(0,x)]=some y∧q (y.1.at h.n) (h.new y.2) y.2)↔_
 have hspl:∀ (ws l:List V),l.length=ws.length→spl l 0 ws=some ws:=by
  intro ws
  induction ws with
  | nil=>intro l hl; cases l with | nil=>rfl | cons _ _=>cases hl
  | cons w ws ih=>intro l hl; cases l with
   | nil=>cases hl
   | cons a l=>simp only [spl,ih l (by simpa using hl),Option.bind_some]
 have hc:(Nat.ble (1 * j.size) 16777216 && Nat.beq ((j.zero.getD []).length) j.size)=true:=by
  rw [h7,Option.getD_some,h9,Nat.beq_refl,Bool.and_true]
  exact Nat.ble_eq_true_of_le (by omega)
 have hf:fillV (zcA j.size 0 1) (rep 1 z) [(0,x)]=some x.cells:=by
  have hr:rep 1 z=z:=by simp [rep]
  rw [hr]
  have hb:(Nat.beq x.cells.length j.size && Nat.ble (0 * j.size+j.size) z.length)=true:=by
   rw [hx,Nat.beq_refl,Bool.true_and]
   exact Nat.ble_eq_true_of_le (by omega)
  simp only [fillV,zcA,List.getElem?_cons_zero,Option.bind_some,hb,cond_true]
  rw [Nat.zero_mul,hspl x.cells z (by omega)]
  rfl
 rw [h7] at hc
 have:zbk E t 1 [(0,x)]=some (.sl 1 1,.cells x.cells e false):=by
  simp only [zbk,h1,Option.bind_some,h2,h5,hc,cond_true,h7,hf]
 rw [this]
 simp [Fr.at]
theorem zfu {h:Hp} {sz:Nat} {ws:List V} {e:Nat} (hw:ws.length=sz):Own h.n (h.new (.cells ws e false)) (.sl h.n 0 1 1) e sz 1 ws:=
 ⟨by omega,.inr ⟨h.n,Nat.le_refl _,Nat.lt_succ_self _,by rw [Hp.get_new,if_pos rfl],.inr rfl⟩⟩
theorem bounds_from (a len cap:Nat) (k:IntKind) (ha:a≤len):zgo (some (.int k a)) none none len cap=some (a,len,cap):=by
 have e:bound none cap cap=some cap:=rfl
 have e2:bound none cap len=some len:=rfl
 simp only [zgo,e,e2,Option.bind_some,bound_nat _ _ _ _ ha]
theorem bounds_to (b len cap:Nat) (j:IntKind) (hb:b≤cap):zgo none (some (.int j b)) none len cap=some (0,b,cap):=by
 have e:bound none cap cap=some cap:=rfl
 have e2:bound none b 0=some 0:=rfl
 simp only [zgo,e,Option.bind_some,bound_nat _ _ _ _ hb,e2]
theorem sub_part {vs cs:List V} {off n a m:Nat} (h:sub vs off n=some cs) (ha:a+m≤n):sub vs (off+a) m=some ((cs.drop a).take m):=by
 obtain ⟨h1,h2,_⟩:=zd4 h
 have e:(vs.drop (off+a)).take m=(cs.drop a).take m:=by
  rw [h1,List.drop_take,List.take_take,List.drop_drop,Nat.min_eq_left (by omega)]
 unfold sub
 rw [e]
 have:((cs.drop a).take m).length=m:=by simp only [List.length_take,List.length_drop]; omega
 simp only [this,Nat.beq_refl,cond_true]
def Fits (len:Nat) (v:V):Prop:=(∀ b off l c,v=.sl b off l c→len≤c)∧∀ b off l lo z,v=.slo b off l lo z→len≤lo
theorem cut_sub {h:Hp} {sz:Nat} {v:V} {len:Nat} {cs:List V} (r:Rd h sz v len cs) (hf:Fits len v) {t e:TypeId} (ht:IsSl E t e) {z:List V} {ag:Bool} (he:El E e sz z ag) (hz:∀ b off l lo y,v=.slo b off l lo y→y=sz) {lo hi:Option V} {a b:Nat} (hab:a≤b) (hb:b≤len)
  (hB:∀ cap,len≤cap→zgo lo hi none len cap=some (a,b,cap)):
  ∃ u,(∀ q:V→Prop,(Pu E).slice t v lo hi none q↔q u)∧Rd h sz u (b - a) ((cs.drop (a * sz)).take ((b - a) * sz))∧(∀ c,zI u=some c→zI v=some c)∧Fits (b - a) u∧∀ b off l lo y,u=.slo b off l lo y→y=sz:=by
 obtain ⟨ti,h1,h2⟩:=ht
 obtain ⟨⟨j,h3,h4,h5,h6,h7⟩,h8⟩:=he
 subst h4
 have hsize:(((cs.drop (a * j.size)).take ((b - a) * j.size))).length=(b - a) * j.size:=by
  have e1:a * j.size+(b - a) * j.size≤len * j.size:=by
   rw [← Nat.add_mul]; exact Nat.mul_le_mul_right _ (by omega)
  have:=r.sized
  simp only [List.length_take,List.length_drop]; omega
 have fin:∀ {u:V},zgF E t v lo hi none=some u→∀ q:V→Prop,(Pu E).slice t v lo hi none q↔q u:=by
  intro u hu q
  show (∃ w,zgF E t v lo hi none=some w∧q w)↔_
  rw [hu,zT]
 rcases r.at_ with ⟨hv,rfl⟩ | ⟨B,off,vs,hr,hs,hk⟩
 ·obtain rfl:b=0:=by omega
  obtain rfl:a=0:=by omega
  have hb0:=hB 0 (Nat.le_refl _)
  have hcs:cs=[]:=by have:=r.sized; simpa using this
  subst hcs
  rcases hv with rfl | rfl
  ·refine ⟨.nils,fin ?_,⟨by simp,.inl ⟨.inl rfl,rfl⟩⟩,fun _ h=>h,⟨by simp,by simp⟩,by simp⟩
   simp only [zgF,h1,Option.bind_some,h2,h3,hb0]
  ·refine ⟨.emp,fin ?_,⟨by simp,.inl ⟨.inr rfl,rfl⟩⟩,fun _ h=>h,⟨by simp,by simp⟩,by simp⟩
   simp only [zgF,h1,Option.bind_some,h2,h3,hb0]
 ·have e1:a * j.size+(b - a) * j.size≤len * j.size:=by
   rw [← Nat.add_mul]; exact Nat.mul_le_mul_right _ (by omega)
  have hsub:=sub_part hs e1
  rcases hk with ⟨cap,rfl⟩ | ⟨low,y,rfl⟩
  ·have hcap:=hf.1 _ _ _ _ rfl
   refine ⟨slOf B off j.size (a,b,cap),fin ?_,?_,fun c hc=>?_,⟨fun _ _ _ _ e=>(by cases e; omega),fun _ _ _ _ _ e=>(by cases e)⟩,fun _ _ _ _ _ e=>(by cases e)⟩
   ·simp only [zgF,h1,Option.bind_some,h2,h3,hB cap hcap]
   ·refine ⟨hsize,?_⟩
    by_cases hca:cap=a
    ·have:b=a:=by omega
     subst this
     refine .inr ⟨B,off,vs,hr,?_,.inl ⟨b - b,by simp only [slOf,hca,Nat.beq_refl,cond_true]⟩⟩
     simp [sub]
    ·have hbq:Nat.beq cap a=false:=by rw [Bool.eq_false_iff]; simpa [Nat.beq_eq] using hca
     exact .inr ⟨B,off+a * j.size,vs,hr,hsub,.inl ⟨cap - a,by simp only [slOf,hbq,cond_false]⟩⟩
   ·simp only [slOf,zI] at hc ⊢; exact hc
  ·have hlow:=hf.2 _ _ _ _ _ rfl
   obtain rfl:=hz _ _ _ _ _ rfl
   by_cases hl:(Nat.beq a 0 || Nat.blt a low)=true
   ·refine ⟨.slo B (off+a * j.size) (b - a) (low - a) j.size,fin ?_,⟨hsize,.inr ⟨B,_,vs,hr,hsub,.inr ⟨_,_,rfl⟩⟩⟩,fun c hc=>hc,⟨fun _ _ _ _ e=>(by cases e),fun _ _ _ _ _ e=>(by cases e; omega)⟩,fun _ _ _ _ _ e=>(by cases e; rfl)⟩
    simp only [zgF,h1,Option.bind_some,h2,h3,Nat.beq_refl,cond_true,hB low hlow,sloOf,hl]
   ·have hl2:(Nat.beq a 0 || Nat.blt a low)=false:=by rw [Bool.eq_false_iff]; exact hl
    have hba:b=a:=by
     simp only [Bool.or_eq_false_iff] at hl2
     have:¬ a < low:=fun h=>by
      have h9:Nat.blt a low=true:=by rw [Nat.blt_eq]; exact h
      rw [h9] at hl2
      cases hl2.2
     omega
    subst hba
    refine ⟨.emp,fin ?_,⟨hsize,.inl ⟨.inr rfl,by omega⟩⟩,fun c hc=>(by cases hc),⟨by simp,by simp⟩,by simp⟩
    simp only [zgF,h1,Option.bind_some,h2,h3,Nat.beq_refl,cond_true,hB low hlow,sloOf,hl2,cond_false]
theorem strV_of:∀ {l:List Nat},(∀ x ∈ l,x < 256)→strV (l.map fun (b:Nat)=>V.int .u8 (b:Int))=some l
 | [],_=>rfl
 | b::l,h=>by
  have hb:Nat.blt b 256=true:=by rw [Nat.blt_eq]; exact h b (by simp)
  rw [List.map_cons]
  show (bif Nat.blt b 256 then (strV (l.map fun (b:Nat)=>V.int .u8 (b:Int))).bind fun l=>some (b::l) else none)=_
  rw [hb,strV_of fun x hx=>h x (by simp [hx])]
  rfl
theorem strW_of {l:List Nat} (hl:∀ x ∈ l,x < 256):strW E (l.map fun (b:Nat)=>V.int .u8 (b:Int))=some (.str l):=by
 unfold strW
 rw [strV_of hl]
theorem pu_conv_bs {h:Hp} {v:V} {l:List Nat} (r:Rd h 1 v l.length (l.map fun (b:Nat)=>V.int .u8 (b:Int))) (hl:∀ x ∈ l,x < 256) {s d e:Nat} (hs:IsSl E s e) (he:IsInt E e .u8) (hd:IsStr E d) (q:V→Prop):(Pu E).conv h s d v q↔q (.str l):=by
 obtain ⟨i,h1,h2⟩:=hs
 obtain ⟨j,h3,h4⟩:=hd
 obtain ⟨m,h5,h6⟩:=he
 show (∃ u,vconv E h s d v=some u∧q u)↔_
 have:vconv E h s d v=some (.str l):=by
  rcases r.at_ with ⟨rfl | rfl,h0⟩ | ⟨b,off,vs,hr,hs,⟨c,rfl⟩ | ⟨lo,z,rfl⟩⟩
  ·have:l=[]:=by simpa using h0
   subst this
   simp only [vconv,h1,h3,Option.bind_some,h4,h2,zls,h5,h6]
  ·have:l=[]:=by simpa using h0
   subst this
   simp only [vconv,h1,h3,Option.bind_some,h4,h2,zls,h5,h6]
  ·rw [Nat.mul_one] at hs
   simp only [vconv,h1,h3,Option.bind_some,h4,h2,zls,h5,h6,hr,hs,strW_of hl]
  ·rw [Nat.mul_one] at hs
   simp only [vconv,h1,h3,Option.bind_some,h4,h2,zls,h5,h6,hr,hs,strW_of hl]
 rw [this,zT]
theorem Own.fits {N:Nat} {h:Hp} {v:V} {el sz len:Nat} {cs:List V} (o:Own N h v el sz len cs):Fits len v∧∀ b off l lo y,v=.slo b off l lo y→y=sz:=by
 rcases o.at_ with ⟨rfl,_⟩ | ⟨c,_,h1,_,rfl | rfl⟩
 ·exact ⟨⟨by simp,by simp⟩,by simp⟩
 ·exact ⟨⟨by simp,fun _ _ _ _ _ e=>by cases e; omega⟩,fun _ _ _ _ _ e=>by cases e; rfl⟩
 ·exact ⟨⟨fun _ _ _ _ e=>by cases e; omega,by simp⟩,by simp⟩
end
end Go.Proofs.YtbchdlelmkmagaaGreatDoor.VM
namespace Go.Proofs.YtbchdlelmkmagaaGreatDoor.VM
open Go
noncomputable section
attribute [local instance] syZ
variable {E:Env}
theorem zcK {t b o f:Nat} {p:V} (h:zfO E t (.ptr b o) f=some p) (q:V→Prop):(Pu E).faddr t (.ptr b o) f q↔q p:=by
 show (∃ v,zfO E t (.ptr b o) f=some v∧q v)↔_
 rw [h,zT]
def ze2 (E:Env) (t:Nat) (pl:List (Nat × Nat)) (z:List V):Prop:=∃ i fs,E.ty.get t=some i∧i.zero=some z∧i.k=.struct fs∧zlc E fs=some pl
theorem zgG {t:Nat} {pl:List (Nat × Nat)} {z:List V} (h:((E.ty.get t).bind fun i=>match i.k with | .struct fs=>(zlc E fs).bind fun pl=>i.zero.map fun z=>(pl,z) | _=>none)=some (pl,z)):ze2 E t pl z:=by
 rw [Option.bind_eq_some_iff] at h
 obtain ⟨i,h1,h2⟩:=h
 split at h2
 ·rename_i fs hk
  rw [Option.bind_eq_some_iff] at h2
  obtain ⟨p,h3,h4⟩:=h2
  rw [Option.map_eq_some_iff] at h4
  obtain ⟨z',h5,h6⟩:=h4
  cases h6
  exact ⟨i,fs,h1,h5,hk,h3⟩
 ·cases h2
def C1 (v:V):Prop:=v.cells=[v]∧v.isCell=true
theorem zcU (k:IntKind) (n:Int):C1 (.int k n):=⟨rfl,rfl⟩
theorem c1_str (s:List Nat):C1 (.str s):=⟨rfl,rfl⟩
theorem c1_bool (b:Bool):C1 (.bool b):=⟨rfl,rfl⟩
theorem Rd.c1 {h:Hp} {sz:Nat} {v:V} {len:Nat} {cs:List V} (r:Rd h sz v len cs):C1 v:=by
 rcases r.at_ with ⟨rfl | rfl,_⟩ | ⟨b,off,vs,_,_,⟨c,rfl⟩ | ⟨lo,z,rfl⟩⟩ <;> exact ⟨rfl,rfl⟩
theorem spl_one:∀ (cs:List V) (o:Nat) (v:V),o < cs.length→spl cs o [v]=some (cs.set o v)
 | [],_,_,h=>by simp at h
 | c::cs,0,v,_=>by cases cs <;> simp [spl]
 | c::cs,o+1,v,h=>by simp only [spl,spl_one cs o v (by simpa using h),Option.bind_some,List.set_cons_succ]
def zkJ (pl:List (Nat × Nat)):List V→List (Nat × V)→List V
 | cs,[]=>cs
 | cs,(i,v)::r=>zkJ pl (cs.set ((pl[i]?).getD (0,0)).1 v) r
def placesOK (pl:List (Nat × Nat)) (n:Nat):List (Nat × V)→Bool
 | []=>true
 | (i,_)::r=>match pl[i]? with
  | some (o,s)=>Nat.beq s 1 && Nat.blt o n && placesOK pl n r
  | none=>false
theorem fill_cells (pl:List (Nat × Nat)):∀ (ps:List (Nat × V)) (cs:List V),(∀ p ∈ ps,C1 p.2)→placesOK pl cs.length ps=true→fillV pl cs ps=some (zkJ pl cs ps)
 | [],cs,_,_=>by simp [fillV,zkJ]
 | (i,v)::r,cs,hc,hp=>by
  rw [placesOK] at hp
  split at hp
  ·rename_i o s hi
   simp only [Bool.and_eq_true] at hp
   obtain ⟨⟨h1,h2⟩,h3⟩:=hp
   obtain rfl:=Nat.eq_of_beq_eq_true h1
   have ho:o < cs.length:=by simpa [Nat.blt_eq] using h2
   have hv:=(hc (i,v) (by simp)).1
   have hcells:v.cells=[v]:=hv
   have hb:(Nat.beq v.cells.length 1 && Nat.ble (o+1) cs.length)=true:=by rw [hcells]; simp; omega
   rw [fillV,hi,Option.bind_some]
   simp only [hb,cond_true]
   rw [hcells,spl_one cs o v ho,Option.bind_some,zkJ,hi,Option.getD_some]
   exact fill_cells pl r _ (fun p hp=>hc p (by simp [hp])) (by rw [List.length_set]; exact h3)
  ·cases hp
theorem zaD {t:Nat} {pl:List (Nat × Nat)} {z:List V} (ht:ze2 E t pl z) (ps:List (Nat × V)) (hc:∀ p ∈ ps,C1 p.2) (hp:placesOK pl z.length ps=true) (q:V→Prop):(Pu E).build t ps q↔q (.agg (zkJ pl z ps)):=by
 obtain ⟨i,fs,h1,h2,h3,h4⟩:=ht
 show (∃ v,zkE E t ps=some v∧q v)↔_
 have:zkE E t ps=some (.agg (zkJ pl z ps)):=by
  simp only [zkE,h1,Option.bind_some,h2,h3,h4,fill_cells pl ps z hc hp]
 rw [this,zT]
theorem pu_alloc {e sz:Nat} {z:List V} {ag:Bool} (he:El E e sz z ag) (h:Hp) (q:V→Hp→Blk→Prop):(Pu E).alloc h e q↔q (.ptr h.n 0) (h.new (.cells z e false)) (.cells z e false):=by
 obtain ⟨⟨j,h5,h6,h7,h8,_⟩,h9⟩:=he
 show (∃ x,fAlloc E e=some x∧q (x.1.at h.n) (h.new x.2) x.2)↔_
 have:fAlloc E e=some (.ptr,.cells z e false):=by simp only [fAlloc,h5,Option.bind_some,h7,ziu]
 rw [this]; simp [Fr.at]
theorem pu_box {e:Nat} {x:V} (hx:zh x.cells=true) (h:Hp) (q:V→Hp→Blk→Prop):(Pu E).box h e x q↔q (.ptr h.n 0) (h.new (.cells x.cells e false)) (.cells x.cells e false):=by
 show (∃ y,boxV e x=some y∧q (y.1.at h.n) (h.new y.2) y.2)↔_
 have:boxV e x=some (.ptr,.cells x.cells e false):=by simp only [boxV,hx,cond_true,ziu]
 rw [this]; simp [Fr.at]
theorem zcH {h:Hp} {b e:Nat} {vs:List V} {ro:Bool} (hg:h.t.get b=some (.cells vs e ro)):zas h b=some vs:=by unfold zas; rw [hg]
theorem za {e:Nat} {z:List V} (he:El E e 1 z false) {h:Hp} {b o f:Nat} {vs:List V} {ro:Bool} (hg:h.t.get b=some (.cells vs f ro)) {v:V} (hv:vs[o]? = some v) (q:V→Prop):(Pu E).load h e (.ptr b o) q↔q v:=by
 obtain ⟨⟨j,h3,h4,h5,h6,h7⟩,h8⟩:=he
 show (∃ u,ziF E h e (.ptr b o)=some u∧q u)↔_
 have:ziF E h e (.ptr b o)=some v:=by
  simp only [ziF,zcH hg,Option.bind_some,partV,h3]
  split at h7 <;> first | (cases h7; done) | skip
  rename_i g1 g2
  split
  ·exact absurd ‹_› (g1 _)
  ·exact absurd ‹_› (g2 _ _)
  ·exact hv
 rw [this,zT]
theorem zd {e sz:Nat} {z:List V} (he:El E e sz z true) {h:Hp} {b o f:Nat} {vs:List V} {ro:Bool} (hg:h.t.get b=some (.cells vs f ro)) {l:List V} (hv:sub vs o sz=some l) (q:V→Prop):(Pu E).load h e (.ptr b o) q↔q (.agg l):=by
 obtain ⟨⟨j,h3,h4,h5,h6,h7⟩,h8⟩:=he
 subst h4
 show (∃ u,ziF E h e (.ptr b o)=some u∧q u)↔_
 have:ziF E h e (.ptr b o)=some (.agg l):=by
  simp only [ziF,zcH hg,Option.bind_some,partV,h3]
  split at h7 <;> first | (cases h7; done) | skip
  ·rename_i fs hk
   rw [hk]; simp only [hv,Option.bind_some]
  ·rename_i m e' hk
   rw [hk]; simp only [hv,Option.bind_some]
 rw [this,zT]
theorem pu_store {e sz:Nat} {z:List V} {ag:Bool} (he:El E e sz z ag) {h:Hp} {b o f:Nat} {vs:List V} (hg:h.t.get b=some (.cells vs f false)) {x:V} (hx:x.cells.length=sz) (hc:zh x.cells=true) {r:List V} (hr:spl vs o x.cells=some r) (q:Hp→Prop):(Pu E).store h e (.ptr b o) x q↔q (h.set b (.cells r f false)):=by
 obtain ⟨⟨j,h3,h4,h5,h6,h7⟩,h8⟩:=he
 subst h4
 show (∃ u,vstore E h e (.ptr b o) x=some u∧q u)↔_
 have:vstore E h e (.ptr b o) x=some (h.set b (.cells r f false)):=by
  have hb:Nat.beq x.cells.length j.size=true:=by rw [hx]; exact Nat.beq_refl _
  simp only [vstore,h3,Option.bind_some,hb,cond_true,zcP,hg,hc,hr]
 rw [this,zT]
theorem zdZ (b o:Nat) (q:V→Prop):(Pu E).nilc (.ptr b o) q↔q (.ptr b o):=by
 show (∃ v,zjm (.ptr b o)=some v∧q v)↔_
 simp only [zjm,zT]
theorem pu_extr {i:Nat} {l:List V} {v:V} (h:l[i]? = some v) (q:V→Prop):(Pu E).extr (.tup l) i q↔q v:=by
 show (∃ u,extractV i (.tup l)=some u∧q u)↔_
 rw [extractV,h,zT]
theorem zao (x:V) (l:List V) (q:V→Prop):(Pu E).extr (.tup (x::l)) 0 q↔q x:=pu_extr rfl q
theorem zam (x y:V) (l:List V) (q:V→Prop):(Pu E).extr (.tup (x::y::l)) 1 q↔q y:=pu_extr rfl q
theorem zu (w:Bool) (f:(V→Prop)→Prop) (k:V→Prop):(Pu E).gval (.bool w) w f k↔f k:=by
 show (∃ c,zgt (.bool w) w=some c∧(c=true→f k)∧(c=false→k zj))↔_
 simp [zgt]
theorem pu_gval_n (w:Bool) (f:(V→Prop)→Prop) (k:V→Prop):(Pu E).gval (.bool (!w)) w f k↔k zj:=by
 show (∃ c,zgt (.bool (!w)) w=some c∧(c=true→f k)∧(c=false→k zj))↔_
 cases w <;> simp [zgt]
theorem zaH (f:(V→Prop)→Prop) (k:V→Prop):(Pu E).gval (.bool true) false f k↔k zj:=pu_gval_n false f k
theorem zS (f:(V→Prop)→Prop) (k:V→Prop):(Pu E).gval (.bool false) true f k↔k zj:=pu_gval_n true f k
theorem ze9 (w:Bool) (f:(V→Hp→Prop)→Prop) (h:Hp) (k:V→Hp→Prop):(Pu E).geff (.bool w) w f h k↔f k:=by
 show (∃ c,zgt (.bool w) w=some c∧(c=true→f k)∧(c=false→k zj h))↔_
 simp [zgt]
theorem pu_geff_tf (f:(V→Hp→Prop)→Prop) (h:Hp) (k:V→Hp→Prop):(Pu E).geff (.bool true) false f h k↔k zj h:=by
 show (∃ c,zgt (.bool true) false=some c∧(c=true→f k)∧(c=false→k zj h))↔_
 simp [zgt]
theorem pu_geff_ft (f:(V→Hp→Prop)→Prop) (h:Hp) (k:V→Hp→Prop):(Pu E).geff (.bool false) true f h k↔k zj h:=by
 show (∃ c,zgt (.bool false) true=some c∧(c=true→f k)∧(c=false→k zj h))↔_
 simp [zgt]
theorem zB (a:V) (b:Option V) (q:V→Prop):(Pu E).pick (.bool true) (some a) b q↔q a:=by
 show (∃ x,V.bool true=.bool x∧∃ v,(bif x then some a else b)=some v∧q v)↔_
 exact ⟨fun ⟨x,h1,v,h2,h3⟩=>by cases h1; cases h2; exact h3,fun h=>⟨true,rfl,a,rfl,h⟩⟩
theorem zo (a:Option V) (b:V) (q:V→Prop):(Pu E).pick (.bool false) a (some b) q↔q b:=by
 show (∃ x,V.bool false=.bool x∧∃ v,(bif x then a else some b)=some v∧q v)↔_
 exact ⟨fun ⟨x,h1,v,h2,h3⟩=>by cases h1; cases h2; exact h3,fun h=>⟨false,rfl,b,rfl,h⟩⟩
structure New (h h1:Hp) (b:Nat) (k:Blk):Prop where
 at_:h1.t.get b=some k
 n:h1.n=h.n+1
 b:b=h.n
 old:∀ c,c < h.n→h1.t.get c=h.t.get c
theorem New.mk' (h:Hp) (k:Blk):New h (h.new k) h.n k:=⟨by rw [Hp.get_new,if_pos rfl],rfl,rfl,fun c hc=>by rw [Hp.get_new,if_neg (by omega)]⟩
theorem New.ext {h h1:Hp} {b:Nat} {k:Blk} (w:New h h1 b k) {N:Nat} (hN:N≤h.n):Ext N h h1:=⟨by rw [w.n]; omega,fun c hc=>w.old c (by omega)⟩
theorem zq {e sz:Nat} {z:List V} {ag:Bool} (he:El E e sz z ag) {h:Hp} {q:V→Hp→Blk→Prop} (hq:∀ h1 b,New h h1 b (.cells z e false)→q (.ptr b 0) h1 (.cells z e false)):(Pu E).alloc h e q:=
 (pu_alloc he h q).2 (hq _ _ (New.mk' _ _))
theorem zW {e:Nat} {cs:List V} (hc:zh cs=true) {h:Hp} {q:V→Hp→Blk→Prop} (hq:∀ h1 b,New h h1 b (.cells cs e false)→q (.ptr b 0) h1 (.cells cs e false)):(Pu E).box h e (.agg cs) q:=
 (pu_box (x:=.agg cs) hc h q).2 (hq _ _ (New.mk' _ _))
structure Wr (h h1:Hp) (b:Nat) (k:Blk):Prop where
 at_:h1.t.get b=some k
 n:h1.n=h.n
 other:∀ c,c ≠ b→h1.t.get c=h.t.get c
theorem Wr.ext {h h1:Hp} {b:Nat} {k:Blk} (w:Wr h h1 b k) {N:Nat} (hN:N≤b):Ext N h h1:=⟨by rw [w.n]; exact Nat.le_refl _,fun c hc=>w.other c (by omega)⟩
theorem zC {e sz:Nat} {z:List V} {ag:Bool} (he:El E e sz z ag) {h:Hp} {b o f:Nat} {vs:List V} (hg:h.t.get b=some (.cells vs f false)) {x:V} (hx:x.cells.length=sz) (hc:zh x.cells=true) {r:List V} (hr:spl vs o x.cells=some r) {q:Hp→Prop} (hq:∀ h1,Wr h h1 b (.cells r f false)→q h1):(Pu E).store h e (.ptr b o) x q:=
 (pu_store he hg hx hc hr q).2 (hq _ ⟨by rw [Hp.get_set,if_pos rfl],rfl,fun c hc=>by rw [Hp.get_set,if_neg hc]⟩)
theorem pu_bslX {t e n:Nat} {z:V} (ht:IsSl E t e) (he:El E e 1 [z] false) (ps:List (Nat × V)) (hc:∀ p ∈ ps,C1 p.2) (hp:placesOK (zcA 1 0 n) (rep n [z]).length ps=true) (hn:n≤65536) {h:Hp} {q:V→Hp→Blk→Prop}
  (hq:∀ h1 b,New h h1 b (.cells (zkJ (zcA 1 0 n) (rep n [z]) ps) e false)→q (.sl b 0 n n) h1 (.cells (zkJ (zcA 1 0 n) (rep n [z]) ps) e false)):(Pu E).bsl h t n ps q:=by
 obtain ⟨ti,h1,h2⟩:=ht
 obtain ⟨⟨j,h5,h6,h7,h8,_⟩,h9⟩:=he
 have hcb:(Nat.ble (n * j.size) 16777216 && Nat.beq ((j.zero.getD []).length) j.size)=true:=by
  rw [h6,h7]
  simp only [Option.getD_some,List.length_cons,List.length_nil,Nat.mul_one,Bool.and_eq_true]
  exact ⟨Nat.ble_eq_true_of_le (by omega),rfl⟩
 have:zbk E t n ps=some (.sl n n,.cells (zkJ (zcA 1 0 n) (rep n [z]) ps) e false):=by
  simp only [zbk,h1,Option.bind_some,h2,h5]
  rw [hcb,h7,h6]
  simp only [cond_true,Option.bind_some]
  rw [fill_cells _ ps _ hc hp]
  rfl
 exact ⟨_,this,hq _ _ (New.mk' _ _)⟩
end
end Go.Proofs.YtbchdlelmkmagaaGreatDoor.VM
namespace Go.Proofs.YtbchdlelmkmagaaGreatDoor.VM
open Go
set_option linter.unusedVariables false
set_option linter.unusedSectionVars false
noncomputable section
attribute [local instance] syZ
variable {E:Env}
structure KeyOf (E:Env) (q:Nat) {K:Type} [DecidableEq K] (key:K→V):Prop where
 out:∃ j,E.ty.get q=some j∧∀ a b,veqK j (key a) (key b)=some (decide (a=b))
def IsMap (E:Env) (t q e:Nat):Prop:=∃ i,E.ty.get t=some i∧i.k=.map q e
theorem isMap {t q e:Nat} (h:(E.ty.get t).map (·.k)=some (.map q e)):IsMap E t q e:=by
 obtain ⟨i,h1,h2⟩:=Option.map_eq_some_iff.1 h; exact ⟨i,h1,h2⟩
section
variable {K:Type} [DecidableEq K] {key:K→V}
abbrev Es (K:Type):=List (K × V × Nat)
def esV (key:K→V) (es:Es K):List (V × V × Nat):=es.map fun x=>(key x.1,x.2.1,x.2.2)
def zf6 (k:K):Es K→Nat→Option (Nat × V × Nat)
 | [],_=>none
 | (a,v,b)::r,n=>if k=a then some (n,v,b) else zf6 k r (n+1)
theorem zeW {q:Nat} {j:TI} (hk:∀ a b,veqK j (key a) (key b)=some (decide (a=b))) (k:K):∀ (es:Es K) (n:Nat),findM j (key k) (esV key es) n=some (zf6 k es n)
 | [],n=>rfl
 | (a,v,b)::r,n=>by
  show ((veqK j (key k) (key a)).bind fun c=>bif c then some (some (n,v,b)) else findM j (key k) (esV key r) (n+1))=_
  rw [hk,Option.bind_some,zf6]
  by_cases h:k=a
  ·rw [decide_eq_true h,if_pos h]; rfl
  ·rw [decide_eq_false h,if_neg h,cond_false,zeW (q:=q) hk k r (n+1)]
def lookE (es:Es K) (k:K):Option V:=(zf6 k es 0).map (·.2.1)
theorem findE_val (k:K):∀ (es:Es K) (n m:Nat),(zf6 k es n).map (·.2.1)=(zf6 k es m).map (·.2.1)
 | [],n,m=>rfl
 | (a,v,b)::r,n,m=>by
  rw [zf6,zf6]
  split
  ·rfl
  ·exact findE_val k r _ _
theorem zdh (a:K) (v:V) (b:Nat) (r:Es K) (k:K):lookE ((a,v,b)::r) k=if k=a then some v else lookE r k:=by
 unfold lookE
 rw [zf6]
 split
 ·rfl
 ·exact findE_val k r _ _
theorem lookE_none {k:K}:∀ {es:Es K},lookE es k=none↔k ∉ es.map (·.1)
 | []=>by simp [lookE,zf6]
 | (a,v,b)::r=>by
  rw [zdh]
  split
  ·rename_i h; simp [h]
  ·rename_i h; rw [lookE_none (es:=r)]; simp [h]
def updE (es:Es K) (k:K) (v:V):Es K:=es.map fun x=>if x.1=k then (x.1,v,x.2.2) else x
theorem updE_keys (es:Es K) (k:K) (v:V):(updE es k v).map (·.1)=es.map (·.1):=by
 unfold updE
 rw [List.map_map]
 apply List.map_congr_left
 intro x _
 simp only [Function.comp]
 split <;> rfl
theorem updE_borns (es:Es K) (k:K) (v:V):(updE es k v).map (·.2.2)=es.map (·.2.2):=by
 unfold updE
 rw [List.map_map]
 apply List.map_congr_left
 intro x _
 simp only [Function.comp]
 split <;> rfl
theorem updE_out {es:Es K} {k:K} (v:V) (h:k ∉ es.map (·.1)):updE es k v=es:=by
 unfold updE
 conv=>rhs; rw [← List.map_id es]
 apply List.map_congr_left
 intro x hx
 have:x.1 ≠ k:=fun e=>h (e ▸ List.mem_map_of_mem hx)
 rw [if_neg this]
 rfl
theorem lookE_upd {k:K} {v:V} (k':K):∀ {es:Es K},k ∈ es.map (·.1)→lookE (updE es k v) k'=if k'=k then some v else lookE es k'
 | [],h=>by cases h
 | (a,u,b)::r,h=>by
  have e:updE ((a,u,b)::r) k v=(if a=k then (a,v,b) else (a,u,b))::updE r k v:=by simp [updE]
  rw [e]
  by_cases hak:a=k
  ·rw [if_pos hak,zdh,zdh]
   by_cases h1:k'=a
   ·rw [if_pos h1,if_pos (h1.trans hak)]
   ·rw [if_neg h1,if_neg (fun q=>h1 (q.trans hak.symm))]
    by_cases hk:k ∈ r.map (·.1)
    ·rw [lookE_upd k' hk,if_neg (fun q=>h1 (q.trans hak.symm)),if_neg h1]
    ·rw [updE_out v hk,if_neg h1]
  ·have hk:k ∈ r.map (·.1):=by
    simp only [List.map_cons,List.mem_cons] at h
    rcases h with h | h
    ·exact absurd h.symm hak
    ·exact h
   rw [if_neg hak,zdh,zdh,lookE_upd k' hk]
   by_cases h1:k'=a
   ·rw [if_pos h1,if_pos h1,if_neg (fun q=>hak (h1.symm.trans q))]
   ·rw [if_neg h1,if_neg h1]
theorem lookE_snoc {k:K} {v:V} {b:Nat} (k':K):∀ {es:Es K},k ∉ es.map (·.1)→lookE (es++[(k,v,b)]) k'=if k'=k then some v else lookE es k'
 | [],_=>by
  show lookE [(k,v,b)] k'=_
  rw [zdh]
 | (a,u,c)::r,h=>by
  simp only [List.map_cons,List.mem_cons,not_or] at h
  rw [List.cons_append,zdh,zdh,lookE_snoc k' h.2]
  by_cases h1:k'=a
  ·rw [if_pos h1,if_pos h1,if_neg (fun q=>h.1 (q.symm.trans h1))]
  ·rw [if_neg h1,if_neg h1]
theorem setE_upd {k:K} (v:V):∀ {es:Es K} {n i:Nat} {u:V} {b:Nat},(es.map (·.1)).Nodup→zf6 k es n=some (n+i,u,b)→setE (esV key es) i v=some (esV key (updE es k v))
 | [],n,i,u,b,_,h=>by cases h
 | (a,w,c)::r,n,i,u,b,hd,h=>by
  have hd1:=List.nodup_cons.1 hd
  have e:updE ((a,w,c)::r) k v=(if a=k then (a,v,c) else (a,w,c))::updE r k v:=by simp [updE]
  rw [zf6] at h
  by_cases hka:k=a
  ·rw [if_pos hka] at h
   simp only [Option.some.injEq,Prod.mk.injEq] at h
   have hi:i=0:=by omega
   subst hi
   subst hka
   rw [e,if_pos rfl,updE_out v hd1.1]
   rfl
  ·rw [if_neg hka] at h
   have hpos:∀ (r:Es K) (m:Nat) (p:Nat × V × Nat),zf6 k r m=some p→m≤p.1:=by
    intro r
    induction r with
    | nil=>intro m p h; cases h
    | cons x r ih=>
     obtain ⟨x1,x2,x3⟩:=x
     intro m p h
     rw [zf6] at h
     split at h
     ·cases h; exact Nat.le_refl _
     ·have:=ih _ _ h; omega
   have:=hpos r (n+1) _ h
   simp only at this
   obtain ⟨i',rfl⟩:∃ i',i=i'+1:=⟨i - 1,by omega⟩
   have ih:=setE_upd v (i:=i') hd1.2 (by rw [h]; congr 2; omega)
   rw [e,if_neg (fun q=>hka q.symm)]
   show ((setE (esV key r) i' v).bind fun l=>some ((key a,w,c)::l))=_
   rw [ih]
   rfl
theorem zh6 {k:K} (v:V):∀ {es:Es K} {n m:Nat} {u:V} {b:Nat},(es.map (·.1)).Nodup→(es.map (·.2.2)).Nodup→zf6 k es n=some (m,u,b)→zlv (esV key es) b v=some (esV key (updE es k v))
 | [],n,m,u,b,_,_,h=>by cases h
 | (a,w,c)::r,n,m,u,b,hd,hb,h=>by
  have hd1:=List.nodup_cons.1 hd
  have hb1:=List.nodup_cons.1 hb
  have e:updE ((a,w,c)::r) k v=(if a=k then (a,v,c) else (a,w,c))::updE r k v:=by simp [updE]
  rw [zf6] at h
  by_cases hka:k=a
  ·rw [if_pos hka] at h
   simp only [Option.some.injEq,Prod.mk.injEq] at h
   obtain ⟨_,_,rfl⟩:=h
   subst hka
   rw [e,if_pos rfl,updE_out v hd1.1]
   show (bif Nat.beq c c then some ((key k,v,c)::esV key r) else _)=_
   rw [Nat.beq_refl]
   rfl
  ·rw [if_neg hka] at h
   have hmem:∀ (r:Es K) (n:Nat) (p:Nat × V × Nat),zf6 k r n=some p→p.2.2 ∈ r.map (·.2.2):=by
    intro r
    induction r with
    | nil=>intro n p h; cases h
    | cons x r ih=>
     obtain ⟨x1,x2,x3⟩:=x
     intro n p h
     rw [zf6] at h
     split at h
     ·cases h; simp
     ·simp [ih _ _ h]
   have hcb:Nat.beq c b=false:=by
    cases q:Nat.beq c b with
    | false=>rfl
    | true=>
     have:=Nat.eq_of_beq_eq_true q
     have h2:=hmem r _ _ h
     simp only at h2
     exact absurd (this ▸ h2) hb1.1
   rw [e,if_neg (fun q=>hka q.symm)]
   show (bif Nat.beq c b then some ((key a,v,c)::esV key r) else (zlv (esV key r) b v).bind fun l=>some ((key a,w,c)::l))=_
   rw [hcb,cond_false,zh6 v hd1.2 hb1.2 h]
   rfl
structure MapIs (key:K→V) (h:Hp) (b:Nat) (f:K→Option V) (es:Es K) (c:Nat):Prop where
 at_:h.t.get b=some (.map (esV key es) c)
 keys:(es.map (·.1)).Nodup
 borns:(es.map (·.2.2)).Nodup
 lt:∀ x ∈ es,x.2.2 < c
 look:∀ k,lookE es k=f k
def zbP (key:K→V) (h:Hp) (b:Nat) (f:K→Option V):Prop:=∃ es c,MapIs key h b f es c
def updF (f:K→Option V) (k:K) (v:V):K→Option V:=fun y=>if y=k then some v else f y
theorem zbP.empty {h:Hp} {b:Nat} (hb:h.t.get b=some (.map [] 0)):zbP key h b fun _=>none:=⟨[],0,hb,by simp,by simp,by simp,fun _=>rfl⟩
theorem zbP.keep {h h':Hp} {b:Nat} {f:K→Option V} (m:zbP key h b f) (e:h'.t.get b=h.t.get b):zbP key h' b f:=by
 obtain ⟨es,c,h1,h2,h3,h4,h5⟩:=m; exact ⟨es,c,e.trans h1,h2,h3,h4,h5⟩
theorem zbP.congr {h:Hp} {b:Nat} {f g:K→Option V} (m:zbP key h b f) (e:∀ k,f k=g k):zbP key h b g:=by
 obtain ⟨es,c,h1,h2,h3,h4,h5⟩:=m; exact ⟨es,c,h1,h2,h3,h4,fun k=>(h5 k).trans (e k)⟩
theorem MapIs.find_some {h:Hp} {b:Nat} {f:K→Option V} {es:Es K} {c:Nat} (m:MapIs key h b f es c) {k:K} {v:V} (hf:f k=some v):∃ i n,zf6 k es 0=some (i,v,n):=by
 have:=m.look k
 rw [hf] at this
 unfold lookE at this
 obtain ⟨⟨i,u,n⟩,h1,h2⟩:=Option.map_eq_some_iff.1 this
 simp only at h2
 subst h2
 exact ⟨i,n,h1⟩
theorem MapIs.find_none {h:Hp} {b:Nat} {f:K→Option V} {es:Es K} {c:Nat} (m:MapIs key h b f es c) {k:K} (hf:f k=none):zf6 k es 0=none∧k ∉ es.map (·.1):=by
 have:=m.look k
 rw [hf] at this
 refine ⟨?_,lookE_none.1 this⟩
 unfold lookE at this
 exact Option.map_eq_none_iff.1 this
theorem zfy {j:TI} (hk:∀ a b,veqK j (key a) (key b)=some (decide (a=b))) (k:K):keyOK j (key k)=true:=by unfold keyOK; rw [hk]; simp
theorem zgj {h:Hp} {b t q e:Nat} (ht:IsMap E t q e) (hq:KeyOf E q key) {f:K→Option V} (m:zbP key h b f) (k:K) {v:V} (hf:f k=some v) (qq:V→Prop):(Pu E).look h t (.mp b) (key k) false qq↔qq v:=by
 obtain ⟨i,h1,h2⟩:=ht
 obtain ⟨j,h3,h4⟩:=hq
 obtain ⟨es,c,m⟩:=m
 obtain ⟨p,n,h5⟩:=m.find_some hf
 have:zcM E h t (.mp b) (key k) false=some v:=by
  simp only [zcM,h1,Option.bind_some,h2,h3,zfy h4,cond_true,zhs,m.at_,zeW (q:=q) h4,h5]
  rfl
 show (∃ u,zcM E h t (.mp b) (key k) false=some u∧qq u)↔_
 rw [this,zT]
theorem pu_look_none {h:Hp} {b t q e:Nat} (ht:IsMap E t q e) (hq:KeyOf E q key) {f:K→Option V} (m:zbP key h b f) (k:K) (hf:f k=none) {z:V} (hz:vzero E e=some z) (qq:V→Prop):(Pu E).look h t (.mp b) (key k) false qq↔qq z:=by
 obtain ⟨i,h1,h2⟩:=ht
 obtain ⟨j,h3,h4⟩:=hq
 obtain ⟨es,c,m⟩:=m
 have h5:=(m.find_none hf).1
 have:zcM E h t (.mp b) (key k) false=some z:=by
  simp only [zcM,h1,Option.bind_some,h2,h3,zfy h4,cond_true,zhs,m.at_,zeW (q:=q) h4,h5,hz]
  rfl
 show (∃ u,zcM E h t (.mp b) (key k) false=some u∧qq u)↔_
 rw [this,zT]
theorem pu_lookok {h:Hp} {b t q e:Nat} (ht:IsMap E t q e) (hq:KeyOf E q key) {f:K→Option V} (m:zbP key h b f) (k:K) {v:V} (hf:f k=some v) (qq:V→Prop):(Pu E).look h t (.mp b) (key k) true qq↔qq (.tup [v,.bool true]):=by
 obtain ⟨i,h1,h2⟩:=ht
 obtain ⟨j,h3,h4⟩:=hq
 obtain ⟨es,c,m⟩:=m
 obtain ⟨p,n,h5⟩:=m.find_some hf
 have:zcM E h t (.mp b) (key k) true=some (.tup [v,.bool true]):=by
  simp only [zcM,h1,Option.bind_some,h2,h3,zfy h4,cond_true,zhs,m.at_,zeW (q:=q) h4,h5]
 show (∃ u,zcM E h t (.mp b) (key k) true=some u∧qq u)↔_
 rw [this,zT]
theorem pu_lookok_none {h:Hp} {b t q e:Nat} (ht:IsMap E t q e) (hq:KeyOf E q key) {f:K→Option V} (m:zbP key h b f) (k:K) (hf:f k=none) {z:V} (hz:vzero E e=some z) (qq:V→Prop):(Pu E).look h t (.mp b) (key k) true qq↔qq (.tup [z,.bool false]):=by
 obtain ⟨i,h1,h2⟩:=ht
 obtain ⟨j,h3,h4⟩:=hq
 obtain ⟨es,c,m⟩:=m
 have h5:=(m.find_none hf).1
 have:zcM E h t (.mp b) (key k) true=some (.tup [z,.bool false]):=by
  simp only [zcM,h1,Option.bind_some,h2,h3,zfy h4,cond_true,zhs,m.at_,zeW (q:=q) h4,h5,hz]
 show (∃ u,zcM E h t (.mp b) (key k) true=some u∧qq u)↔_
 rw [this,zT]
theorem MapIs.upd {h h':Hp} {b:Nat} {f:K→Option V} {es:Es K} {c:Nat} (m:MapIs key h b f es c) {k:K} {u:V} (hf:f k=some u) (v:V) (hb:h'.t.get b=some (.map (esV key (updE es k v)) c)):zbP key h' b (updF f k v):=by
 have hk:k ∈ es.map (·.1):=by
  by_cases hk:k ∈ es.map (·.1)
  ·exact hk
  ·have:=lookE_none.2 hk; rw [m.look,hf] at this; cases this
 refine ⟨_,c,hb,by rw [updE_keys]; exact m.keys,by rw [updE_borns]; exact m.borns,fun x hx=>?_,fun y=>?_⟩
 ·have:x.2.2 ∈ (updE es k v).map (·.2.2):=List.mem_map_of_mem hx
  rw [updE_borns] at this
  obtain ⟨y,hy,e⟩:=List.mem_map.1 this
  rw [← e]; exact m.lt y hy
 ·rw [lookE_upd y hk,m.look]; rfl
theorem pu_mapu {h:Hp} {b t q e:Nat} (ht:IsMap E t q e) (hq:KeyOf E q key) {f:K→Option V} (m:zbP key h b f) (k:K) (v:V) {qq:Hp→Prop}
  (hqq:∀ h1 bl,Wr h h1 b bl→zbP key h1 b (updF f k v)→qq h1):(Pu E).mapu h t (.mp b) (key k) v qq:=by
 obtain ⟨i,h1,h2⟩:=ht
 obtain ⟨j,h3,h4⟩:=hq
 obtain ⟨es,c,m⟩:=m
 cases hf:f k with
 | some u=>
  obtain ⟨p,n,h5⟩:=m.find_some hf
  have hs:=setE_upd (key:=key) v (i:=p) m.keys (by rw [Nat.zero_add]; exact h5)
  refine ⟨h.set b (.map (esV key (updE es k v)) c),?_,hqq _ _ ⟨by rw [Hp.get_set,if_pos rfl],rfl,fun d hd=>by rw [Hp.get_set,if_neg hd]⟩ (m.upd hf v (by rw [Hp.get_set,if_pos rfl]))⟩
  simp only [zfL,h1,Option.bind_some,h2,h3,zfy h4,cond_true,zhs,m.at_,zeW (q:=q) h4,h5,hs]
 | none=>
  obtain ⟨h5,h6⟩:=m.find_none hf
  have e1:esV key es++[(key k,v,c)]=esV key (es++[(k,v,c)]):=by simp [esV]
  refine ⟨h.set b (.map (esV key (es++[(k,v,c)])) (c+1)),?_,hqq _ _ ⟨by rw [Hp.get_set,if_pos rfl],rfl,fun d hd=>by rw [Hp.get_set,if_neg hd]⟩ ⟨es++[(k,v,c)],c+1,by rw [Hp.get_set,if_pos rfl],?_,?_,?_,fun y=>?_⟩⟩
  ·simp only [zfL,h1,Option.bind_some,h2,h3,zfy h4,cond_true,zhs,m.at_,zeW (q:=q) h4,h5,e1]
  ·rw [List.map_append]
   refine List.nodup_append.2 ⟨m.keys,by simp,fun a ha d hd e=>?_⟩
   simp at hd; subst hd; subst e; exact h6 ha
  ·rw [List.map_append]
   refine List.nodup_append.2 ⟨m.borns,by simp,fun a ha d hd e=>?_⟩
   simp at hd; subst hd; subst e
   obtain ⟨x,hx,e2⟩:=List.mem_map.1 ha
   have:=m.lt x hx; omega
  ·intro x hx
   rcases List.mem_append.1 hx with hx | hx
   ·have:=m.lt x hx; omega
   ·simp at hx; subst hx; simp
  ·rw [lookE_snoc y h6,m.look]; rfl
theorem pu_mape {h:Hp} {b t q e:Nat} (ht:IsMap E t q e) (hq:KeyOf E q key) {f:K→Option V} (m:zbP key h b f) (k:K) {v:V} (hf:f k=some v):
  ∃ n:Nat,(∀ qq:V→Hp→Prop,(Pu E).mape h t (.mp b) (key k) qq↔qq (.tup [v,.int .i64 n]) h) ∧
   ∀ (x:V) (kd:IntKind) (qq:Hp→Prop),(∀ h1 bl,Wr h h1 b bl→zbP key h1 b (updF f k x)→qq h1)→(Pu E).ests h (.mp b) (.int kd n) x qq:=by
 obtain ⟨i,h1,h2⟩:=ht
 obtain ⟨j,h3,h4⟩:=hq
 obtain ⟨es,c,m⟩:=m
 obtain ⟨p,n,h5⟩:=m.find_some hf
 refine ⟨n,fun qq=>?_,fun x kd qq hqq=>?_⟩
 ·have:zbG E h t (.mp b) (key k)=some (.tup [v,.int .i64 n],h):=by
   simp only [zbG,h1,Option.bind_some,h2,h3,zfy h4,cond_true,zhs,m.at_,zeW (q:=q) h4,h5]
   rfl
  show (∃ r,zbG E h t (.mp b) (key k)=some r∧qq r.1 r.2)↔_
  rw [this,zT]
 ·have hs:=zh6 (key:=key) x m.keys m.borns h5
  refine ⟨h.set b (.map (esV key (updE es k x)) c),?_,hqq _ _ ⟨by rw [Hp.get_set,if_pos rfl],rfl,fun d hd=>by rw [Hp.get_set,if_neg hd]⟩ (m.upd hf x (by rw [Hp.get_set,if_pos rfl]))⟩
  simp only [zc9,zbV,Option.bind_some,zhs,m.at_,hs]
end
theorem keyOf3 {K:Type} [DecidableEq K] {q:Nat} {key:K→V} (s:K→List Nat) (r c:K→Nat) (hk:∀ k,key k=.agg [.str (s k),.int .i64 (r k),.int .i64 (c k)]) (hi:∀ a b,a=b↔s a=s b∧r a=r b∧c a=c b)
  (h:(E.ty.get q).map (fun j=>(j.plain,(match j.k with | .struct _=>true | _=>false)))=some (some [.str,.int .i64,.int .i64],true)):KeyOf E q key:=by
 obtain ⟨j,h1,h2⟩:=Option.map_eq_some_iff.1 h
 simp only [Prod.mk.injEq] at h2
 obtain ⟨h3,h4⟩:=h2
 refine ⟨j,h1,fun a b=>?_⟩
 have e:veqK j (key a) (key b)=aeq j [.str (s a),.int .i64 (r a),.int .i64 (c a)] [.str (s b),.int .i64 (r b),.int .i64 (c b)]:=by
  rw [hk,hk]
  unfold veqK
  split at h4 <;> first | (cases h4; done) | skip
  rename_i fs hfs
  rw [hfs]
 rw [e]
 unfold aeq
 rw [h3]
 simp only [Option.bind_some,leq,ceq,zci,zbc,cond_true,zet]
 have e2:decide (a=b)=(decide (s a=s b) && (decide (r a=r b) && decide (c a=c b))):=by
  rw [Bool.eq_iff_iff]; simp [hi a b]
 rw [e2]
 have e3:∀ x y:Nat,decide ((x:Int)=(y:Int))=decide (x=y):=fun x y=>by rw [decide_eq_decide]; omega
 rw [e3,e3]
 by_cases q1:s a=s b <;> by_cases q2:r a=r b <;> by_cases q3:c a=c b <;> simp [q1,q2,q3]
end
end Go.Proofs.YtbchdlelmkmagaaGreatDoor.VM
namespace Go.Proofs.YtbchdlelmkmagaaGreatDoor.VM
open Go
set_option linter.unusedVariables false
theorem blt_self (x:Nat):Nat.blt x x=false:=by
 cases h:Nat.blt x x with
 | false=>rfl
 | true=>rw [Nat.blt_eq] at h; omega
theorem zhb:∀ a:List Nat,slt a a=false
 | []=>rfl
 | x::a=>by simp [slt,zhb a,blt_self]
theorem slt_nil (a:List Nat):slt a []=false:=by cases a <;> rfl
theorem slt_cons (x y:Nat) (a b:List Nat):slt (x::a) (y::b)=true↔x < y∨x=y∧slt a b=true:=by
 rw [slt]
 cases h:Nat.blt x y with
 | true=>rw [Nat.blt_eq] at h; simp [h]
 | false=>
  have hxy:¬ x < y:=fun q=>by rw [← Nat.blt_eq] at q; rw [q] at h; cases h
  cases hb:Nat.beq x y with
  | true=>have:=Nat.eq_of_beq_eq_true hb; subst this; simp
  | false=>
   have:x ≠ y:=fun q=>by subst q; simp at hb
   simp [hxy,this]
theorem slt_trans:∀ {a b c:List Nat},slt a b=true→slt b c=true→slt a c=true
 | _,[],_,h,_=>by rw [slt_nil] at h; cases h
 | _,_::_,[],_,h=>by rw [slt_nil] at h; cases h
 | [],_::_,_::_,_,_=>rfl
 | x::a,y::b,z::c,h,k=>by
  rw [slt_cons] at h k ⊢
  rcases h with h | ⟨h,h2⟩ <;> rcases k with k | ⟨k,k2⟩
  ·exact .inl (by omega)
  ·exact .inl (by omega)
  ·exact .inl (by omega)
  ·exact .inr ⟨by omega,slt_trans h2 k2⟩
theorem slt_tri:∀ a b:List Nat,slt a b=true∨a=b∨slt b a=true
 | [],[]=>.inr (.inl rfl)
 | [],_::_=>.inl rfl
 | _::_,[]=>.inr (.inr rfl)
 | x::a,y::b=>by
  rw [slt_cons,slt_cons]
  rcases Nat.lt_trichotomy x y with h | h | h
  ·exact .inl (.inl h)
  ·subst h
   rcases slt_tri a b with h | h | h
   ·exact .inl (.inr ⟨rfl,h⟩)
   ·exact .inr (.inl (by rw [h]))
   ·exact .inr (.inr (.inr ⟨rfl,h⟩))
  ·exact .inr (.inr (.inl h))
theorem slt_asym {a b:List Nat} (h:slt a b=true):slt b a=false:=by
 cases k:slt b a with
 | false=>rfl
 | true=>have:=slt_trans h k; rw [zhb] at this; cases this
structure Spt where
 s:List Nat
 r:Nat
 c:Nat
 deriving DecidableEq
def sp0:Spt:=⟨[],0,0⟩
def spLt (a b:Spt):Bool:=slt a.s b.s || (decide (a.s=b.s) && (decide (a.r < b.r) || (decide (a.r=b.r) && decide (a.c < b.c))))
theorem zcI (a b:Spt):spLt a b=true↔slt a.s b.s=true∨a.s=b.s∧(a.r < b.r∨a.r=b.r∧a.c < b.c):=by simp [spLt]
theorem zh1 (a:Spt):spLt a a=false:=by
 cases h:spLt a a with
 | false=>rfl
 | true=>
  rw [zcI,zhb] at h
  rcases h with h | ⟨_,h⟩
  ·cases h
  ·omega
theorem zkb {a b c:Spt} (h:spLt a b=true) (k:spLt b c=true):spLt a c=true:=by
 rw [zcI] at h k ⊢
 rcases h with h | ⟨h,h2⟩ <;> rcases k with k | ⟨k,k2⟩
 ·exact .inl (slt_trans h k)
 ·exact .inl (by rw [← k]; exact h)
 ·exact .inl (by rw [h]; exact k)
 ·exact .inr ⟨h.trans k,by omega⟩
theorem spLt_tri (a b:Spt):spLt a b=true∨a=b∨spLt b a=true:=by
 rw [zcI,zcI]
 rcases slt_tri a.s b.s with h | h | h
 ·exact .inl (.inl h)
 ·rcases (by omega:a.r < b.r∨a.r=b.r∨b.r < a.r) with k | k | k
  ·exact .inl (.inr ⟨h,.inl k⟩)
  ·rcases (by omega:a.c < b.c∨a.c=b.c∨b.c < a.c) with q | q | q
   ·exact .inl (.inr ⟨h,.inr ⟨k,q⟩⟩)
   ·exact .inr (.inl (by obtain ⟨x,y,z⟩:=a; obtain ⟨u,v,w⟩:=b; simp only at h k q; rw [h,k,q]))
   ·exact .inr (.inr (.inr ⟨h.symm,.inr ⟨k.symm,q⟩⟩))
  ·exact .inr (.inr (.inr ⟨h.symm,.inl k⟩))
 ·exact .inr (.inr (.inl h))
theorem spLt_asym {a b:Spt} (h:spLt a b=true):spLt b a=false:=by
 cases k:spLt b a with
 | false=>rfl
 | true=>have:=zkb h k; rw [zh1] at this; cases this
def zjd (L:List Spt) (i k:Nat):Bool:=spLt (L.getD i sp0) (L.getD k sp0)
def zc7 (L:List Spt) (i k:Nat):List Spt:=(L.set i (L.getD k sp0)).set k (L.getD i sp0)
theorem zdY (L:List Spt) (i k:Nat):(zc7 L i k).length=L.length:=by simp [zc7]
def upL (L:List Spt) (j:Nat):List Spt:=
 if j=0 then L else if zjd L j ((j - 1) / 2)=true then upL (zc7 L ((j - 1) / 2) j) ((j - 1) / 2) else L
termination_by j
decreasing_by omega
def zed (L:List Spt) (i n:Nat):Nat:=if 2 * i+1+1 < n∧zjd L (2 * i+1+1) (2 * i+1)=true then 2 * i+1+1 else 2 * i+1
def zej (L:List Spt) (i n:Nat):List Spt:=
 if n≤2 * i+1 then L else if zjd L (zed L i n) i=true then zej (zc7 L i (zed L i n)) (zed L i n) n else L
termination_by n - i
decreasing_by
 have:2 * i+1≤zed L i n:=by unfold zed; split <;> omega
 omega
theorem upL_len (L:List Spt) (j:Nat):(upL L j).length=L.length:=by
 induction j using Nat.strongRecOn generalizing L with
 | ind j ih=>
  rw [upL]
  split
  ·rfl
  ·split
   ·rw [ih _ (by omega),zdY]
   ·rfl
theorem downL_len (n:Nat):∀ (m:Nat) (L:List Spt) (i:Nat),n - i≤m→(zej L i n).length=L.length:=by
 intro m
 induction m with
 | zero=>
  intro L i h
  rw [zej,if_pos (by omega)]
 | succ m ih=>
  intro L i h
  rw [zej]
  split
  ·rfl
  ·split
   ·have:2 * i+1≤zed L i n:=by unfold zed; split <;> omega
    rw [ih _ _ (by omega),zdY]
   ·rfl
theorem swapL_get {L:List Spt} {i k m:Nat} (h1:m ≠ i) (h2:m ≠ k):(zc7 L i k)[m]? = L[m]?:=by
 unfold zc7
 rw [List.getElem?_set_ne (Ne.symm h2),List.getElem?_set_ne (Ne.symm h1)]
theorem downL_get' (n:Nat):∀ (f:Nat) (L:List Spt) (i:Nat),n - i≤f→i < n∨n≤2 * i+1→(zej L i n)[n]? = L[n]?:=by
 intro f
 induction f with
 | zero=>
  intro L i h _
  rw [zej,if_pos (by omega)]
 | succ f ih=>
  intro L i h h2
  rw [zej]
  split
  ·rfl
  ·rename_i hlt
   split
   ·have h3:2 * i+1≤zed L i n:=by unfold zed; split <;> omega
    have h4:zed L i n < n:=by
     unfold zed
     split
     ·rename_i hh; exact hh.1
     ·omega
    rw [ih _ _ (by omega) (.inl h4),swapL_get (by omega) (by omega)]
   ·rfl
theorem downL_get (n:Nat) (L:List Spt) (i:Nat) (hi:i≤n):(zej L i n)[n]? = L[n]?:=downL_get' n (n - i) L i (Nat.le_refl _) (by omega)
theorem swap_last {L:List Spt} {n:Nat} {x:Spt} (hn:L.length - 1=n) (h0:0 < L.length) (hx:L[0]? = some x):(zc7 L 0 n)[n]? = some x:=by
 unfold zc7
 rw [List.getElem?_set_self (by rw [List.length_set]; omega)]
 obtain ⟨h,e⟩:=List.getElem?_eq_some_iff.1 hx
 simp [List.getD,hx]
theorem getD_some {L:List Spt} {i:Nat} (h:i < L.length):L[i]? = some (L.getD i sp0):=by simp [List.getD,h]
def ziW (L:List Spt) (x:Spt):List Spt:=upL (L++[x]) L.length
def zfV (L:List Spt):List Spt:=(zej (zc7 L 0 (L.length - 1)) 0 (L.length - 1)).take (L.length - 1)
def spLe (a b:Spt):Prop:=spLt b a=false
theorem spLe_of_not {a b:Spt} (h:¬ spLt b a=true):spLe a b:=by unfold spLe; simpa using h
theorem zdm {a b:Spt} (h:spLt a b=true):spLe a b:=spLt_asym h
theorem spLe.refl (a:Spt):spLe a a:=zh1 a
theorem spLe.cases {a b:Spt} (h:spLe a b):a=b∨spLt a b=true:=by
 rcases spLt_tri a b with k | k | k
 ·exact .inr k
 ·exact .inl k
 ·unfold spLe at h; rw [k] at h; cases h
theorem spLe.trans {a b c:Spt} (h:spLe a b) (k:spLe b c):spLe a c:=by
 rcases h.cases with rfl | h
 ·exact k
 ·rcases k.cases with rfl | k
  ·exact zdm h
  ·exact zdm (zkb h k)
theorem lessL_iff {L:List Spt} {i k:Nat}:zjd L i k=true↔spLt (L.getD i sp0) (L.getD k sp0)=true:=Iff.rfl
theorem lessL_not {L:List Spt} {i k:Nat} (h:¬ zjd L i k=true):spLe (L.getD k sp0) (L.getD i sp0):=spLe_of_not (fun h2=>h (lessL_iff.2 h2))
section
variable {L:List Spt} {i k m:Nat}
theorem swapD_l (hi:i < L.length) (hne:i ≠ k):(zc7 L i k).getD i sp0=L.getD k sp0:=by
 unfold zc7
 simp [List.getD,hi,Ne.symm hne]
theorem swapD_r (hk:k < L.length):(zc7 L i k).getD k sp0=L.getD i sp0:=by
 unfold zc7
 simp [List.getD,hk]
theorem zg1 (h1:m ≠ i) (h2:m ≠ k):(zc7 L i k).getD m sp0=L.getD m sp0:=by
 rw [List.getD_eq_getElem?_getD,List.getD_eq_getElem?_getD,swapL_get h1 h2]
theorem swap_perm (hi:i < L.length) (hk:k < L.length):(zc7 L i k).Perm L:=by
 have h:=Array.swap_perm (xs:=L.toArray) (i:=i) (j:=k) (by simpa using hi) (by simpa using hk)
 have h2:=Array.perm_iff_toList_perm.1 h
 rw [Array.toList_swap] at h2
 simp only [List.getElem_toArray] at h2
 unfold zc7
 have e1:L.getD k sp0=L[k]:=by simp [List.getD,hk]
 have e2:L.getD i sp0=L[i]:=by simp [List.getD,hi]
 rw [e1,e2]
 exact h2
end
def Up (L:List Spt) (n:Nat):Prop:=∀ k,0 < k→k < n→spLe (L.getD ((k - 1) / 2) sp0) (L.getD k sp0)
theorem Up.first {L:List Spt} {n:Nat} (h:Up L n):∀ k,k < n→spLe (L.getD 0 sp0) (L.getD k sp0):=by
 intro k
 induction k using Nat.strongRecOn with
 | ind k ih=>
  intro hk
  by_cases h0:k=0
  ·subst h0; exact spLe.refl _
  ·exact (ih _ (by omega) (by omega)).trans (h k (by omega) hk)
theorem upL_heap:∀ (j:Nat) (L:List Spt),j < L.length→(∀ k,0 < k→k < L.length→k ≠ j→spLe (L.getD ((k - 1) / 2) sp0) (L.getD k sp0)) →
  (∀ k,0 < k→k < L.length→(k - 1) / 2=j→0 < j→spLe (L.getD ((j - 1) / 2) sp0) (L.getD k sp0))→Up (upL L j) L.length∧(upL L j).Perm L:=by
 intro j
 induction j using Nat.strongRecOn with
 | ind j ih=>
  intro L hj h1 h2
  rw [upL]
  by_cases h0:j=0
  ·rw [if_pos h0]
   exact ⟨fun k hk hkl=>h1 k hk hkl (by omega),List.Perm.refl _⟩
  ·rw [if_neg h0]
   obtain ⟨i,hi⟩:∃ i,(j - 1) / 2=i:=⟨_,rfl⟩
   rw [hi]
   have hij:i < j:=by omega
   by_cases hl:zjd L j i=true
   ·rw [if_pos hl]
    have hlt:=zdm (lessL_iff.1 hl)
    have hlen:=zdY L i j
    have hr:=ih i hij (zc7 L i j) (by rw [hlen]; omega) (fun k hk hkl hki=>?_) (fun k hk hkl hpk hi0=>?_)
    ·rw [hlen] at hr
     exact ⟨hr.1,hr.2.trans (swap_perm (by omega) hj)⟩
    ·rw [hlen] at hkl
     by_cases hkj:k=j
     ·subst hkj
      rw [hi,swapD_l (by omega) (by omega),swapD_r hj]
      exact hlt
     ·rw [zg1 (m:=k) hki hkj]
      by_cases hp1:(k - 1) / 2=i
      ·rw [hp1,swapD_l (by omega) (by omega)]
       have:=h1 k hk hkl hkj
       rw [hp1] at this
       exact hlt.trans this
      ·by_cases hp2:(k - 1) / 2=j
       ·rw [hp2,swapD_r hj]
        have:=h2 k hk hkl hp2 (by omega)
        rw [hi] at this
        exact this
       ·rw [zg1 hp1 hp2]
        exact h1 k hk hkl hkj
    ·rw [hlen] at hkl
     rw [zg1 (m:=(i - 1) / 2) (by omega) (by omega)]
     have hpi:=h1 i hi0 (by omega) (by omega)
     by_cases hkj:k=j
     ·subst hkj
      rw [swapD_r hj]
      exact hpi
     ·rw [zg1 (m:=k) (by omega) hkj]
      have:=h1 k hk hkl hkj
      rw [hpk] at this
      exact hpi.trans this
   ·rw [if_neg hl]
    refine ⟨fun k hk hkl=>?_,List.Perm.refl _⟩
    by_cases hkj:k=j
    ·subst hkj
     rw [hi]
     exact lessL_not hl
    ·exact h1 k hk hkl hkj
theorem downJ_spec {L:List Spt} {i n:Nat} (h:¬ n≤2 * i+1):zed L i n < n∧(zed L i n - 1) / 2=i∧i < zed L i n∧∀ k,0 < k→k < n→(k - 1) / 2=i→spLe (L.getD (zed L i n) sp0) (L.getD k sp0):=by
 unfold zed
 by_cases hc:2 * i+1+1 < n∧zjd L (2 * i+1+1) (2 * i+1)=true
 ·rw [if_pos hc]
  refine ⟨hc.1,by omega,by omega,fun k hk hkn hp=>?_⟩
  rcases (by omega:k=2 * i+1+1∨k=2 * i+1) with rfl | rfl
  ·exact spLe.refl _
  ·exact zdm (lessL_iff.1 hc.2)
 ·rw [if_neg hc]
  refine ⟨by omega,by omega,by omega,fun k hk hkn hp=>?_⟩
  rcases (by omega:k=2 * i+1+1∨k=2 * i+1) with rfl | rfl
  ·exact lessL_not (fun h2=>hc ⟨hkn,h2⟩)
  ·exact spLe.refl _
theorem downL_heap (n:Nat):∀ (f:Nat) (L:List Spt) (i:Nat),n - i≤f→n≤L.length→(∀ k,0 < k→k < n→(k - 1) / 2 ≠ i→spLe (L.getD ((k - 1) / 2) sp0) (L.getD k sp0)) →
  (∀ k,0 < k→k < n→(k - 1) / 2=i→0 < i→spLe (L.getD ((i - 1) / 2) sp0) (L.getD k sp0))→Up (zej L i n) n∧(zej L i n).Perm L:=by
 intro f
 induction f with
 | zero=>
  intro L i hf hn h1 h2
  rw [zej,if_pos (by omega)]
  exact ⟨fun k hk hkn=>h1 k hk hkn (by omega),List.Perm.refl _⟩
 | succ f ih=>
  intro L i hf hn h1 h2
  rw [zej]
  by_cases he:n≤2 * i+1
  ·rw [if_pos he]
   exact ⟨fun k hk hkn=>h1 k hk hkn (by omega),List.Perm.refl _⟩
  ·rw [if_neg he]
   obtain ⟨hjn,hpj,hij,hmin⟩:=downJ_spec (L:=L) he
   obtain ⟨j,hj⟩:∃ j,zed L i n=j:=⟨_,rfl⟩
   rw [hj] at hjn hpj hij hmin ⊢
   by_cases hl:zjd L j i=true
   ·rw [if_pos hl]
    have hlt:=zdm (lessL_iff.1 hl)
    have hlen:=zdY L i j
    have hr:=ih (zc7 L i j) j (by omega) (by omega) (fun k hk hkn hpk=>?_) (fun k hk hkn hpk hj0=>?_)
    ·exact ⟨hr.1,hr.2.trans (swap_perm (by omega) (by omega))⟩
    ·by_cases hp:(k - 1) / 2=i
     ·rw [hp,swapD_l (by omega) (by omega)]
      by_cases hkj:k=j
      ·subst hkj
       rw [swapD_r (by omega)]
       exact hlt
      ·rw [zg1 (m:=k) (by omega) hkj]
       exact hmin k hk hkn hp
     ·rw [zg1 (m:=(k - 1) / 2) hp hpk]
      by_cases hki:k=i
      ·subst hki
       rw [swapD_l (by omega) (by omega)]
       exact h2 j (by omega) hjn hpj hk
      ·have hkj:k ≠ j:=fun e=>hp (e ▸ hpj)
       rw [zg1 (m:=k) hki hkj]
       exact h1 k hk hkn hp
    ·rw [hpj,swapD_l (by omega) (by omega),zg1 (m:=k) (by omega) (by omega)]
     have:=h1 k hk hkn (by omega)
     rw [hpk] at this
     exact this
   ·rw [if_neg hl]
    refine ⟨fun k hk hkn=>?_,List.Perm.refl _⟩
    by_cases hp:(k - 1) / 2=i
    ·rw [hp]
     exact (lessL_not hl).trans (hmin k hk hkn hp)
    ·exact h1 k hk hkn hp
theorem hpush_heap {L:List Spt} (h:Up L L.length) (x:Spt):Up (ziW L x) (ziW L x).length∧(ziW L x).Perm (L++[x]):=by
 have hg:∀ m,m < L.length→(L++[x]).getD m sp0=L.getD m sp0:=fun m hm=>by
  simp [List.getD,List.getElem?_append_left hm]
 have hr:=upL_heap L.length (L++[x]) (by simp) (fun k hk hkl hne=>by
  have hkl2:k < L.length:=by simp at hkl; omega
  rw [hg _ hkl2,hg _ (by omega)]
  exact h k hk hkl2) (fun k hk hkl hp hj=>by simp at hkl; omega)
 have hlen:(ziW L x).length=(L++[x]).length:=upL_len _ _
 rw [hlen]
 exact hr
theorem hpop_heap {L:List Spt} (h:Up L L.length) {x:Spt} (hx:L[0]? = some x):Up (zfV L) (zfV L).length∧(x::zfV L).Perm L∧∀ y ∈ L,spLe x y:=by
 have hl0:0 < L.length:=(List.getElem?_eq_some_iff.1 hx).1
 obtain ⟨n,hn⟩:∃ n,L.length - 1=n:=⟨_,rfl⟩
 have hlen:=zdY L 0 n
 have hr:=downL_heap n n (zc7 L 0 n) 0 (by omega) (by omega) (fun k hk hkn hp=>by
  rw [zg1 (m:=k) (by omega) (by omega),zg1 (by omega) (by omega)]
  exact h k hk (by omega)) (fun k _ _ _ h0=>absurd h0 (by omega))
 have hdl:(zej (zc7 L 0 n) 0 n).length=L.length:=by rw [downL_len n n _ _ (by omega),hlen]
 have hlast:(zej (zc7 L 0 n) 0 n)[n]? = some x:=by rw [downL_get _ _ _ (Nat.zero_le _)]; exact swap_last hn hl0 hx
 have hpl:(zfV L).length=n:=by unfold zfV; rw [hn,List.length_take,hdl]; omega
 refine ⟨?_,?_,fun y hy=>?_⟩
 ·rw [hpl]
  intro k hk hkn
  have hg:∀ m,m < n→(zfV L).getD m sp0=(zej (zc7 L 0 n) 0 n).getD m sp0:=fun m hm=>by
   unfold zfV
   rw [hn]
   simp [List.getD,hm]
  rw [hg _ hkn,hg _ (by omega)]
  exact hr.1 k hk hkn
 ·have e:zej (zc7 L 0 n) 0 n=zfV L++[x]:=by
   unfold zfV
   rw [hn]
   conv=>lhs; rw [← List.take_append_drop n (zej (zc7 L 0 n) 0 n)]
   congr 1
   obtain ⟨hd,e1⟩:=List.getElem?_eq_some_iff.1 hlast
   rw [List.drop_eq_getElem_cons hd,e1]
   congr 1
   exact List.drop_eq_nil_of_le (by omega)
  have p1:(zfV L++[x]).Perm L:=by rw [← e]; exact hr.2.trans (swap_perm hl0 (by omega))
  exact (List.perm_append_comm (l₁:=[x]) (l₂:=zfV L)).trans p1
 ·obtain ⟨k,hk,e⟩:=List.mem_iff_getElem.1 hy
  have:=h.first k hk
  have e0:L.getD 0 sp0=x:=by simp [List.getD,hx]
  have ek:L.getD k sp0=y:=by simp [List.getD,hk,e]
  rw [e0,ek] at this
  exact this
end Go.Proofs.YtbchdlelmkmagaaGreatDoor.VM
namespace Go.Proofs.YtbchdlelmkmagaaGreatDoor.VM
open Go
set_option linter.unusedVariables false
def Ris (l:List Spt):Prop:=l.Pairwise fun a b=>spLt a b=true
theorem Ris.nodup {l:List Spt} (h:Ris l):l.Nodup:=by
 refine List.Pairwise.imp (fun {a b} k e=>?_) h
 subst e; rw [zh1] at k; cases k
theorem Ris.sub {l m:List Spt} (h:Ris l) (s:m.Sublist l):Ris m:=List.Pairwise.sublist s h
def waits (ns left:List Spt):Bool:=ns.any fun n=>left.contains n
def pickR (nd:Spt→List Spt) (left:List Spt):Option Spt:=left.find? fun s=>!waits (nd s) left
def zbp (nd:Spt→List Spt):Nat→List Spt→List Spt × List Spt
 | 0,left=>([],left)
 | f+1,left=>match pickR nd left with
  | none=>([],left)
  | some s=>(s::(zbp nd f (left.erase s)).1,(zbp nd f (left.erase s)).2)
def zdi (nd:Spt→List Spt) (F:List Spt) (n:Spt):List Spt:=F.filter fun s=>(nd s).contains n
def decC (c:Spt→Nat) (u:Spt):Spt→Nat:=fun y=>if y=u then c u - 1 else c y
def zez:List Spt→(Spt→Nat)→List Spt→(Spt→Nat) × List Spt
 | [],c,q=>(c,q)
 | u::us,c,q=>zez us (decC c u) (if decC c u u=0 then ziW q u else q)
theorem relax_snoc (us:List Spt) (u:Spt):∀ (c:Spt→Nat) (q:List Spt),zez (us++[u]) c q=(decC (zez us c q).1 u,if decC (zez us c q).1 u u=0 then ziW (zez us c q).2 u else (zez us c q).2):=by
 induction us with
 | nil=>intro c q; rfl
 | cons x us ih=>intro c q; exact ih _ _
theorem relax_ok:∀ (us:List Spt) (c:Spt→Nat) (q:List Spt),us.Nodup→Up q q.length →
  (∀ y,(zez us c q).1 y=if y ∈ us then c y - 1 else c y)∧Up (zez us c q).2 (zez us c q).2.length∧(zez us c q).2.Perm (q++us.filter fun u=>decide (c u - 1=0))
 | [],c,q,_,h=>⟨fun y=>by simp [zez],h,by simp [zez]⟩
 | u::us,c,q,hd,h=>by
  have hd1:=(List.nodup_cons.1 hd).1
  have hd2:=(List.nodup_cons.1 hd).2
  have e:decC c u u=c u - 1:=by simp [decC]
  have hq:Up (if decC c u u=0 then ziW q u else q) (if decC c u u=0 then ziW q u else q).length:=by
   split
   ·exact (hpush_heap h u).1
   ·exact h
  obtain ⟨h1,h2,h3⟩:=relax_ok us (decC c u) _ hd2 hq
  refine ⟨fun y=>?_,h2,?_⟩
  ·rw [zez,h1]
   by_cases hy:y=u
   ·subst hy
    rw [if_neg hd1,if_pos (by simp),e]
   ·have:decC c u y=c y:=by simp [decC,hy]
    simp [this,hy]
  ·rw [zez]
   refine h3.trans ?_
   have hf:us.filter (fun x=>decide (decC c u x - 1=0))=us.filter fun x=>decide (c x - 1=0):=by
    apply List.filter_congr
    intro x hx
    have:x ≠ u:=fun q=>hd1 (q ▸ hx)
    simp [decC,this]
   rw [hf,e]
   by_cases hz:c u - 1=0
   ·rw [if_pos hz,List.filter_cons_of_pos (by simpa using hz)]
    refine ((hpush_heap h u).2.append_right _).trans ?_
    rw [List.append_assoc]
    exact List.Perm.refl _
   ·rw [if_neg hz,List.filter_cons_of_neg (by simpa using hz)]
def zgu (ns R:List Spt):Nat:=(ns.filter fun n=>R.contains n).length
theorem filter_ne (p:Spt→Bool) (x:Spt):∀ (l:List Spt),l.Nodup→(l.filter fun n=>decide (n ≠ x) && p n).length+(if x ∈ l∧p x=true then 1 else 0)=(l.filter p).length
 | [],_=>by simp
 | y::l,hd=>by
  have ih:=filter_ne p x l (List.nodup_cons.1 hd).2
  have hy:=(List.nodup_cons.1 hd).1
  by_cases hxy:y=x
  ·subst hxy
   rw [List.filter_cons_of_neg (by simp)]
   have h0:¬ (y ∈ l∧p y=true):=fun h=>hy h.1
   rw [if_neg h0] at ih
   cases hp:p y with
   | true=>rw [if_pos ⟨by simp,rfl⟩,List.filter_cons_of_pos hp,List.length_cons,← ih]
   | false=>rw [if_neg (by simp),List.filter_cons_of_neg (by simp [hp]),← ih]
  ·have h1:(x ∈ y::l∧p x=true)↔(x ∈ l∧p x=true):=by
    have:x ≠ y:=fun e=>hxy e.symm
    simp [this]
   simp only [h1]
   cases hp:p y with
   | true=>rw [List.filter_cons_of_pos (by simp [hxy,hp]),List.filter_cons_of_pos hp,List.length_cons,List.length_cons,← ih]; omega
   | false=>rw [List.filter_cons_of_neg (by simp [hp]),List.filter_cons_of_neg (by simp [hp]),ih]
theorem want_erase {ns R:List Spt} (hn:ns.Nodup) (hR:R.Nodup) {x:Spt} (hx:x ∈ R):zgu ns (R.erase x)=if x ∈ ns then zgu ns R - 1 else zgu ns R:=by
 have h:=filter_ne (fun n=>R.contains n) x ns hn
 have e:(ns.filter fun n=>(R.erase x).contains n)=ns.filter fun n=>decide (n ≠ x) && R.contains n:=by
  apply List.filter_congr
  intro n _
  rw [Bool.eq_iff_iff]
  simp [hR.mem_erase_iff]
 unfold zgu
 rw [e]
 by_cases hxn:x ∈ ns
 ·rw [if_pos ⟨hxn,by simpa using hx⟩] at h
  rw [if_pos hxn]; omega
 ·rw [if_neg (fun q=>hxn q.1)] at h
  rw [if_neg hxn]; omega
theorem want_zero {ns R:List Spt}:zgu ns R=0↔waits ns R=false:=by
 unfold zgu waits
 rw [List.length_eq_zero_iff,List.filter_eq_nil_iff,List.any_eq_false]
theorem filter_sub:∀ {R F:List Spt},F.Nodup→R.Sublist F→(F.filter fun s=>R.contains s)=R
 | _,[],_,h=>by cases h; rfl
 | R,f::F,hd,h=>by
  have hd1:=(List.nodup_cons.1 hd).1
  have hd2:=(List.nodup_cons.1 hd).2
  cases h with
  | cons _ h=>
   have hf:f ∉ R:=fun q=>hd1 (h.mem q)
   rw [List.filter_cons_of_neg (by simpa using hf)]
   exact filter_sub hd2 h
  | cons_cons _ h=>
   rename_i R
   rw [List.filter_cons_of_pos (by simp)]
   congr 1
   have e:(F.filter fun s=>(f::R).contains s)=F.filter fun s=>R.contains s:=by
    apply List.filter_congr
    intro s hs
    have:s ≠ f:=fun q=>hd1 (q ▸ hs)
    simp [this]
   rw [e]
   exact filter_sub hd2 h
structure OInv (nd:Spt→List Spt) (F R:List Spt) (c:Spt→Nat) (q:List Spt):Prop where
 sub:R.Sublist F
 ris:Ris F
 nod:∀ s ∈ F,(nd s).Nodup
 cnt:∀ s ∈ F,c s=zgu (nd s) R
 gone:∀ s ∈ F,s ∉ R→c s=0
 up:Up q q.length
 perm:q.Perm (R.filter fun s=>decide (c s=0))
theorem OInv.risR {nd:Spt→List Spt} {F R:List Spt} {c:Spt→Nat} {q:List Spt} (I:OInv nd F R c q):Ris R:=I.ris.sub I.sub
theorem OInv.filter {nd:Spt→List Spt} {F R:List Spt} {c:Spt→Nat} {q:List Spt} (I:OInv nd F R c q):(R.filter fun s=>decide (c s=0))=R.filter fun s=>!waits (nd s) R:=by
 apply List.filter_congr
 intro s hs
 have h:=I.cnt s (I.sub.mem hs)
 rw [h,Bool.eq_iff_iff,decide_eq_true_iff,want_zero]
 simp
theorem OInv.pick {nd:Spt→List Spt} {F R:List Spt} {c:Spt→Nat} {q:List Spt} (I:OInv nd F R c q) {x:Spt} (hx:q[0]? = some x):pickR nd R=some x∧x ∈ R∧c x=0:=by
 have hm:=(hpop_heap I.up hx).2.2
 have hxq:x ∈ q:=List.mem_of_getElem? hx
 have hxf:=I.perm.mem_iff.1 hxq
 have hall:∀ y ∈ R.filter (fun s=>decide (c s=0)),spLe x y:=fun y hy=>hm y (I.perm.mem_iff.2 hy)
 have hx2:x ∈ R∧c x=0:=by simpa using hxf
 refine ⟨?_,hx2⟩
 unfold pickR
 rw [← List.head?_filter,← I.filter]
 have hs:Ris (R.filter fun s=>decide (c s=0)):=I.risR.sub List.filter_sublist
 revert hxf hall hs
 generalize R.filter (fun s=>decide (c s=0))=f
 intro hxf hall hs
 cases f with
 | nil=>cases hxf
 | cons y t=>
  rcases List.mem_cons.1 hxf with rfl | hxt
  ·rfl
  ·have h1:=(List.pairwise_cons.1 hs).1 x hxt
   have h2:=hall y (by simp)
   unfold spLe at h2
   rw [h1] at h2
   cases h2
theorem OInv.step {nd:Spt→List Spt} {F R:List Spt} {c:Spt→Nat} {q:List Spt} (I:OInv nd F R c q) {x:Spt} (hx:q[0]? = some x):
  OInv nd F (R.erase x) (zez (zdi nd F x) c (zfV q)).1 (zez (zdi nd F x) c (zfV q)).2:=by
 obtain ⟨_,hxR,hx0⟩:=I.pick hx
 obtain ⟨hu,hp,_⟩:=hpop_heap I.up hx
 have hRn:=I.risR.nodup
 have hFn:=I.ris.nodup
 have hun:(zdi nd F x).Nodup:=hFn.filter _
 obtain ⟨h1,h2,h3⟩:=relax_ok (zdi nd F x) c (zfV q) hun hu
 have hmem:∀ u,u ∈ zdi nd F x↔u ∈ F∧x ∈ nd u:=fun u=>by unfold zdi; simp
 have huR:∀ u ∈ zdi nd F x,u ∈ R∧u ≠ x∧1≤c u:=fun u hu=>by
  obtain ⟨h4,h5⟩:=(hmem u).1 hu
  have h6:1≤c u:=by
   rw [I.cnt u h4]
   unfold zgu
   have:x ∈ (nd u).filter fun n=>R.contains n:=by simp [h5,hxR]
   exact List.length_pos_of_mem this
  refine ⟨?_,fun e=>?_,h6⟩
  ·by_cases h7:u ∈ R
   ·exact h7
   ·have:=I.gone u h4 h7; omega
  ·subst e; omega
 have hcnt:∀ s ∈ F,(zez (zdi nd F x) c (zfV q)).1 s=zgu (nd s) (R.erase x):=fun s hs=>by
  rw [h1,want_erase (I.nod s hs) hRn hxR,I.cnt s hs]
  by_cases h4:x ∈ nd s
  ·rw [if_pos ((hmem s).2 ⟨hs,h4⟩),if_pos h4]
  ·rw [if_neg (fun h=>h4 ((hmem s).1 h).2),if_neg h4]
 refine ⟨List.erase_sublist.trans I.sub,I.ris,I.nod,hcnt,fun s hs hsR=>?_,h2,?_⟩
 ·rw [h1]
  rw [hRn.mem_erase_iff] at hsR
  by_cases hsx:s=x
  ·subst hsx
   split <;> omega
  ·have h4:s ∉ R:=fun h=>hsR ⟨hsx,h⟩
   have:=I.gone s hs h4
   split <;> omega
 ·
  refine h3.trans ?_
  have hqn:q.Nodup:=I.perm.nodup_iff.2 (hRn.filter _)
  have hxn:(x::zfV q).Nodup:=hp.nodup_iff.2 hqn
  have hx1:=(List.nodup_cons.1 hxn).1
  have hmq:∀ a,a ∈ zfV q↔a ≠ x∧a ∈ R∧c a=0:=fun a=>by
   have h4:a ∈ q↔a=x∨a ∈ zfV q:=by rw [← hp.mem_iff,List.mem_cons]
   have h5:a ∈ q↔a ∈ R∧c a=0:=by rw [I.perm.mem_iff]; simp
   constructor
   ·intro h
    exact ⟨fun e=>hx1 (e ▸ h),h5.1 (h4.2 (.inr h))⟩
   ·rintro ⟨h6,h7⟩
    rcases h4.1 (h5.2 h7) with h8 | h8
    ·exact absurd h8 h6
    ·exact h8
  refine (List.perm_ext_iff_of_nodup ?_ ?_).2 fun a=>?_
  ·refine List.nodup_append.2 ⟨(List.nodup_cons.1 hxn).2,hun.filter _,fun a ha b hb e=>?_⟩
   subst e
   have h4:=((hmq a).1 ha).2.2
   have h5:=(huR a (List.mem_filter.1 hb).1).2.2
   omega
  ·exact (hRn.erase x).filter _
  ·rw [List.mem_append,hmq,List.mem_filter,List.mem_filter,hRn.mem_erase_iff,h1]
   simp only [decide_eq_true_iff]
   by_cases hau:a ∈ zdi nd F x
   ·obtain ⟨h4,h5,h6⟩:=huR a hau
    rw [if_pos hau]
    constructor
    ·rintro (⟨_,_,h7⟩ | ⟨_,h7⟩)
     ·omega
     ·exact ⟨⟨h5,h4⟩,h7⟩
    ·rintro ⟨_,h7⟩
     exact .inr ⟨hau,h7⟩
   ·rw [if_neg hau]
    constructor
    ·rintro (⟨h7,h8,h9⟩ | ⟨h7,_⟩)
     ·exact ⟨⟨h7,h8⟩,h9⟩
     ·exact absurd h7 hau
    ·rintro ⟨⟨h7,h8⟩,h9⟩
     exact .inl ⟨h7,h8,h9⟩
theorem OInv.stop {nd:Spt→List Spt} {F R:List Spt} {c:Spt→Nat} (I:OInv nd F R c []):pickR nd R=none∧(F.filter fun s=>decide (0 < c s))=R:=by
 have hnil:(R.filter fun s=>decide (c s=0))=[]:=List.Perm.eq_nil I.perm.symm
 refine ⟨?_,?_⟩
 ·unfold pickR
  rw [← List.head?_filter,← I.filter,hnil]
  rfl
 ·have hall:∀ s ∈ R,0 < c s:=fun s hs=>by
   have:=List.filter_eq_nil_iff.1 hnil s hs
   simp only [decide_eq_true_iff] at this
   omega
  have e1:(F.filter fun s=>decide (0 < c s))=F.filter fun s=>R.contains s:=by
   apply List.filter_congr
   intro s hs
   rw [Bool.eq_iff_iff,decide_eq_true_iff]
   simp only [List.contains_iff_mem]
   constructor
   ·intro h
    by_cases h2:s ∈ R
    ·exact h2
    ·have:=I.gone s hs h2; omega
   ·exact hall s
  rw [e1]
  exact filter_sub I.ris.nodup I.sub
theorem OInv.start {nd:Spt→List Spt} {F:List Spt} (hF:Ris F) (hn:∀ s ∈ F,(nd s).Nodup) {q:List Spt} (hu:Up q q.length) (hp:q.Perm (F.filter fun s=>decide (zgu (nd s) F=0))):OInv nd F F (fun s=>zgu (nd s) F) q:=
 ⟨List.Sublist.refl _,hF,hn,fun _ _=>rfl,fun s hs h=>absurd hs h,hu,hp⟩
theorem zf3 {nd:Spt→List Spt} {f:Nat} {R:List Spt} {x:Spt} (h:pickR nd R=some x):zbp nd (f+1) R=(x::(zbp nd f (R.erase x)).1,(zbp nd f (R.erase x)).2):=by rw [zbp,h]
theorem zc8 {nd:Spt→List Spt} {f:Nat} {R:List Spt} (h:pickR nd R=none):zbp nd f R=([],R):=by
 cases f with
 | zero=>rfl
 | succ f=>rw [zbp,h]
theorem pickR_mem {nd:Spt→List Spt} {R:List Spt} {x:Spt} (h:pickR nd R=some x):x ∈ R:=List.mem_of_find?_eq_some h
theorem orderR_more {nd:Spt→List Spt}:∀ (f g:Nat) (R:List Spt),R.length≤f→R.length≤g→zbp nd f R=zbp nd g R
 | 0,g,R,hf,_=>by
  have:R=[]:=List.length_eq_zero_iff.1 (by omega)
  subst this
  rw [zc8 (f:=g) rfl]; rfl
 | f+1,0,R,_,hg=>by
  have:R=[]:=List.length_eq_zero_iff.1 (by omega)
  subst this
  rw [zc8 (f:=f+1) rfl]; rfl
 | f+1,g+1,R,hf,hg=>by
  cases h:pickR nd R with
  | none=>rw [zc8 h,zc8 h]
  | some x=>
   have hx:=pickR_mem h
   have hl:=List.length_erase_of_mem hx
   have hp:=List.length_pos_of_mem hx
   rw [zf3 h,zf3 h,orderR_more f g (R.erase x) (by omega) (by omega)]
end Go.Proofs.YtbchdlelmkmagaaGreatDoor.VM
