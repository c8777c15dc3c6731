/- VmM VmF VmE VmG -/
import Derived.Laws.BytesString
import Derived.MapKept
import Derived.Test.YtbchdlelmkmagaaGreatDoorMg1
namespace Go.Proofs.YtbchdlelmkmagaaGreatDoor.VM
open Go Go.RowKit
set_option linter.unusedSectionVars false
variable [Sy]
section
variable {P:Program} {E:Env} {σ:Mp} {w:World} {N:Nat} {h:Hp}
theorem strV_sound:∀ {l:List V} {xs:List Value} {s:List Nat},strV l=some s→RepL σ l xs→(∃ ns:List Int,xs=ns.map (Value.int .u8)∧ns=s.map fun (n:Nat)=>(n:Int))∧∀ b ∈ s,b < 256
 | [],_,s,h,.nil=>by simp only [strV,Option.some.injEq] at h; subst h; exact ⟨⟨[],rfl,rfl⟩,by simp⟩
 | .int .u8 (.ofNat n)::r,_,s,h,.cons _ x _ y hr hl=>by
  rw [strV] at h
  cases hb:Nat.blt n 256 with
  | false=>rw [hb] at h; cases h
  | true=>
   rw [hb] at h
   simp only [cond_true,Option.bind_eq_some_iff,Option.some.injEq] at h
   obtain ⟨l,h1,rfl⟩:=h
   obtain ⟨⟨ns,e1,e2⟩,h3⟩:=strV_sound h1 hl
   cases hr
   refine ⟨⟨(n:Int)::ns,by rw [e1]; rfl,by rw [e2]; rfl⟩,fun b hb2=>?_⟩
   rcases List.mem_cons.1 hb2 with rfl | h4
   ·rw [zll,decide_eq_true_iff] at hb; exact hb
   ·exact h3 b h4
theorem push_fold:∀ (s:List Nat) (b:ByteArray),((s.map fun (n:Nat)=>(n:Int)).foldl (fun r n=>r.push (UInt8.ofNat n.toNat)) b).data.toList=b.data.toList++s.map Nat.toUInt8
 | [],b=>by simp
 | n::s,b=>by
  rw [List.map_cons,List.foldl_cons,push_fold s]
  simp [ByteArray.push,Nat.toUInt8]
theorem denL_rep {σ:Mp}:∀ {l:List V} {xs:List Value},RepL σ l xs→RepL σ (l.map den) xs
 | [],_,.nil=>.nil
 | _::_,_,.cons _ _ _ _ h1 h2=>.cons _ _ _ _ (den_rep h1) (denL_rep h2)
theorem repL_den {σ:Mp}:∀ {l:List V} {xs:List Value},RepL σ (l.map den) xs→RepL σ l xs
 | [],_,.nil=>.nil
 | _::_,_,.cons _ _ _ _ h1 h2=>.cons _ _ _ _ (zis h1) (repL_den h2)
theorem toStr_soundD {b n:Nat} {vs:List V} (A:At σ w b n vs) {off len cap:Nat} {l:List V} {s:List Nat} (hs:sub vs off len=some l) (hl:strV (l.map den)=some s):
  (Conv.bytesToString (.slice (some ⟨b,off,none⟩) len cap)).run P w=.ok (.string (zR s)) w∧∀ b ∈ s,b < 256:=by
 obtain ⟨xs,hr,hx⟩:=A.cells (P:=P) hs
 obtain ⟨⟨ns,rfl,rfl⟩,h3⟩:=strV_sound hl (denL_rep hr)
 refine ⟨?_,h3⟩
 rw [run_bytesToString w _ _ _ _ hx]
 congr 2
 have:=push_fold s ByteArray.empty
 generalize (s.map fun (n:Nat)=>(n:Int)).foldl (fun r n=>r.push (UInt8.ofNat n.toNat)) ByteArray.empty=q at this ⊢
 obtain ⟨⟨l⟩⟩:=q
 simp only [zR]
 congr 2
theorem strV_den:∀ {l:List V} {s:List Nat},strV l=some s→strV (l.map den)=some s
 | [],_,h=>h
 | .int .u8 (.ofNat n)::r,s,h=>by
  rw [strV] at h
  rw [List.map_cons]
  show strV (.int .u8 (.ofNat n)::r.map den)=some s
  rw [strV]
  cases hb:Nat.blt n 256 with
  | false=>rw [hb] at h; cases h
  | true=>
   rw [hb] at h
   simp only [cond_true,Option.bind_eq_some_iff,Option.some.injEq] at h ⊢
   obtain ⟨l,h1,rfl⟩:=h
   exact ⟨l,strV_den h1,rfl⟩
theorem toStr_sound (hE:EnvOK P E) {b n:Nat} {vs:List V} (A:At σ w b n vs) {off len cap:Nat} {l:List V} {v:V} (hs:sub vs off len=some l) (hl:strW E l=some v):
  ∃ r,(Conv.bytesToString (.slice (some ⟨b,off,none⟩) len cap)).run P w=.ok r w∧Rep σ v r:=by
 unfold strW at hl
 split at hl
 ·rename_i s h1
  cases hl
  obtain ⟨h2,h3⟩:=toStr_soundD (P:=P) (cap:=cap) A hs (strV_den h1)
  exact ⟨_,h2,.str _ h3⟩
 ·obtain ⟨s,e1,e2⟩:=hE.so.text _ _ hl
  obtain ⟨h2,h3⟩:=toStr_soundD (P:=P) (cap:=cap) A hs e1
  exact ⟨_,h2,zis (by rw [e2]; exact .str _ h3)⟩
theorem encode_small:∀ n:Nat,n < 128→Utf8.encode (n:Int)=zR [n]:=by
 intro n hn
 have h1:Utf8.valid (n:Int)=true:=by simp [Utf8.valid]; omega
 simp only [Utf8.encode,h1,if_true,Int.toNat_natCast]
 rw [if_pos (by omega)]
 rfl
theorem convStr_sound (hE:EnvOK P E) (R:Rel N σ h w) {e:TypeId} {x:V} {a:Value} {v:V} (hc:zls E h e x=some v) (hx:Rep σ x a):∃ d,P.underlying e=some d∧d=.int .u8∧∃ r,(Conv.bytesToString a).run P w=.ok r w∧Rep σ v r∧∃ p l c,a=.slice p l c:=by
 simp only [zls,Option.bind_eq_some_iff] at hc
 obtain ⟨m,hm,hc⟩:=hc
 obtain ⟨d,inf,T⟩:=hE.is hm
 refine ⟨d,T.und,?_⟩
 split at hc <;> first | (cases hc; done) | skip
 all_goals rename_i hk
 all_goals rw [T.k] at hk
 all_goals (obtain rfl:=zil hk.symm)
 all_goals refine ⟨rfl,?_⟩
 ·cases hx
  simp only [Option.some.injEq] at hc
  subst hc
  exact ⟨.string .empty,rfl,.str [] (by simp),_,_,_,rfl⟩
 ·cases hx
  rename_i aa c
  simp only [Option.some.injEq] at hc
  subst hc
  refine ⟨.string .empty,?_,.str [] (by simp),_,_,_,rfl⟩
  cases aa with
  | none=>rfl
  | some a=>rfl
 ·cases hx
  simp only [Option.bind_eq_some_iff] at hc
  obtain ⟨vs,h1,l,h2,h3⟩:=hc
  obtain ⟨r,h4,h5⟩:=toStr_sound hE (R.at_ ‹_› h1) h2 h3
  exact ⟨r,h4,h5,_,_,_,rfl⟩
 ·cases hx
  simp only [Option.bind_eq_some_iff] at hc
  obtain ⟨vs,h1,l,h2,h3⟩:=hc
  obtain ⟨r,h4,h5⟩:=toStr_sound hE (R.at_ ‹_› h1) h2 h3
  exact ⟨r,h4,h5,_,_,_,rfl⟩
theorem conv_sound (hE:EnvOK P E) (R:Rel N σ h w) {s d:TypeId} {x:V} {a:Value} {v:V} (hc:vconv E h s d x=some v) (hx:Rep σ x a):∃ r,(convert s d a).run P w=.ok r w∧Rep σ v r:=by
 simp only [vconv,Option.bind_eq_some_iff] at hc
 obtain ⟨i,hi,j,hj,hc⟩:=hc
 obtain ⟨d1,inf1,T1⟩:=hE.is hi
 obtain ⟨d2,inf2,T2⟩:=hE.is hj
 unfold convert
 rw [Sem.run_bind,run_underlying T1.und,Result.andThen_ok,Sem.run_bind,run_underlying T2.und,Result.andThen_ok]
 split at hc
 ·rename_i k _ n hk
  rw [T2.k] at hk
  obtain rfl:=zil hk.symm
  cases hx
  simp only [Option.some.injEq] at hc
  subst hc
  exact ⟨.int k (k.wrap n),rfl,by rw [zbn]; exact .int _ _⟩
 ·rename_i k l j' hk
  rw [T2.k] at hk
  obtain rfl:=zil hk.symm
  cases hx
  obtain ⟨l',n,e1,e2⟩:=hE.so.conv _ _ _ hc
  cases e1
  exact ⟨.int k (k.wrap (Sy.i j')),rfl,zis (by rw [e2]; exact .int _ _)⟩
 ·rename_i s hk
  rw [T2.k] at hk
  obtain rfl:=zec hk.symm
  cases hx with
  | str _ hs=>
   simp only [Option.some.injEq] at hc
   subst hc
   exact ⟨_,rfl,.str _ hs⟩
 ·rename_i k n hk
  rw [T2.k] at hk
  obtain rfl:=zec hk.symm
  cases hx
  cases hb:Nat.blt n 128 with
  | false=>rw [hb] at hc; cases hc
  | true=>
   rw [hb] at hc
   simp only [cond_true,Option.some.injEq] at hc
   subst hc
   rw [zll,decide_eq_true_iff] at hb
   refine ⟨_,rfl,?_⟩
   show Rep σ _ (.string (Utf8.encode (n:Int)))
   rw [encode_small n hb]
   exact .str _ (by simp; omega)
 ·rename_i q hk
  rw [T2.k] at hk
  obtain rfl:=zec hk.symm
  cases hx with
  | symS _ hs=>
   simp only [Option.some.injEq] at hc
   subst hc
   exact ⟨_,rfl,.symS _ hs⟩
 ·rename_i k q hk
  rw [T2.k] at hk
  obtain rfl:=zec hk.symm
  cases hx
  obtain ⟨n,hn,e1,e2⟩:=hE.so.char _ _ _ hc
  refine ⟨_,rfl,?_⟩
  rw [e1]
  show Rep σ _ (.string (Utf8.encode (n:Int)))
  rw [encode_small n hn]
  exact zis (by rw [e2]; exact .str _ (by simp; omega))
 ·rename_i hk hn1 hn2 hn3 hn4
  rw [T2.k] at hk
  obtain rfl:=zec hk.symm
  split at hc
  ·rename_i e hk1
   rw [T1.k] at hk1
   obtain rfl:=zcX hk1.symm
   obtain ⟨d,hd,rfl,r,h1,h2,p,l,c,rfl⟩:=convStr_sound hE R hc hx
   refine ⟨r,?_,h2⟩
   show (do match ← underlying e with | .int .u8 => Conv.bytesToString (.slice p l c) | .int .i32 => Conv.runesToString (.slice p l c) | _ => stuck "Convert: a slice of what to string?" : Sem Value).run P w = _
   rw [Sem.run_bind,run_underlying hd,Result.andThen_ok]
   exact h1
  ·cases hc
 ·cases hc
theorem Rel.map_ (R:Rel N σ h w) {B b n:Nat} (e:σ B=some (b,n)) {es:List (V × V × Nat)} {c:Nat} (hv:h.t.get B=some (.map es c)):
  ∃ ms,w.heap[b]? = some (.map ms.toArray c)∧RepE σ es ms:=by
 obtain ⟨_,hb,k,hk,ho⟩:=R.has B b n e
 rw [hv] at hk
 cases hk
 obtain ⟨ms,h1,h2⟩:=ho _ (Array.getElem?_eq_getElem hb)
 exact ⟨ms,by rw [Array.getElem?_eq_getElem hb,h1],h2⟩
theorem RepE.length {σ:Mp}:∀ {l:List (V × V × Nat)} {m:List MapEntry},RepE σ l m→l.length=m.length
 | _,_,.nil=>rfl
 | _,_,.cons _ _ _ _ _ _ _ _ _ s=>by simp [RepE.length s]
theorem cap_sound (hE:EnvOK P E) {x:V} {a:Value} {v:V} {ts:Array TypeId} {ty:TypeId} (hc:vcap E ts x=some v) (hx:Rep σ x a):∃ r,(Builtin.cap_ ts ty #[a]).run P w=.ok r w∧Rep σ v r:=by
 simp only [vcap,Option.bind_eq_some_iff] at hc
 obtain ⟨t,ht,i,hi,hc⟩:=hc
 obtain ⟨d,inf,T⟩:=hE.is hi
 split at hc <;> first | (cases hc; done) | skip
 all_goals
  rename_i hk
  rw [T.k] at hk
  obtain rfl:=zcX hk.symm
  cases hx
  simp only [Option.some.injEq] at hc
  subst hc
  exact ⟨_,(by simp only [Builtin.cap_,ht,List.getElem?_toArray,List.getElem?_cons_zero]; rw [Sem.run_bind,run_underlying T.und,Result.andThen_ok]; rfl),.int _ _⟩
theorem len_sound (hE:EnvOK P E) (R:Rel N σ h w) {x:V} {a:Value} {v:V} {ts:Array TypeId} {ty:TypeId} (hc:vlen E h ts x=some v) (hx:Rep σ x a):∃ r,(Builtin.len_ ts ty #[a]).run P w=.ok r w∧Rep σ v r:=by
 simp only [vlen,Option.bind_eq_some_iff] at hc
 obtain ⟨t,ht,i,hi,hc⟩:=hc
 obtain ⟨d,inf,T⟩:=hE.is hi
 split at hc <;> first | (cases hc; done) | skip
 ·rename_i hk
  rw [T.k] at hk
  obtain rfl:=zec hk.symm
  cases hx
  simp only [Option.some.injEq] at hc
  subst hc
  refine ⟨_,(by simp only [Builtin.len_,ht,List.getElem?_toArray,List.getElem?_cons_zero]; rw [Sem.run_bind,run_underlying T.und,Result.andThen_ok]; rfl),?_⟩
  rw [zbn,zbf]
  exact .int _ _
 ·rename_i q hk
  rw [T.k] at hk
  obtain rfl:=zec hk.symm
  cases hx
  obtain ⟨s,e1,rfl⟩:=hE.so.len _ _ hc
  cases e1
  refine ⟨_,(by simp only [Builtin.len_,ht,List.getElem?_toArray,List.getElem?_cons_zero]; rw [Sem.run_bind,run_underlying T.und,Result.andThen_ok]; rfl),?_⟩
  rw [zbf]
  exact .int _ _
 ·rename_i hk
  rw [T.k] at hk
  obtain rfl:=zcX hk.symm
  cases hx
  simp only [Option.some.injEq] at hc
  subst hc
  exact ⟨_,(by simp only [Builtin.len_,ht,List.getElem?_toArray,List.getElem?_cons_zero]; rw [Sem.run_bind,run_underlying T.und,Result.andThen_ok]; rfl),.int _ _⟩
 ·rename_i hk
  rw [T.k] at hk
  obtain rfl:=zcX hk.symm
  cases hx
  simp only [Option.some.injEq] at hc
  subst hc
  exact ⟨_,(by simp only [Builtin.len_,ht,List.getElem?_toArray,List.getElem?_cons_zero]; rw [Sem.run_bind,run_underlying T.und,Result.andThen_ok]; rfl),.int _ _⟩
 ·rename_i hk
  rw [T.k] at hk
  obtain rfl:=zcX hk.symm
  cases hx
  simp only [Option.some.injEq] at hc
  subst hc
  exact ⟨_,(by simp only [Builtin.len_,ht,List.getElem?_toArray,List.getElem?_cons_zero]; rw [Sem.run_bind,run_underlying T.und,Result.andThen_ok]; rfl),.int _ _⟩
 ·rename_i hk
  rw [T.k] at hk
  obtain rfl:=zcX hk.symm
  cases hx
  simp only [Option.some.injEq] at hc
  subst hc
  exact ⟨_,(by simp only [Builtin.len_,ht,List.getElem?_toArray,List.getElem?_cons_zero]; rw [Sem.run_bind,run_underlying T.und,Result.andThen_ok]; rfl),.int _ _⟩
 ·rename_i hk
  rw [T.k] at hk
  obtain rfl:=zcX hk.symm
  cases hx
  simp only [Option.some.injEq] at hc
  subst hc
  exact ⟨_,(by simp only [Builtin.len_,ht,List.getElem?_toArray,List.getElem?_cons_zero]; rw [Sem.run_bind,run_underlying T.und,Result.andThen_ok]; rfl),.int _ _⟩
 ·rename_i hk
  rw [T.k] at hk
  obtain rfl:=kOf_map hk.symm
  cases hx
  simp only [Option.some.injEq] at hc
  subst hc
  exact ⟨_,(by simp only [Builtin.len_,ht,List.getElem?_toArray,List.getElem?_cons_zero]; rw [Sem.run_bind,run_underlying T.und,Result.andThen_ok]; rfl),.int _ _⟩
 ·rename_i hk
  rw [T.k] at hk
  obtain rfl:=kOf_map hk.symm
  cases hx
  split at hc
  ·rename_i es c hb
   simp only [Option.some.injEq] at hc
   subst hc
   obtain ⟨ms,h1,h2⟩:=R.map_ ‹_› hb
   refine ⟨goInt ms.length,?_,?_⟩
   ·simp only [Builtin.len_,ht,List.getElem?_toArray,List.getElem?_cons_zero]
    rw [Sem.run_bind,run_underlying T.und,Result.andThen_ok]
    simp only [Sem.run_bind,MapKept.run_getObj_map h1,Result.andThen_ok]
    simp
   ·rw [zbn,h2.length]
    exact .int _ _
  ·cases hc
theorem min_sound {lt:Bool} {l:List V} {xs:List Value} {v:V} {ts:Array TypeId} {ty:TypeId} (hc:vmin lt l=some v) (hx:RepL σ l xs):
  ∃ r,(if lt then Builtin.min_ ts ty xs.toArray else Builtin.max_ ts ty xs.toArray).run P w=.ok r w∧Rep σ v r:=by
 have key:∀ (l:List V) (xs:List Value) (k:IntKind) (a:Int),vminF lt k a l=some v→RepL σ l xs→∃ n,v=.int k n∧(xs.foldlM (if lt then Builtin.min2 else Builtin.max2) (.int k a)).run P w=.ok (.int k n) w:=by
  intro l
  induction l with
  | nil=>
   intro xs k a hc hx
   cases hx
   simp only [vminF,Option.some.injEq,zbn] at hc
   exact ⟨a,hc.symm,rfl⟩
  | cons u r ih=>
   intro xs k a hc hx
   cases hx with
   | cons _ x _ y hr hl=>
    cases hr <;> simp only [vminF] at hc <;> (try (cases hc; done))
    rename_i j b
    cases hk:keq k j with
    | false=>rw [hk] at hc; cases hc
    | true=>
     rw [hk] at hc
     obtain rfl:=zhr hk
     obtain ⟨n,e1,e2⟩:=ih _ _ _ hc hl
     refine ⟨n,e1,?_⟩
     rw [List.foldlM_cons,Sem.run_bind]
     cases lt with
     | true=>
      simp only [if_true,Builtin.min2,Sem.run_pure,Result.andThen_ok] at e2 ⊢
      rw [← e2]
      congr 3
      simp only [cond_true,ilt_eq]
      by_cases h:b < a <;> simp [h]
     | false=>
      simp only [Bool.false_eq_true,if_false,Builtin.max2,Sem.run_pure,Result.andThen_ok] at e2 ⊢
      rw [← e2]
      congr 3
      simp only [cond_false,ilt_eq]
      by_cases h:a < b <;> simp [h]
 cases hx with
 | nil=>simp [vmin] at hc
 | cons u x l y hr hl=>
  cases hr <;> simp only [vmin] at hc <;> (try (cases hc; done))
  obtain ⟨n,e1,e2⟩:=key _ _ _ _ hc hl
  refine ⟨_,?_,by rw [e1]; exact .int _ _⟩
  cases lt with
  | true=>simpa [Builtin.min_] using e2
  | false=>simpa [Builtin.max_] using e2
theorem minS_sound (hE:EnvOK P E) {lt:Bool} {l:List V} {xs:List Value} {v:V} {ts:Array TypeId} {ty:TypeId} (hc:vminS E lt l=some v) (hx:RepL σ l xs):
  ∃ r,(if lt then Builtin.min_ ts ty xs.toArray else Builtin.max_ ts ty xs.toArray).run P w=.ok r w∧Rep σ v r:=by
 unfold vminS at hc
 split at hc
 ·rename_i v' h1
  cases hc
  exact min_sound h1 hx
 ·obtain ⟨r,h1,h2⟩:=min_sound (ts:=ts) (ty:=ty) (P:=P) (w:=w) (hE.so.min _ _ _ hc) (denL_rep hx)
  exact ⟨r,h1,zis h2⟩
theorem zlr (hE:EnvOK P E) {t:TypeId} {v:V} (hc:vzero E t=some v):∃ r,(∀ w:World,(zeroValue t).run P w=.ok r w)∧Rep σ v r:=by
 simp only [vzero,Option.bind_eq_some_iff] at hc
 obtain ⟨i,hi,hc⟩:=hc
 obtain ⟨d,inf,T⟩:=hE.is hi
 rw [T.zv,Option.bind_eq_some_iff] at hc
 obtain ⟨z,hz,hc⟩:=hc
 exact ⟨z,fun w=>zbD T.info hz,ofVal_rep hc⟩
theorem assert_sound (hE:EnvOK P E) {x:V} {a:Value} {s t:TypeId} {ok:Bool} {v:V} (hc:zeA E x t ok=some v) (hx:Rep σ x a):∃ r,(Instr.typeAssert a s t ok).run P w=.ok r w∧Rep σ v r:=by
 simp only [zeA,Option.bind_eq_some_iff] at hc
 obtain ⟨i,hi,hc⟩:=hc
 obtain ⟨d,inf,T⟩:=hE.is hi
 have hfail:∀ v':V,(bif ok then (vzero E t).bind fun z=>some (.tup [z,.bool false]) else none)=some v'→∃ z r,ok=true∧(∀ w:World,(zeroValue t).run P w=.ok r w)∧Rep σ z r∧v'=.tup [z,.bool false]:=fun v' h2=>by
  cases ok with
  | false=>cases h2
  | true=>
   simp only [cond_true,Option.bind_eq_some_iff,Option.some.injEq] at h2
   obtain ⟨z,hz,rfl⟩:=h2
   obtain ⟨r,h1,h3⟩:=zlr (σ:=σ) hE hz
   exact ⟨z,r,rfl,h1,h3,rfl⟩
 have htup:∀ {z:V} {r:Value} {b:Bool},Rep σ z r→Rep σ (.tup [z,.bool b]) (.tuple #[r,.bool b]):=fun h=>.tup _ _ (.cons _ _ _ _ h (.one (.bool _)))
 split at hc
 ·cases hc
 ·rename_i u q hk
  have hd:∀ ms,d ≠ .interface ms:=fun ms e=>by subst e; exact hk ms (by rw [T.k]; rfl)
  cases hx with
  | iface _ _ y hr=>
   cases hb:Nat.beq u t with
   | true=>
    rw [hb] at hc
    simp only [cond_true,Option.some.injEq] at hc
    obtain rfl:=Nat.eq_of_beq_eq_true hb
    subst hc
    cases ok with
    | true=>
     refine ⟨.tuple #[y,.bool true],?_,htup hr⟩
     unfold Instr.typeAssert
     rw [Sem.run_bind,run_underlying T.und,Result.andThen_ok]
     cases d <;> first | exact absurd rfl (hd _) | simp
    | false=>
     refine ⟨y,?_,hr⟩
     unfold Instr.typeAssert
     rw [Sem.run_bind,run_underlying T.und,Result.andThen_ok]
     cases d <;> first | exact absurd rfl (hd _) | simp
   | false=>
    rw [hb] at hc
    simp only [cond_false] at hc
    obtain ⟨z,r,rfl,h1,h2,rfl⟩:=hfail _ hc
    refine ⟨.tuple #[r,.bool false],?_,htup h2⟩
    have hne:¬ u=t:=fun e=>by rw [zff] at hb; simp [e] at hb
    unfold Instr.typeAssert
    rw [Sem.run_bind,run_underlying T.und,Result.andThen_ok]
    cases d <;> first | exact absurd rfl (hd _) | simp [hne,h1]
 ·rename_i hk
  have hd:∀ ms,d ≠ .interface ms:=fun ms e=>by subst e; exact hk ms (by rw [T.k]; rfl)
  cases hx
  obtain ⟨z,r,rfl,h1,h2,rfl⟩:=hfail _ hc
  refine ⟨.tuple #[r,.bool false],?_,htup h2⟩
  unfold Instr.typeAssert
  rw [Sem.run_bind,run_underlying T.und,Result.andThen_ok]
  cases d <;> first | exact absurd rfl (hd _) | simp [h1]
 ·cases hc
theorem zjn {n:Nat} {e:Bool} {aS:List V} {xs:List Value} (ha:RepL σ aS xs):∀ (fs:List Field) (i:Nat) (ks:List K),zlu P fs i=some ks→leq ks (aS.drop i) (aS.drop i)=some true →
  (forIn fs PUnit.unit (fun f _ => if f.name ≠ "_" then do Instr.checkKey e (n + 1) f.type (← part f.type xs.toArray f.offset); pure (ForInStep.yield PUnit.unit) else pure (ForInStep.yield PUnit.unit)) : Sem PUnit).run P w = .ok PUnit.unit w
 | [],i,ks,hk,h=>rfl
 | f::fs,i,ks,hk,h=>by
  rw [zlu] at hk
  cases hn : (f.name != "_" && Nat.beq f.offset i) with
  | false=>rw [hn] at hk; cases hk
  | true=>
   rw [hn] at hk
   simp only [cond_true,Option.bind_eq_some_iff,Option.some.injEq] at hk
   obtain ⟨d,hd,k,hk1,l,hl,rfl⟩:=hk
   simp only [Bool.and_eq_true,bne_iff_ne] at hn
   obtain ⟨hn1,hn2⟩:=hn
   have ho:=Nat.eq_of_beq_eq_true hn2
   cases h1:aS.drop i with
   | nil=>simp only [h1,leq] at h; cases h
   | cons a as'=>
    have g1:aS[i]? = some a:=by have:=congrArg List.head? h1; simpa using this
    have t1:aS.drop (i+1)=as':=by have:=congrArg List.tail h1; simpa using this
    obtain ⟨x,hx,rx⟩:=ha.get g1
    simp only [h1,leq,Option.bind_eq_some_iff] at h
    obtain ⟨c1,hc1,hc2⟩:=h
    cases c1 with
    | false=>simp at hc2
    | true=>
     simp only [cond_true] at hc2
     rw [List.forIn_cons,Sem.run_bind]
     have hck:(Instr.checkKey e (n+1) f.type x).run P w=.ok () w:=by
      unfold Instr.checkKey
      rw [Sem.run_bind,run_underlying hd,Result.andThen_ok]
      cases d <;> simp only [plainK] at hk1 <;> (try (cases hk1; done)) <;> rfl
     simp only [if_pos hn1,Sem.run_bind,zjS hd hk1 (by rw [ho]; exact hx),Result.andThen_ok,hck,Sem.run_pure]
     exact zjn ha fs (i+1) l hl (by rw [t1]; exact hc2)
theorem zgX {q:TypeId} {j:TI} {d:TypeDesc} {inf:TypeInfo} (T:TyIs P q j d inf) {k:V} {kx:Value} (hk:keyOK j k=true) (hr:Rep σ k kx) (e:Bool) (n:Nat):(Instr.checkKey e (n+2) q kx).run P w=.ok () w:=by
 have h0:veqK j k k=some true:=by
  unfold keyOK at hk
  split at hk
  ·assumption
  ·cases hk
 unfold Instr.checkKey
 rw [Sem.run_bind,run_underlying T.und,Result.andThen_ok]
 unfold veqK at h0
 split at h0
 ·rename_i hj _
  rw [T.k] at hj
  obtain rfl:=zil hj.symm
  cases hr
  rfl
 ·rename_i hj _
  rw [T.k] at hj
  obtain rfl:=zec hj.symm
  cases hr
  rfl
 ·rename_i fs a b hj hs
  cases hs
  rw [T.k] at hj
  obtain rfl:=zhC hj.symm
  cases hr with
  | agg _ xs ha=>
   simp only [aeq,Option.bind_eq_some_iff,T.plain] at h0
   obtain ⟨ks,hks,h0⟩:=h0
   unfold plainOf at hks
   cases hc:(!P.stoodInHeld q && !P.eqGuardType P.depth q) with
   | false=>simp only [hc] at hks; cases hks
   | true=>
    simp only [hc,cond_true] at hks
    have:=zjn (w:=w) (n:=n) (e:=e) ha fs 0 ks hks (by simpa using h0)
    rw [Sem.run_bind,← Array.forIn_toList]
    refine (congrArg (fun r=>Result.andThen r _) this).trans ?_
    rfl
 ·cases h0
theorem leq_same:∀ {ks:List K} {aS bs:List V} {xs ys:List Value},leq ks aS bs=some true→RepL σ aS xs→RepL σ bs ys→xs=ys
 | [],[],[],_,_,_,.nil,.nil=>rfl
 | k::ks,a::aS,b::bs,_,_,h,.cons _ x _ xs hx hxs,.cons _ y _ ys hy hys=>by
  simp only [leq,Option.bind_eq_some_iff] at h
  obtain ⟨c,h1,h2⟩:=h
  cases c with
  | false=>simp at h2
  | true=>
   simp only [cond_true] at h2
   rw [leq_same h2 hxs hys]
   congr 1
   cases k <;> cases hx <;> cases hy <;> simp only [ceq] at h1 <;> (try (cases h1; done))
   ·simp only [Option.some.injEq,beq_iff_eq] at h1; rw [h1]
   ·rename_i k1 n1 k2 n2
    cases hq:keq k1 k2 with
    | false=>rw [hq] at h1; cases h1
    | true=>
     rw [hq] at h1
     simp only [cond_true,Option.some.injEq,ieq_iff] at h1
     rw [zhr hq,h1]
   ·rename_i k k1 j1 k2 j2
    cases hq:(keq k k1 && keq k k2 && Nat.beq j1 j2) with
    | false=>rw [hq] at h1; cases h1
    | true=>
     simp only [Bool.and_eq_true] at hq
     obtain ⟨⟨q1,q2⟩,q3⟩:=hq
     rw [← zhr q1,← zhr q2,Nat.eq_of_beq_eq_true q3]
   ·simp only [Option.some.injEq,seq_eq,beq_iff_eq] at h1; rw [h1]
   ·rename_i j1 _ j2 _
    cases hq:Nat.beq j1 j2 with
    | false=>rw [hq] at h1; cases h1
    | true=>rw [Nat.eq_of_beq_eq_true hq]
 | [],_::_,_,_,_,h,_,_=>by simp [leq] at h
 | [],[],_::_,_,_,h,_,_=>by simp [leq] at h
 | _::_,[],_,_,_,h,_,_=>by simp [leq] at h
 | _::_,_::_,[],_,_,h,_,_=>by simp [leq] at h
theorem veqK_sound {q:TypeId} {j:TI} {d:TypeDesc} {inf:TypeInfo} (T:TyIs P q j d inf) {x y:V} {a b:Value} {c:Bool} (h:veqK j x y=some c) (hx:Rep σ x a) (hy:Rep σ y b):
  (Instr.sameNow d a b=some c∨((∃ fs,d=.struct fs)∧Instr.sameNow d a b=none∧(Op.equal q a b).run P w=.ok c w))∧(c=true→a=b):=by
 unfold veqK at h
 split at h
 ·rename_i k k1 n1 k2 n2 hj
  rw [T.k] at hj
  obtain rfl:=zil hj.symm
  cases hx; cases hy
  cases hq:(keq k1 k2 && keq k1 k) with
  | false=>rw [hq] at h; cases h
  | true=>
   rw [hq] at h
   simp only [cond_true,Option.some.injEq] at h
   rw [Bool.and_eq_true] at hq
   obtain rfl:=zhr hq.1
   subst h
   exact ⟨.inl (by simp [Instr.sameNow,ieq_eq]),fun h=>by rw [ieq_iff] at h; rw [h]⟩
 ·rename_i s1 s2 hj
  rw [T.k] at hj
  obtain rfl:=zec hj.symm
  cases hx with
  | str _ h1=>cases hy with
   | str _ h2=>
    simp only [Option.some.injEq] at h
    subst h
    refine ⟨.inl ?_,fun h=>by rw [seq_eq,beq_iff_eq] at h; rw [h]⟩
    simp only [Instr.sameNow,Option.some.injEq]
    rw [beq_toListBytes,zbs,zbs,Bool.eq_iff_iff,seq_eq,beq_iff_eq,beq_iff_eq]
    exact ⟨map_inj h1 h2,fun h=>by rw [h]⟩
 ·rename_i fs aS bs hj
  rw [T.k] at hj
  obtain rfl:=zhC hj.symm
  cases hx with
  | agg _ xs h1=>cases hy with
   | agg _ ys h2=>
    refine ⟨.inr ⟨⟨_,rfl⟩,rfl,(aeq_sound T h h1 h2 9998).1⟩,fun hc=>?_⟩
    subst hc
    simp only [aeq,Option.bind_eq_some_iff] at h
    obtain ⟨ks,_,h⟩:=h
    rw [leq_same h h1 h2]
 ·cases h
def Found (σ:Mp) (kx:Value) (ms:List MapEntry) (n:Nat):Option (Nat × V × Nat)→Option (Nat × Value)→Prop
 | none,o=>o=none
 | some (m,v,b),o=>∃ e,n≤m∧ms[m - n]? = some e∧o=some (m,e.val)∧Rep σ v e.val∧e.born=b∧e.key=kx
theorem Found.cons {kx:Value} {ms:List MapEntry} {e:MapEntry} {n:Nat} {r:Option (Nat × V × Nat)} {o:Option (Nat × Value)} (h:Found σ kx ms (n+1) r o):Found σ kx (e::ms) n r o:=by
 cases r with
 | none=>exact h
 | some p=>
  obtain ⟨m,v,b⟩:=p
  obtain ⟨e',h1,h2,h3⟩:=h
  refine ⟨e',by omega,?_,h3⟩
  have:m - n=(m - (n+1))+1:=by omega
  rw [this,List.getElem?_cons_succ]
  exact h2
theorem findM_now {q:TypeId} {j:TI} {d:TypeDesc} {inf:TypeInfo} (T:TyIs P q j d inf) {k:V} {kx:Value} (hr:Rep σ k kx) (hd:¬ ∃ fs,d=.struct fs):∀ {es:List (V × V × Nat)} {ms:List MapEntry} {n:Nat} {r:Option (Nat × V × Nat)},
  RepE σ es ms→findM j k es n=some r→∃ o,Instr.findNow d kx ms n=some o∧Found σ kx ms n r o
 | [],_,n,r,.nil,h=>by simp only [findM,Option.some.injEq] at h; subst h; exact ⟨none,rfl,rfl⟩
 | (qk,v,b)::es,_,n,r,.cons _ _ _ kq vx _ ms h1 h2 hl,h=>by
  simp only [findM,Option.bind_eq_some_iff] at h
  obtain ⟨c,hc,h⟩:=h
  obtain ⟨h3,h4⟩:=veqK_sound (w:=(default:World)) T hc hr h1
  rcases h3 with h3 | ⟨h3,_⟩
  ·cases c with
   | true=>
    simp only [cond_true,Option.some.injEq] at h
    subst h
    refine ⟨some (n,vx),by simp [Instr.findNow,h3],⟨⟨kq,vx,b⟩,Nat.le_refl _,by simp,rfl,h2,rfl,(h4 rfl).symm⟩⟩
   | false=>
    simp only [cond_false] at h
    obtain ⟨o,h5,h6⟩:=findM_now T hr hd hl h
    exact ⟨o,by simp [Instr.findNow,h3,h5],h6.cons⟩
  ·exact absurd h3 hd
theorem findM_ask {q:TypeId} {j:TI} {d:TypeDesc} {inf:TypeInfo} (T:TyIs P q j d inf) {k:V} {kx:Value} (hr:Rep σ k kx) (hd:∃ fs,d=.struct fs):∀ {es:List (V × V × Nat)} {ms:List MapEntry} {n:Nat} {r:Option (Nat × V × Nat)},
  RepE σ es ms→findM j k es n=some r→∃ o,(Instr.findAsking q kx ms n).run P w=.ok o w∧Found σ kx ms n r o
 | [],_,n,r,.nil,h=>by simp only [findM,Option.some.injEq] at h; subst h; exact ⟨none,rfl,rfl⟩
 | (qk,v,b)::es,_,n,r,.cons _ _ _ kq vx _ ms h1 h2 hl,h=>by
  simp only [findM,Option.bind_eq_some_iff] at h
  obtain ⟨c,hc,h⟩:=h
  obtain ⟨h3,h4⟩:=veqK_sound (w:=w) T hc hr h1
  obtain ⟨fs,rfl⟩:=hd
  rcases h3 with h3 | ⟨_,_,h3⟩
  ·simp [Instr.sameNow] at h3
  ·cases c with
   | true=>
    simp only [cond_true,Option.some.injEq] at h
    subst h
    refine ⟨some (n,vx),by simp [Instr.findAsking,h3],⟨⟨kq,vx,b⟩,Nat.le_refl _,by simp,rfl,h2,rfl,(h4 rfl).symm⟩⟩
   | false=>
    simp only [cond_false] at h
    obtain ⟨o,h5,h6⟩:=findM_ask T hr ⟨fs,rfl⟩ hl h
    exact ⟨o,by simp [Instr.findAsking,h3,h5],h6.cons⟩
theorem zih {q:TypeId} {j:TI} {d:TypeDesc} {inf:TypeInfo} (T:TyIs P q j d inf) {k:V} {kx:Value} (hr:Rep σ k kx) {es:List (V × V × Nat)} {ms:List MapEntry} {r:Option (Nat × V × Nat)}
  (hl:RepE σ es ms) (h:findM j k es 0=some r):∃ o,(Instr.findKey q kx ms).run P w=.ok o w∧Found σ kx ms 0 r o:=by
 unfold Instr.findKey
 rw [Sem.run_bind,run_underlying T.und,Result.andThen_ok]
 by_cases hd:∃ fs,d=.struct fs
 ·obtain ⟨o,h1,h2⟩:=findM_ask (w:=w) T hr hd hl h
  refine ⟨o,?_,h2⟩
  cases hl with
  | nil=>
   simp only [Instr.findNow,Sem.run_pure]
   exact h1
  | cons qk v n kq vx es ms r1 r2 r3=>
   have:Instr.findNow d kx (⟨kq,vx,n⟩::ms) 0=none:=by
    simp only [findM,Option.bind_eq_some_iff] at h
    obtain ⟨c,hc,h⟩:=h
    rcases (veqK_sound (w:=w) T hc hr r1).1 with h3 | ⟨_,h3,_⟩
    ·obtain ⟨fs,rfl⟩:=hd
     simp [Instr.sameNow] at h3
    ·simp [Instr.findNow,h3]
   rw [this]
   exact h1
 ·obtain ⟨o,h1,h2⟩:=findM_now T hr hd hl h
  exact ⟨o,by rw [h1]; rfl,h2⟩
theorem mapOf_sound (R:Rel N σ h w) {x:V} {a:Value} {m:List (V × V × Nat) × Nat} (hm:zhs h x=some m) (hx:Rep σ x a):
  (a=.map none∧m=([],0))∨∃ b ms,a=.map (some b)∧w.heap[b]? = some (.map ms.toArray m.2)∧RepE σ m.1 ms:=by
 cases hx <;> simp only [zhs] at hm <;> (try (cases hm; done))
 ·simp only [Option.some.injEq] at hm
  exact .inl ⟨rfl,hm.symm⟩
 ·split at hm
  ·rename_i es c hb
   simp only [Option.some.injEq] at hm
   subst hm
   obtain ⟨ms,h1,h2⟩:=R.map_ ‹_› hb
   exact .inr ⟨_,ms,rfl,h1,h2⟩
  ·cases hm
theorem lookup_sound (hE:EnvOK P E) (R:Rel N σ h w) {t:TypeId} {x k:V} {a ka:Value} {ok:Bool} {v:V} (hc:zcM E h t x k ok=some v) (hx:Rep σ x a) (hk:Rep σ k ka):∃ r,(Instr.lookup t a ka ok).run P w=.ok r w∧Rep σ v r:=by
 simp only [zcM,Option.bind_eq_some_iff] at hc
 obtain ⟨i,hi,hc⟩:=hc
 obtain ⟨d,inf,T⟩:=hE.is hi
 split at hc
 ·rename_i q e hkk
  rw [T.k] at hkk
  obtain rfl:=kOf_map hkk.symm
  rw [Option.bind_eq_some_iff] at hc
  obtain ⟨j,hj,hc⟩:=hc
  obtain ⟨d2,inf2,T2⟩:=hE.is hj
  cases hok:keyOK j k with
  | false=>rw [hok] at hc; cases hc
  | true=>
   rw [hok] at hc
   simp only [cond_true,Option.bind_eq_some_iff] at hc
   obtain ⟨m,hm,r,hf,hc⟩:=hc
   have htup:∀ {z:V} {r:Value} {b:Bool},Rep σ z r→Rep σ (bif ok then .tup [z,.bool b] else z) (if ok then .tuple #[r,.bool b] else r):=fun h=>by
    cases ok
    ·exact h
    ·exact .tup _ _ (.cons _ _ _ _ h (.one (.bool _)))
   have hck:∀ e,(Instr.checkKey e 10000 q ka).run P w=.ok () w:=fun e=>zgX T2 hok hk e 9998
   have hend:∀ {ms:List MapEntry},RepE σ m.1 ms→∃ r,(do
     let (v,okk) ← match ← Instr.findKey q ka ms with
      | some (_,v)=>pure (v,true)
      | none=>pure (← zeroValue e,false)
     pure (if ok then .tuple #[v,.bool okk] else v):Sem Value).run P w=.ok r w∧Rep σ v r:=fun {ms} h2=>by
    obtain ⟨o,h4,h5⟩:=zih (w:=w) T2 hk h2 hf
    cases r with
    | none=>
     obtain rfl:o=none:=h5
     simp only [Option.bind_eq_some_iff,Option.some.injEq] at hc
     obtain ⟨z,hz,rfl⟩:=hc
     obtain ⟨r,h6,h7⟩:=zlr (σ:=σ) hE hz
     refine ⟨_,?_,htup h7⟩
     simp only [Sem.run_bind,h4,Result.andThen_ok,h6,Sem.run_pure]
    | some p=>
     obtain ⟨n,v',b'⟩:=p
     obtain ⟨e',_,_,rfl,h6,_⟩:=h5
     simp only [Option.some.injEq] at hc
     subst hc
     refine ⟨_,?_,htup h6⟩
     simp only [Sem.run_bind,h4,Result.andThen_ok,Sem.run_pure]
   rcases mapOf_sound R hm hx with ⟨rfl,h1⟩ | ⟨b,ms,rfl,h1,h2⟩
   ·obtain ⟨r,h3,h4⟩:=hend (ms:=[]) (by rw [h1]; exact .nil)
    refine ⟨r,?_,h4⟩
    rw [← h3]
    simp only [Instr.lookup,Sem.run_bind,run_underlying T.und,Result.andThen_ok,Sem.run_pure,hck]
    rfl
   ·obtain ⟨r,h3,h4⟩:=hend h2
    refine ⟨r,?_,h4⟩
    rw [← h3]
    simp only [Instr.lookup,Sem.run_bind,run_underlying T.und,Result.andThen_ok,Sem.run_pure,hck,MapKept.run_getObj_map h1]
    rfl
 ·cases hc
theorem ifaceV_sound (hE:EnvOK P E) {t:TypeId} {i:TI} {x:V} {a:Value} {v:V} (hi:E.ty.get t=some i) (h:ifaceV t x i=some v) (hx:Rep σ x a):∃ r,(Instr.makeInterface t a).run P w=.ok r w∧Rep σ v r:=by
 obtain ⟨d,inf,T⟩:=hE.is hi
 unfold ifaceV at h
 split at h
 ·cases h
 ·rename_i hk
  have hd:∀ ms,d ≠ .interface ms:=fun ms e=>by subst e; exact hk ms (by rw [T.k]; rfl)
  cases h
  refine ⟨.iface t a,?_,.iface _ _ _ hx⟩
  unfold Instr.makeInterface
  rw [Sem.run_bind,run_underlying T.und,Result.andThen_ok]
  cases d <;> first | exact absurd rfl (hd _) | rfl
theorem evo_rep {t:Tm} {ρ:Operand→Value} {o:Option Operand} {v:Option V} (hρ:∀ x ∈ o.toArray,∀ v,ev t x=some v→Rep σ v (ρ x)) (h:evo t o=some v):RepO σ v (o.map ρ):=by
 cases o with
 | none=>simp only [evo,Option.some.injEq] at h; subst h; exact .none
 | some x=>
  simp only [evo,Option.bind_eq_some_iff,Option.some.injEq] at h
  obtain ⟨u,h1,rfl⟩:=h
  exact .some _ _ (hρ x (by simp) u h1)
theorem ziG {s:Sem Value} {r:Value} (h:s.run P w=.ok r w):(do pure (Next.value (← s)):Sem Next).run P w=.ok (.value r) w:=by
 rw [Sem.run_bind,h]; rfl
theorem lop_sound (hE:EnvOK P E) (R:Rel N σ h w) {o:Oper} {t:Tm} {ρ:Operand→Value} {v:V} (hl:lop E t h o.op=some v) (hρ:∀ x ∈ o.op.operands,∀ v,ev t x=some v→Rep σ v (ρ x)):
  ∃ x,(execOp ρ o).run P w=.ok (.value x) w∧Rep σ v x:=by
 obtain ⟨dst,op,type,pos,after,guard⟩:=o
 simp only at hl hρ
 cases op <;> simp only [lop] at hl <;> (try (cases hl; done)) <;> simp only [Op.operands] at hρ
 case move x=>exact ⟨_,rfl,hρ x (by simp) v hl⟩
 case pick c a b=>
  simp only [lPick,Option.bind_eq_some_iff] at hl
  obtain ⟨cv,hc,hl⟩:=hl
  have hcr:=hρ c (by simp) cv hc
  split at hl
  ·generalize hcx:ρ c=cx at hcr
   cases hcr
   refine ⟨ρ a,?_,hρ a (by simp) v hl⟩
   simp [execOp,hcx,asBool]
  ·generalize hcx:ρ c=cx at hcr
   cases hcr
   refine ⟨ρ b,?_,hρ b (by simp) v hl⟩
   simp [execOp,hcx,asBool]
  ·cases hl
 case build ty ps=>
  simp only [lBuild,Option.bind_eq_some_iff] at hl
  obtain ⟨vs,h1,h2⟩:=hl
  have h3:=parts_rep (σ:=σ) (ρ:=ρ) (fun p hp v hv=>hρ p.2 (by simp only [List.mem_toArray,List.mem_map]; exact ⟨p,hp,rfl⟩) v hv) h1
  obtain ⟨r,h4,h5⟩:=build_sound (w:=w) hE h2 h3
  refine ⟨r,ziG ?_,h5⟩
  have e:(ps.map fun (i,x)=>(i,ρ x))=(ps.toList.map fun p=>(p.1,ρ p.2)).toArray:=by apply Array.toList_inj.1; simp
  rw [e]
  exact h4
 case load ty a=>
  simp only [lLoad,Option.bind_eq_some_iff] at hl
  obtain ⟨av,h1,h2⟩:=hl
  have h3:=hρ a (by simp) av h1
  generalize hax:ρ a=ax at h3
  unfold ziF at h2
  split at h2
  ·cases h3
   rw [Option.bind_eq_some_iff] at h2
   obtain ⟨vs,h4,h5⟩:=h2
   obtain ⟨r,h6,h7⟩:=loadVar_sound hE (R.at_ ‹_› h4) h5
   refine ⟨r,ziG ?_,h7⟩
   simp only [hax,Instr.loadAt,Instr.sureAddr,Sem.run_bind,Sem.run_pure,Result.andThen_ok,h6]
  ·cases h3
   obtain ⟨r,h6,h7⟩:=hE.glob _ _ _ _ h2 w (fun p hp=>(R.tab p hp).2)
   refine ⟨r,ziG ?_,h7 σ⟩
   simp only [hax,Instr.loadAt,Instr.sureAddr,Sem.run_bind,Sem.run_pure,Result.andThen_ok,h6]
  ·cases h3
   obtain ⟨r,h6,h7⟩:=hE.arg _ _ _ _ h2 w (fun p hp=>(R.tab p hp).2)
   refine ⟨r,ziG ?_,h7 σ⟩
   simp only [hax,Instr.loadAt,Instr.sureAddr,Sem.run_bind,Sem.run_pure,Result.andThen_ok,h6]
  ·cases h2
 case nilCheck x=>
  simp only [zhF,Option.bind_eq_some_iff] at hl
  obtain ⟨xv,h1,h2⟩:=hl
  have h3:=hρ x (by simp) xv h1
  generalize hax:ρ x=ax at h3
  unfold zjm at h2
  split at h2
  ·cases h3
   cases h2
   exact ⟨_,by simp [execOp,hax]; rfl,.ptr _ _ _ _ ‹_›⟩
  ·cases h3
   cases h2
   rename_i f a1 c1 x1 y1 r1 r2
   exact ⟨.func (.func f) x1.toArray y1.toArray,by simp [execOp,hax],.fn _ _ _ _ _ r1 r2⟩
  ·cases h2
 case binOp op ty x y yt=>
  simp only [lBin,Option.bind_eq_some_iff] at hl
  obtain ⟨a,h1,b,h2,h3⟩:=hl
  obtain ⟨r,h4,h5⟩:=binO_sound (w:=w) hE h3 (hρ x (by simp) a h1) (hρ y (by simp) b h2)
  exact ⟨r,ziG h4,h5⟩
 case unOp op ty x=>
  simp only [lUn,Option.bind_eq_some_iff] at hl
  obtain ⟨a,h1,h3⟩:=hl
  obtain ⟨r,h4,h5⟩:=unOp_sound (w:=w) (P:=P) h3 (hρ x (by simp) a h1)
  exact ⟨r,ziG h4,h5⟩
 case convert s d x=>
  simp only [lConv,Option.bind_eq_some_iff] at hl
  obtain ⟨a,h1,h3⟩:=hl
  obtain ⟨r,h4,h5⟩:=conv_sound hE R h3 (hρ x (by simp) a h1)
  exact ⟨r,ziG h4,h5⟩
 case makeInterface ty x=>
  simp only [lIface,Option.bind_eq_some_iff] at hl
  obtain ⟨a,h1,i,h2,h3⟩:=hl
  obtain ⟨r,h4,h5⟩:=ifaceV_sound (w:=w) hE h2 h3 (hρ x (by simp) a h1)
  exact ⟨r,ziG h4,h5⟩
 case makeFunc f a c=>
  simp only [lFunc,Option.bind_eq_some_iff,Option.some.injEq] at hl
  obtain ⟨av,h1,cv,h2,rfl⟩:=hl
  have h3:=evs_rep (σ:=σ) (ρ:=ρ) (fun x hx=>hρ x (by simp at hx ⊢; exact .inl hx)) h1
  have h4:=evs_rep (σ:=σ) (ρ:=ρ) (fun x hx=>hρ x (by simp at hx ⊢; exact .inr hx)) h2
  refine ⟨_,ziG rfl,?_⟩
  have:=Rep.fn f _ _ _ _ h3 h4
  have e:∀ q:Array Operand,q.map ρ = (q.toList.map ρ).toArray:=fun q=>by apply Array.toList_inj.1; simp
  rw [e,e]
  exact this
 case slice ty x lo hi mx=>
  simp only [lSlice,Option.bind_eq_some_iff] at hl
  obtain ⟨a,h1,l,h2,h',h3,m,h4,h5⟩:=hl
  obtain ⟨r,h6,h7⟩:=slice_sound (w:=w) hE h5 (hρ x (by simp) a h1) (evo_rep (ρ:=ρ) (fun y hy=>hρ y (by simp at hy ⊢; simp [hy])) h2) (evo_rep (ρ:=ρ) (fun y hy=>hρ y (by simp at hy ⊢; simp [hy])) h3) (evo_rep (ρ:=ρ) (fun y hy=>hρ y (by simp at hy ⊢; simp [hy])) h4)
  exact ⟨r,ziG h6,h7⟩
 case fieldAddr ty x f=>
  simp only [zfK,Option.bind_eq_some_iff] at hl
  obtain ⟨a,h1,h3⟩:=hl
  obtain ⟨r,h4,h5⟩:=fieldAddr_sound (w:=w) hE h3 (hρ x (by simp) a h1)
  exact ⟨r,ziG h4,h5⟩
 case field ty x f=>
  simp only [lField,Option.bind_eq_some_iff] at hl
  obtain ⟨a,h1,h3⟩:=hl
  obtain ⟨r,h4,h5⟩:=field_sound (w:=w) hE h3 (hρ x (by simp) a h1)
  exact ⟨r,ziG h4,h5⟩
 case indexAddr ty x i=>
  simp only [zfR,Option.bind_eq_some_iff] at hl
  obtain ⟨a,h1,b,h2,h3⟩:=hl
  obtain ⟨r,h4,h5⟩:=indexAddr_sound (w:=w) hE h3 (hρ x (by simp) a h1) (hρ i (by simp) b h2)
  exact ⟨r,ziG h4,h5⟩
 case index ty x i=>
  simp only [lIndex,Option.bind_eq_some_iff] at hl
  obtain ⟨a,h1,b,h2,h3⟩:=hl
  obtain ⟨r,h4,h5⟩:=index_sound (w:=w) hE h3 (hρ x (by simp) a h1) (hρ i (by simp) b h2)
  exact ⟨r,ziG h4,h5⟩
 case lookup ty x k ok=>
  simp only [lLookup,Option.bind_eq_some_iff] at hl
  obtain ⟨a,h1,b,h2,h3⟩:=hl
  obtain ⟨r,h4,h5⟩:=lookup_sound hE R h3 (hρ x (by simp) a h1) (hρ k (by simp) b h2)
  exact ⟨r,ziG h4,h5⟩
 case typeAssert x xt a ok=>
  simp only [lAssert,Option.bind_eq_some_iff] at hl
  obtain ⟨u,h1,h3⟩:=hl
  obtain ⟨r,h4,h5⟩:=assert_sound (w:=w) (s:=xt) hE h3 (hρ x (by simp) u h1)
  exact ⟨r,ziG h4,h5⟩
 case extract x i=>
  simp only [zj1,Option.bind_eq_some_iff] at hl
  obtain ⟨u,h1,h2⟩:=hl
  have h3:=hρ x (by simp) u h1
  generalize hax:ρ x=ax at h3
  unfold extractV at h2
  split at h2
  ·cases h3 with
   | tup _ xs hr=>
    obtain ⟨r,h4,h5⟩:=hr.get h2
    refine ⟨r,ziG ?_,h5⟩
    simp [hax,Instr.extract,h4]
  ·cases h2
 case call c=>
  obtain ⟨callee,args,ats⟩:=c
  cases callee with
  | value f=>cases hl
  | invoke r n=>cases hl
  | builtin b=>
   simp only [lCall,Option.bind_eq_some_iff] at hl
   obtain ⟨vs,h1,hl⟩:=hl
   have h2:=evs_rep (σ:=σ) (ρ:=ρ) (fun x hx=>hρ x (by simp [Call.operands]; simpa using hx)) h1
   have e:args.map ρ = (args.toList.map ρ).toArray:=by apply Array.toList_inj.1; simp
   have key:∀ (s:Sem Value) (r:Value),s.run P w=.ok r w→(∀ cs,builtin b ats type cs (args.map ρ)=(do pure (Next.value (← s)):Sem Next))→(execOp ρ ⟨dst,.call ⟨.builtin b,args,ats⟩,type,pos,after,guard⟩).run P w=.ok (.value r) w:=fun s r h3 h4=>by
    show (do let d ← resolve ρ ⟨.builtin b,args,ats⟩ type; invoke d.target d.args:Sem Next).run P w=_
    simp only [resolve,Sem.run_bind,Sem.run_pure,Result.andThen_ok,invoke]
    rw [h4]
    exact ziG h3
   generalize hys:args.toList.map ρ = ys at h2 e
   cases b <;> simp only [zdV] at hl <;> (try (cases hl; done))
   case len=>
    cases h2 with
    | nil=>simp [bLen] at hl
    | cons u x l y hr hl2=>
     cases hl2 with
     | cons=>simp [bLen] at hl
     | nil=>
      simp only [bLen] at hl
      obtain ⟨r,h5,h6⟩:=len_sound (ty:=type) hE R hl hr
      exact ⟨r,key _ _ h5 (fun cs=>by rw [e]; rfl),h6⟩
   case cap=>
    cases h2 with
    | nil=>simp [bCap] at hl
    | cons u x l y hr hl2=>
     cases hl2 with
     | cons=>simp [bCap] at hl
     | nil=>
      simp only [bCap] at hl
      obtain ⟨r,h5,h6⟩:=cap_sound (w:=w) (ty:=type) hE hl hr
      exact ⟨r,key _ _ h5 (fun cs=>by rw [e]; rfl),h6⟩
   case max=>
    obtain ⟨r,h5,h6⟩:=minS_sound (P:=P) (w:=w) (ts:=ats) (ty:=type) hE hl h2
    exact ⟨r,key _ _ h5 (fun cs=>by rw [e]; rfl),h6⟩
   case min=>
    obtain ⟨r,h5,h6⟩:=minS_sound (P:=P) (w:=w) (ts:=ats) (ty:=type) hE hl h2
    exact ⟨r,key _ _ h5 (fun cs=>by rw [e]; rfl),h6⟩
end
end Go.Proofs.YtbchdlelmkmagaaGreatDoor.VM
namespace Go.Proofs.YtbchdlelmkmagaaGreatDoor.VM
open Go Go.RowKit
set_option linter.unusedSectionVars false
variable [Sy]
section
variable {P:Program} {E:Env} {σ:Mp} {w:World}
def Made (σ:Mp) (w:World) (fr:Fr) (blk:Blk) (x:Value) (w':World):Prop:=
 ∃ b n,w.heap.size≤b∧b < w'.heap.size∧(∀ (τ:Mp) B,τ B=some (b,n)→Rep τ (fr.at B) x)∧(∀ o,w'.heap[b]? = some o→RepB σ n blk o)∧Below w.heap.size w w'
def repX:Nat→List Value→List Value
 | 0,_=>[]
 | n+1,l=>l++repX n l
theorem rep_rep {l:List V} {y:List Value} (h:RepL σ l y):∀ n,RepL σ (rep n l) (repX n y)
 | 0=>.nil
 | n+1=>h.append (rep_rep h n)
theorem zey (y:List Value):∀ n,(repX n y).length=n * y.length
 | 0=>by simp [repX]
 | n+1=>by rw [repX,List.length_append,zey y n,Nat.succ_mul,Nat.add_comm]
theorem repX_get (y:List Value):∀ (n i:Nat),i < n * y.length→(repX n y)[i]? = y[i % y.length]?
 | 0,i,h=>by simp at h
 | n+1,i,h=>by
  rw [repX,List.getElem?_append]
  split
  ·rename_i h2; rw [Nat.mod_eq_of_lt h2]
  ·rename_i h2
   have h3:i - y.length < n * y.length:=by rw [Nat.succ_mul] at h; omega
   rw [repX_get y n _ h3]
   have:i=(i - y.length)+y.length:=by omega
   conv=>rhs; rw [this,Nat.add_mod_right]
theorem range_rep (z:Array Value) (len:Nat):(Array.range (len * z.size)).map (z[· % z.size]!)=(repX len z.toList).toArray:=by
 apply Array.toList_inj.1
 apply List.ext_getElem?
 intro i
 rw [Array.toList_map,List.getElem?_map,Array.toList_range]
 by_cases h:i < len * z.size
 ·rw [List.getElem?_range h,repX_get _ _ _ (by simpa using h)]
  have hpos:0 < z.size:=by
   rcases Nat.eq_zero_or_pos z.size with h0 | h0
   ·rw [h0] at h; simp at h
   ·exact h0
  have h2:i % z.size < z.size:=Nat.mod_lt _ hpos
  simp [h2]
 ·rw [List.getElem?_eq_none (by simpa using Nat.le_of_not_lt h)]
  symm
  rw [List.getElem?_eq_none]
  ·rfl
  ·show (repX len z.toList).length≤i
   rw [zey]; simpa using Nat.le_of_not_lt h
theorem row_made {e:TypeId} {vs:List V} {ys:List Value} (hr:RepL σ vs ys) {fr:Fr} {x:Value} (hx:∀ (τ:Mp) B,τ B=some (w.heap.size,ys.length)→Rep τ (fr.at B) x):
  Made σ w fr (.cells vs e false) x (w.alloc (.cells ys.toArray e)):=by
 refine ⟨w.heap.size,ys.length,Nat.le_refl _,by simp,hx,fun o ho=>?_,(Below.refl _ _).alloc (Nat.le_refl _) _⟩
 rw [(MapKept.heap_alloc w (.cells ys.toArray e)).1] at ho
 cases ho
 exact ⟨ys,[],(0,0),by simp,hr,by simp,fun i _=>by simp⟩
theorem conv_madeD {s:List Nat} (hs:∀ b ∈ s,b < 256) (e:TypeId) {l:List V} (hl:l.map den=ziC s):∃ x w',(Conv.stringToBytes e (zR s)).run P w=.ok x w'∧Made σ w (.slo s.length 1) (.cells l e false) x w':=by
 unfold Conv.stringToBytes
 rw [Sem.run_bind,run_choose]
 simp only [Question.forced,Bool.false_eq_true,if_false,Result.andThen_ok,zbf]
 generalize hcap:Question.cut (.appendCap s.length 0 e) (w.tape w.drawn (.appendCap s.length 0 e))=cap
 have hle:s.length≤cap:=by rw [← hcap]; simp [Question.cut]
 have hrep:RepL σ l (s.map fun (b:Nat)=>Value.int .u8 (b:Int)):=by
  apply repL_den
  rw [hl]
  clear hl hcap hle hs
  induction s with
  | nil=>exact .nil
  | cons b s ih=>exact .cons _ _ _ _ (.int _ _) ih
 have hel:((zR s).data.map fun b=>Value.int .u8 (b.toNat:Int))=(s.map fun (b:Nat)=>Value.int .u8 (b:Int)).toArray:=by
  apply Array.toList_inj.1
  simp only [zR,Array.toList_map,List.map_map]
  apply List.map_congr_left
  intro b hb
  simp [zbB (hs b hb)]
 rw [hel]
 generalize hys:(s.map fun (b:Nat)=>Value.int .u8 (b:Int))=ys at hrep
 have hlen:ys.length=s.length:=by rw [← hys]; simp
 generalize harr:ys.toArray++Array.replicate (cap - s.length) (Value.int .u8 0)=arr
 have hsz:arr.size=cap:=by rw [← harr]; simp [hlen]; omega
 let w1:World:={ w with drawn:=w.drawn+1 }
 let w2:World:=w1.alloc (.cells arr e)
 have e1:w2.heap[w.heap.size]? = some (.cells arr e):=(MapKept.heap_alloc w1 (.cells arr e)).1
 have e2:(newRow e arr).run P w1=.ok ⟨w.heap.size,0,none⟩ w2:=rfl
 have e3:(markStringish ⟨w.heap.size,0,none⟩).run P w2=.ok () (w2.freeze ⟨w.heap.size,cap,none⟩ 1):=by
  simp only [markStringish,Sem.run_bind,run_shape,World.shape?,e1,Result.andThen_ok,run_freeze,hsz]
 refine ⟨.slice (some ⟨w.heap.size,0,none⟩) s.length cap,w2.freeze ⟨w.heap.size,cap,none⟩ 1,?_,w.heap.size,cap,Nat.le_refl _,?_,fun τ B hB=>?_,fun o ho=>?_,?_⟩
 ·rw [Sem.run_bind,e2,Result.andThen_ok,Sem.run_bind,e3,Result.andThen_ok]
  rfl
 ·simp [World.freeze,w2,w1]
 ·exact .slo _ _ _ _ _ _ cap _ hB hle (Nat.le_refl _) (by omega)
 ·have e4:(w2.freeze ⟨w.heap.size,cap,none⟩ 1).heap[w.heap.size]? = some (.cells arr e (cap,cap+1)):=by
   simp [World.freeze,Array.getElem?_modify,e1]
  rw [e4] at ho
  cases ho
  refine ⟨ys,List.replicate (cap - s.length) (.int .u8 0),(cap,cap+1),?_,hrep,by simp [hlen]; omega,fun i hi=>by simp; omega⟩
  rw [← harr]
  congr 1
  apply Array.toList_inj.1
  simp
 ·refine ⟨rfl,rfl,rfl,by simp [World.freeze,w2,w1],fun k hk=>?_⟩
  have e5:(w2.freeze ⟨w.heap.size,cap,none⟩ 1).heap[k]? = w2.heap[k]?:=by
   simp only [World.freeze,Nat.succ_ne_zero,if_false,Array.getElem?_modify]
   rw [if_neg (by omega)]
  rw [e5]
  exact (MapKept.heap_alloc w1 (.cells arr e)).2 k hk
theorem bytesV_den:∀ s:List Nat,(ziC s).map den=ziC s
 | []=>rfl
 | b::s=>by
  show V.int .u8 (.ofNat b)::(ziC s).map den=_
  rw [bytesV_den s]
  rfl
theorem conv_made {s:List Nat} (hs:∀ b ∈ s,b < 256) (e:TypeId):∃ x w',(Conv.stringToBytes e (zR s)).run P w=.ok x w'∧Made σ w (.slo s.length 1) (.cells (ziC s) e false) x w':=conv_madeD hs e (bytesV_den s)
theorem newVar_run {e:TypeId} {v:Value}:(newVar e v).run P w=.ok ⟨w.heap.size,0,none⟩ (w.alloc (.cells v.cells e)):=rfl
theorem fop_sound (hE:EnvOK P E) {o:Oper} {t:Tm} {ρ:Operand→Value} {fr:Fr} {blk:Blk} (hl:fop E t o.op=some (fr,blk)) (hρ:∀ x ∈ o.op.operands,∀ v,ev t x=some v→Rep σ v (ρ x)):
  ∃ x w',(execOp ρ o).run P w=.ok (.value x) w'∧Made σ w fr blk x w':=by
 obtain ⟨dst,op,type,pos,after,guard⟩:=o
 simp only at hl hρ
 have run_v':∀ {s:Sem Value} {r:Value} {w':World},s.run P w=.ok r w'→(do pure (Next.value (← s)):Sem Next).run P w=.ok (.value r) w':=fun h=>by rw [Sem.run_bind,h]; rfl
 cases op <;> simp only [fop] at hl <;> (try (cases hl; done)) <;> simp only [Op.operands] at hρ
 case alloc e=>
  simp only [fAlloc,ziu,Option.bind_eq_some_iff,Option.some.injEq,Prod.mk.injEq] at hl
  obtain ⟨i,hi,z,hz,rfl,rfl⟩:=hl
  obtain ⟨d,inf,T⟩:=hE.is hi
  obtain ⟨zv,h1,h2⟩:=zhZ (σ:=σ) T hz
  refine ⟨.pointer (some ⟨w.heap.size,0,none⟩),w.alloc (.cells zv.cells.toList.toArray e),run_v' ?_,row_made h2 fun τ B hB=>.ptr _ _ _ _ hB⟩
  simp only [Instr.alloc,Sem.run_bind,zbD T.info h1,Result.andThen_ok,newVar_run,Sem.run_pure,Array.toArray_toList]
 case box e x=>
  simp only [fBox,Option.bind_eq_some_iff] at hl
  obtain ⟨v,h1,h2⟩:=hl
  cases hc:zh v.cells with
  | false=>rw [hc] at h2; cases h2
  | true=>
   rw [hc] at h2
   simp only [cond_true,ziu,Option.some.injEq,Prod.mk.injEq] at h2
   obtain ⟨rfl,rfl⟩:=h2
   have h3:=hρ x (by simp) v h1
   refine ⟨.pointer (some ⟨w.heap.size,0,none⟩),w.alloc (.cells (ρ x).cells.toList.toArray e),run_v' ?_,row_made h3.cells fun τ B hB=>.ptr _ _ _ _ hB⟩
   simp only [Instr.box,Sem.run_bind,newVar_run,Result.andThen_ok,Sem.run_pure,Array.toArray_toList]
 case buildSlice ty len ps=>
  simp only [zeL,Option.bind_eq_some_iff,zbk] at hl
  obtain ⟨vs,h1,i,hi,hl⟩:=hl
  obtain ⟨d,inf,T⟩:=hE.is hi
  split at hl
  ·rename_i e hk
   rw [T.k] at hk
   obtain rfl:=zcX hk.symm
   rw [Option.bind_eq_some_iff] at hl
   obtain ⟨j,hj,hl⟩:=hl
   obtain ⟨d2,inf2,T2⟩:=hE.is hj
   cases hc:(Nat.ble (len * j.size) 16777216 && Nat.beq ((j.zero.getD []).length) j.size) with
   | false=>rw [hc] at hl; cases hl
   | true=>
    rw [hc] at hl
    simp only [cond_true,Option.bind_eq_some_iff,Option.some.injEq,Prod.mk.injEq] at hl
    obtain ⟨z,hz,l,hf,rfl,rfl⟩:=hl
    rw [Bool.and_eq_true] at hc
    have hc1:=Nat.le_of_ble_eq_true hc.1
    have hc2:=Nat.eq_of_beq_eq_true hc.2
    rw [hz] at hc2
    simp only [Option.getD_some] at hc2
    obtain ⟨zv,h2,h3⟩:=zhZ (σ:=σ) T2 hz
    have h4:=parts_rep (σ:=σ) (ρ:=ρ) (fun p hp v hv=>hρ p.2 (by simp only [List.mem_toArray,List.mem_map]; exact ⟨p,hp,rfl⟩) v hv) h1
    obtain ⟨ys,h5,h6⟩:=zj4 (place:=fun i=>some (i * j.size,j.size)) (fun i p hp=>by rw [places_get _ _ _ _ _ hp]; simp) h4 (rep_rep h3 len) hf
    have hys:zv.cells.size=j.size:=by have:=h3.length; rw [hc2] at this; simpa using this.symm
    refine ⟨.slice (some ⟨w.heap.size,0,none⟩) len len,w.alloc (.cells ys.toArray e),run_v' ?_,row_made h6 fun τ B hB=>.sl _ _ _ _ _ _ hB⟩
    have e1:(ps.map fun (i,x)=>(i,ρ x))=(ps.toList.map fun p=>(p.1,ρ p.2)).toArray:=by apply Array.toList_inj.1; simp
    rw [e1]
    unfold Instr.buildSlice
    rw [Sem.run_bind,run_underlying T.und,Result.andThen_ok]
    simp only [Sem.run_bind,zY T2.info,Result.andThen_ok]
    rw [← T2.size]
    have h7:¬ len * j.size > 2 ^ 24:=by omega
    have e2:(Array.range (len * j.size)).map (fun x=>zv.cells[x % zv.cells.size]!)=(repX len zv.cells.toList).toArray:=by rw [← hys]; exact range_rep zv.cells len
    by_cases h8:len * j.size=0
    ·have e3:(repX len zv.cells.toList).toArray = #[]:=by
      apply Array.toList_inj.1
      apply List.eq_nil_of_length_eq_zero
      rw [show (repX len zv.cells.toList).toArray.toList=repX len zv.cells.toList from rfl,zey]
      simpa [hys] using h8
     have e4:(Array.range (len * j.size)).map (fun x=>(#[]:Array Value)[x % (#[]:Array Value).size]!) = #[]:=by rw [h8]; simp
     rw [e3] at h5
     simp only [h8,if_true,Sem.run_ite]
     rw [h8] at e4
     simp only [e4,h5,Sem.run_bind,newRow,run_newObj,Result.andThen_ok,Sem.run_pure]
     rfl
    ·simp only [h7,if_false,h8,Sem.run_bind,zbD T2.info h2,Sem.run_pure,Result.andThen_ok]
     simp only [e2,h5,Sem.run_bind,newRow,run_newObj,Result.andThen_ok,Sem.run_pure]
     rfl
  ·cases hl
 case convert s d x=>
  simp only [fConv,fconv,Option.bind_eq_some_iff] at hl
  obtain ⟨i0,hi0,v,h1,j,hj,hl⟩:=hl
  obtain ⟨d0,inf0,T0⟩:=hE.is hi0
  obtain ⟨d2,inf2,T2⟩:=hE.is hj
  have h3:=hρ x (by simp) v h1
  generalize hax:ρ x=ax at h3
  split at hl
  ·rename_i e s' hk
   rw [T2.k] at hk
   obtain rfl:=zcX hk.symm
   simp only [Option.bind_eq_some_iff] at hl
   obtain ⟨m,hm,hl⟩:=hl
   obtain ⟨d3,inf3,T3⟩:=hE.is hm
   split at hl
   ·rename_i hk3
    rw [T3.k] at hk3
    obtain rfl:=zil hk3.symm
    simp only [Option.some.injEq,Prod.mk.injEq] at hl
    obtain ⟨rfl,rfl⟩:=hl
    cases h3 with
    | str _ hs=>
     obtain ⟨x',w',h5,h6⟩:=conv_made (σ:=σ) (P:=P) (w:=w) hs e
     refine ⟨x',w',run_v' ?_,h6⟩
     rw [hax]
     unfold convert
     rw [Sem.run_bind,run_underlying T0.und,Result.andThen_ok,Sem.run_bind,run_underlying T2.und,Result.andThen_ok]
     show (do match ← underlying e with | .int .u8 => Conv.stringToBytes e (zR s') | .int .i32 => Conv.stringToRunes e (zR s') | _ => stuck "Convert: string to a slice of what?" : Sem Value).run P w = _
     rw [Sem.run_bind,run_underlying T3.und,Result.andThen_ok]
     exact h5
   ·cases hl
  ·rename_i e q hk
   rw [T2.k] at hk
   obtain rfl:=zcX hk.symm
   simp only [Option.bind_eq_some_iff] at hl
   obtain ⟨m,hm,hl⟩:=hl
   obtain ⟨d3,inf3,T3⟩:=hE.is hm
   split at hl
   ·rename_i hk3
    rw [T3.k] at hk3
    obtain rfl:=zil hk3.symm
    simp only [Option.bind_eq_some_iff,Option.some.injEq,Prod.mk.injEq] at hl
    obtain ⟨r,hr,l,hl1,rfl,rfl⟩:=hl
    obtain rfl:r=.tup l:=by
     cases r <;> first | (cases hl1; done) | skip
     cases hl1
     rfl
    obtain ⟨s',es,el⟩:=hE.so.bytes _ _ hr
    cases es
    cases h3 with
    | symS _ hs=>
     obtain ⟨x',w',h5,h6⟩:=conv_madeD (σ:=σ) (P:=P) (w:=w) hs e el
     have e9:l.length=(Sy.s q).length:=by
      have:=congrArg List.length el
      simpa [ziC] using this
     rw [e9]
     refine ⟨x',w',run_v' ?_,h6⟩
     rw [hax]
     unfold convert
     rw [Sem.run_bind,run_underlying T0.und,Result.andThen_ok,Sem.run_bind,run_underlying T2.und,Result.andThen_ok]
     show (do match ← underlying e with | .int .u8 => Conv.stringToBytes e (zR (Sy.s q)) | .int .i32 => Conv.stringToRunes e (zR (Sy.s q)) | _ => stuck "Convert: string to a slice of what?" : Sem Value).run P w = _
     rw [Sem.run_bind,run_underlying T3.und,Result.andThen_ok]
     exact h5
   ·cases hl
  ·cases hl
 case makeMap ty r=>
  cases r with
  | some _=>cases hl
  | none=>
   simp only [fMap,Option.some.injEq,Prod.mk.injEq] at hl
   obtain ⟨rfl,rfl⟩:=hl
   refine ⟨.map (some w.heap.size),w.alloc (.map #[] 0),run_v' rfl,w.heap.size,0,Nat.le_refl _,by simp,fun τ B hB=>.mp _ _ _ hB,fun o ho=>?_,(Below.refl _ _).alloc (Nat.le_refl _) _⟩
   rw [(MapKept.heap_alloc w (.map #[] 0)).1] at ho
   cases ho
   exact ⟨[],rfl,.nil⟩
 case makeSlice ty l c=>
  simp only [fMake,Option.bind_eq_some_iff] at hl
  obtain ⟨lv,h1,cv,h2,i,hi,hl⟩:=hl
  obtain ⟨d,inf,T⟩:=hE.is hi
  have h3:=hρ l (by simp) lv h1
  have h4:=hρ c (by simp) cv h2
  generalize hlx:ρ l=lx at h3
  generalize hcx:ρ c=cx at h4
  unfold makeV at hl
  split at hl
  ·rename_i e n m hk
   rw [T.k] at hk
   obtain rfl:=zcX hk.symm
   cases h3; cases h4
   simp only [Option.bind_eq_some_iff] at hl
   obtain ⟨n',hn,m',hm,j,hj,z,hz,hl⟩:=hl
   obtain rfl:=zew hn
   obtain rfl:=zew hm
   obtain ⟨d2,inf2,T2⟩:=hE.is hj
   cases hc:(Nat.ble n' m' && Nat.ble (j.bytes * m') 1048576 && Nat.ble m' 1048576 && Nat.beq z.length j.size) with
   | false=>rw [hc] at hl; cases hl
   | true=>
    rw [hc] at hl
    simp only [cond_true,Option.some.injEq,Prod.mk.injEq] at hl
    obtain ⟨rfl,rfl⟩:=hl
    simp only [Bool.and_eq_true,ble_d,zff,decide_eq_true_iff] at hc
    obtain ⟨⟨⟨c1,c2⟩,c3⟩,c4⟩:=hc
    obtain ⟨zv,h5,h6⟩:=zhZ (σ:=σ) T2 hz
    have hys:zv.cells.size=j.size:=by have:=h6.length; rw [c4] at this; simpa using this.symm
    refine ⟨.slice (some ⟨w.heap.size,0,none⟩) n' m',w.alloc (.cells (repX m' zv.cells.toList).toArray e),run_v' ?_,row_made (rep_rep h6 m') fun τ B hB=>.sl _ _ _ _ _ _ hB⟩
    rw [hlx,hcx]
    have w1:IntKind.i64.wrap (n':Int)=(n':Int):=Go.IntWalk.i64_in _ (by omega)
    have w2:IntKind.i64.wrap (m':Int)=(m':Int):=Go.IntWalk.i64_in _ (by omega)
    have e2:(Array.range (m' * j.size)).map (fun x=>zv.cells[x % zv.cells.size]!)=(repX m' zv.cells.toList).toArray:=by rw [← hys]; exact range_rep zv.cells m'
    unfold Instr.makeSlice
    rw [Sem.run_bind,run_underlying T.und,Result.andThen_ok]
    simp only [asInt,asIntOf,Sem.run_bind,Sem.run_pure,Result.andThen_ok,zbJ T2.info,w1,w2]
    rw [← T2.bytes]
    have g1:¬ ((m':Int) < 0):=by omega
    have g2:¬ ((j.bytes:Int) * (m':Int) > 2 ^ 48):=by
     have:((j.bytes:Int) * (m':Int))=((j.bytes * m':Nat):Int):=by simp
     rw [this]; omega
    have g3:¬ ((n':Int) < 0):=by omega
    have g4:¬ ((n':Int) > (m':Int)):=by omega
    simp only [g1,g2,g3,g4,decide_false,Bool.or_self,Bool.false_eq_true,if_false,Int.toNat_natCast]
    simp only [Sem.run_bind,run_askRoom,zY T2.info,Result.andThen_ok]
    rw [← T2.size]
    by_cases h8:m' * j.size=0
    ·have e3:(repX m' zv.cells.toList).toArray = #[]:=by
      apply Array.toList_inj.1
      apply List.eq_nil_of_length_eq_zero
      rw [show (repX m' zv.cells.toList).toArray.toList=repX m' zv.cells.toList from rfl,zey]
      simpa [hys] using h8
     have e0:∀ f:Nat→Value,Array.map f (Array.range 0) = #[]:=fun f=>by apply Array.toList_inj.1; simp
     simp only [h8,if_true,e3,Sem.run_bind,Sem.run_pure,Result.andThen_ok,newRow,run_newObj,e0]
     rfl
    ·simp only [h8,if_false,Sem.run_bind,zbD T2.info h5,Sem.run_pure,Result.andThen_ok,e2,newRow,run_newObj]
     rfl
  ·cases hl
end
end Go.Proofs.YtbchdlelmkmagaaGreatDoor.VM
namespace Go.Proofs.YtbchdlelmkmagaaGreatDoor.VM
open Go Go.RowKit
set_option linter.unusedSectionVars false
variable [Sy]
structure Chg (w w':World) (b:Nat):Prop where
 os:w'.os=w.os
 tape:w'.tape=w.tape
 output:w'.output=w.output
 size:w'.heap.size=w.heap.size
 other:∀ k,k ≠ b→w'.heap[k]? = w.heap[k]?
theorem Chg.refl (w:World) (b:Nat):Chg w w b:=⟨rfl,rfl,rfl,rfl,fun _ _=>rfl⟩
theorem Chg.trans {w w1 w2:World} {b:Nat} (h:Chg w w1 b) (k:Chg w1 w2 b):Chg w w2 b:=
 ⟨k.os.trans h.os,k.tape.trans h.tape,k.output.trans h.output,k.size.trans h.size,fun i hi=>(k.other i hi).trans (h.other i hi)⟩
theorem Chg.below {w w':World} {b N:Nat} (h:Chg w w' b) (hb:N≤b):Below N w w':=⟨h.os,h.tape,h.output,by rw [h.size]; exact Nat.le_refl _,fun k hk=>h.other k (by omega)⟩
def Mp.put (σ:Mp) (B:Nat) (p:Nat × Nat):Mp:=fun C=>if C=B then some p else σ C
theorem Mp.put_same (σ:Mp) (B:Nat) (p:Nat × Nat):(σ.put B p) B=some p:=by simp [Mp.put]
theorem Mp.le_put {σ:Mp} {B:Nat} {p:Nat × Nat} (h:σ B=none):Mp.le σ (σ.put B p):=fun C q hq=>by
 unfold Mp.put
 split
 ·rename_i e; subst e; rw [h] at hq; cases hq
 ·exact hq
section
variable {P:Program} {E:Env} {σ:Mp} {w w':World} {N:Nat} {h:Hp}
theorem Rel.free (R:Rel N σ h w):σ h.n=none:=by
 cases hc:σ h.n with
 | none=>rfl
 | some p=>obtain ⟨b,n⟩:=p; have:=(R.has _ _ _ hc).1; omega
theorem Hp.get_set (h:Hp) (i j:Nat) (b:Blk):(h.set i b).t.get j=if j=i then some b else h.t.get j:=T.get_put _ _ _ _
theorem Hp.get_new (h:Hp) (j:Nat) (b:Blk):(h.new b).t.get j=if j=h.n then some b else h.t.get j:=T.get_put _ _ _ _
theorem Rel.change (R:Rel N σ h w) {B b n:Nat} (e:σ B=some (b,n)) {k k':Blk} (hk:h.t.get B=some k) (hd:k ≠ .dead) (hro:∀ vs el,k ≠ .cells vs el true) (hc:Chg w w' b)
  (hb:∀ o,w'.heap[b]? = some o→RepB σ n k' o):Rel N σ (h.set B k') w':=by
 have hN:N≤b:=by
  rcases Nat.lt_or_ge b N with h1 | h1
  ·rcases R.old B b n e h1 with ⟨vs,el,h2⟩ | h2
   ·rw [hk] at h2; injection h2 with h2; exact absurd h2 (hro vs el)
   ·rw [hk] at h2; injection h2 with h2; exact absurd h2 hd
  ·exact h1
 refine ⟨fun C c m hC=>?_,fun C D c m q hC hD=>?_,fun C c m hC hlt=>?_,by rw [hc.size]; exact R.base,fun p hp=>⟨(R.tab p hp).1,(hc.other _ (by have:=(R.tab p hp).1; omega)).trans (R.tab p hp).2⟩⟩
 ·obtain ⟨h1,h2,k2,h3,h4⟩:=R.has C c m hC
  refine ⟨h1,by rw [hc.size]; exact h2,?_⟩
  by_cases hCB:C=B
  ·subst hCB
   rw [e] at hC
   cases hC
   exact ⟨k',by rw [Hp.get_set,if_pos rfl],hb⟩
  ·refine ⟨k2,by rw [Hp.get_set,if_neg hCB]; exact h3,fun o ho=>?_⟩
   by_cases hcb:c=b
   ·subst hcb
    rcases R.inj C B c m n hC e with h5 | h5 | h5
    ·exact absurd h5 hCB
    ·rw [h3] at h5; cases h5; trivial
    ·rw [hk] at h5; injection h5 with h5; exact absurd h5 hd
   ·rw [hc.other c hcb] at ho
    exact h4 o ho
 ·rcases R.inj C D c m q hC hD with h5 | h5 | h5
  ·exact .inl h5
  ·right; left
   rw [Hp.get_set]
   split
   ·rename_i h6; subst h6; rw [hk] at h5; injection h5 with h5; exact absurd h5 hd
   ·exact h5
  ·right; right
   rw [Hp.get_set]
   split
   ·rename_i h6; subst h6; rw [hk] at h5; injection h5 with h5; exact absurd h5 hd
   ·exact h5
 ·rw [Hp.get_set]
  split
  ·rename_i h6
   subst h6
   rw [e] at hC
   cases hC
   omega
  ·exact R.old C c m hC hlt
theorem Rel.world (R:Rel N σ h w) (hb:Below w.heap.size w w'):Rel N σ h w':=by
 refine ⟨fun C c m hC=>?_,R.inj,R.old,Nat.le_trans R.base hb.size,fun p hp=>⟨(R.tab p hp).1,(hb.block _ (Nat.lt_of_lt_of_le (R.tab p hp).1 R.base)).trans (R.tab p hp).2⟩⟩
 obtain ⟨h1,h2,k2,h3,h4⟩:=R.has C c m hC
 exact ⟨h1,Nat.lt_of_lt_of_le h2 hb.size,k2,h3,fun o ho=>h4 o (by rw [hb.block c h2] at ho; exact ho)⟩
theorem Rel.come (R:Rel N σ h w) {B b n:Nat} {k:Blk} (hB:B < h.n) (hk:h.t.get B=some k) (hσ:σ B=none) (hw:Below w.heap.size w w') (hb:w.heap.size≤b) (hb2:b < w'.heap.size) (hr:∀ o,w'.heap[b]? = some o→RepB σ n k o):
  Rel N (σ.put B (b,n)) h w':=by
 have hle:Mp.le σ (σ.put B (b,n)):=Mp.le_put hσ
 have R':=R.world hw
 have key:∀ C c m,(σ.put B (b,n)) C=some (c,m)→(C=B∧c=b∧m=n)∨σ C=some (c,m):=fun C c m hC=>by
  unfold Mp.put at hC
  split at hC
  ·rename_i e; cases hC; exact .inl ⟨e,rfl,rfl⟩
  ·exact .inr hC
 refine ⟨fun C c m hC=>?_,fun C D c m q hC hD=>?_,fun C c m hC hlt=>?_,R'.base,R'.tab⟩
 ·rcases key C c m hC with ⟨rfl,rfl,rfl⟩ | h1
  ·exact ⟨hB,hb2,k,hk,fun o ho=>(hr o ho).mono hle⟩
  ·obtain ⟨h2,h3,k2,h4,h5⟩:=R'.has C c m h1
   exact ⟨h2,h3,k2,h4,fun o ho=>(h5 o ho).mono hle⟩
 ·rcases key C c m hC with ⟨rfl,rfl,rfl⟩ | h1 <;> rcases key D c q hD with ⟨e1,e2,e3⟩ | h2
  ·exact .inl e1.symm
  ·exfalso; have:=(R.has D c q h2).2.1; omega
  ·exfalso; subst e2; have:=(R.has C c m h1).2.1; omega
  ·exact R.inj C D c m q h1 h2
 ·rcases key C c m hC with ⟨rfl,rfl,rfl⟩ | h1
  ·exfalso; have:=R.base; omega
  ·exact R.old C c m h1 hlt
theorem Rel.more (R:Rel N σ h w) (k:Blk):Rel N σ (h.new k) w:=by
 have hne:∀ C c m,σ C=some (c,m)→C ≠ h.n:=fun C c m hC e=>by have:=(R.has C c m hC).1; omega
 refine ⟨fun C c m hC=>?_,fun C D c m q hC hD=>?_,fun C c m hC hlt=>?_,R.base,R.tab⟩
 ·obtain ⟨h1,h2,k2,h3,h4⟩:=R.has C c m hC
  exact ⟨Nat.lt_succ_of_lt h1,h2,k2,by rw [Hp.get_new,if_neg (hne C c m hC)]; exact h3,h4⟩
 ·rw [Hp.get_new,Hp.get_new,if_neg (hne C c m hC),if_neg (hne D c q hD)]
  exact R.inj C D c m q hC hD
 ·rw [Hp.get_new,if_neg (hne C c m hC)]
  exact R.old C c m hC hlt
structure Mp.Ext (n:Nat) (σ τ:Mp):Prop where
 le:Mp.le σ τ
 same:∀ B,B < n→τ B = σ B
theorem Mp.Ext.refl (n:Nat) (σ:Mp):Mp.Ext n σ σ:=⟨Mp.le.refl σ,fun _ _=>rfl⟩
theorem Mp.Ext.trans {n m:Nat} {a b c:Mp} (h:Mp.Ext n a b) (k:Mp.Ext m b c) (hm:n≤m):Mp.Ext n a c:=⟨h.le.trans k.le,fun B hB=>(k.same B (by omega)).trans (h.same B hB)⟩
theorem Mp.Ext.put {σ:Mp} {n B:Nat} {p:Nat × Nat} (h:σ B=none) (hn:n≤B):Mp.Ext n σ (σ.put B p):=⟨Mp.le_put h,fun C hC=>by unfold Mp.put; rw [if_neg (by omega)]⟩
def Does (N:Nat) (σ:Mp) (h:Hp) (w:World) (v:V) (h':Hp) (x:Value) (w':World):Prop:=∃ σ',Mp.Ext h.n σ σ'∧h.n≤h'.n∧Rep σ' v x∧Rel N σ' h' w'∧Below N w w'
theorem Does.stay {v:V} {x:Value} {h':Hp} (hr:Rep σ v x) (R:Rel N σ h' w') (hb:Below N w w') (hn:h.n≤h'.n):Does N σ h w v h' x w':=⟨σ,Mp.Ext.refl _ _,hn,hr,R,hb⟩
theorem Rel.made (R:Rel N σ h w) {fr:Fr} {blk:Blk} {x:Value} (hm:Made σ w fr blk x w'):Does N σ h w (fr.at h.n) (h.new blk) x w':=by
 obtain ⟨b,n,h1,h2,h3,h4,h5⟩:=hm
 refine ⟨σ.put h.n (b,n),Mp.Ext.put R.free (Nat.le_refl _),Nat.le_succ _,h3 _ _ (Mp.put_same _ _ _),?_,h5.mono R.base⟩
 exact (R.more blk).come (Nat.lt_succ_self _) (by rw [Hp.get_new,if_pos rfl]) R.free h5 h1 h2 h4
theorem one_of_cell {v:V} {x:Value} (hc:v.isCell=true) (hr:Rep σ v x):x.oneCell'=true:=by
 cases hr <;> first | rfl | assumption | cases hc
theorem zi6:∀ {l:List V} {xs:List Value},zh l=true→RepL σ l xs→∀ x ∈ xs,x.oneCell'=true
 | [],_,_,.nil=>by simp
 | v::l,_,h,.cons _ x _ xs hr hl=>by
  rw [zh] at h
  cases hc:v.isCell with
  | false=>rw [hc] at h; cases h
  | true=>
   rw [hc] at h
   intro y hy
   rcases List.mem_cons.1 hy with rfl | hy
   ·exact one_of_cell hc hr
   ·exact zi6 h hl y hy
theorem store_run {b off el:Nat} {fz:Nat × Nat}:∀ (ys:List Value) (k:Nat) (xs:List Value) (w:World),w.heap[b]? = some (.cells xs.toArray el fz)→(∀ i,i < xs.length→¬ (fz.1≤i∧i < fz.2))→(ys=[]∨off+k+ys.length≤xs.length)→(∀ y ∈ ys,y.oneCell'=true) →
  ∃ w',(storeCells ⟨b,off,none⟩ ys k).run P w=.ok () w'∧w'.heap[b]? = some (.cells (zfv off ys k xs).toArray el fz)∧Chg w w' b
 | [],k,xs,w,hw,_,_,_=>⟨w,rfl,hw,Chg.refl _ _⟩
 | y::ys,k,xs,w,hw,hf,hl,h1=>by
  have hlt:off+k < xs.length:=by rcases hl with h | h <;> simp at h; omega
  have hcell:w.cell? ⟨b,off+k,none⟩=some xs[off+k]:=by simp [World.cell?,hw,hlt]
  have hfro:w.frozen? ⟨b,off+k,none⟩=false:=by
   have:=hf (off+k) hlt
   simp only [World.frozen?,hw,Bool.and_eq_false_iff,decide_eq_false_iff_not]
   omega
  have hst:(store ((⟨b,off,none⟩:Addr).add k) y).run P w=.ok () (w.setCell ⟨b,off+k,none⟩ y):=by
   rw [zcZ,run_store P w _ y _ (h1 y (by simp)),hcell]
   simp [hfro]
  have e1:(w.setCell ⟨b,off+k,none⟩ y).heap[b]? = some (.cells (xs.set (off+k) y).toArray el fz):=by
   simp [World.setCell,Array.getElem?_modify,hw]
  have c1:Chg w (w.setCell ⟨b,off+k,none⟩ y) b:=⟨rfl,rfl,rfl,by simp [World.setCell],fun i hi=>by simp [World.setCell,Array.getElem?_modify,Ne.symm hi]⟩
  have hl':ys=[]∨off+(k+1)+ys.length≤(xs.set (off+k) y).length:=by
   rcases hl with h | h
   ·simp at h
   ·right; simp at h ⊢; omega
  obtain ⟨w',h2,h3,h4⟩:=store_run ys (k+1) (xs.set (off+k) y) _ e1 (by simpa using hf) hl' (fun z hz=>h1 z (by simp [hz]))
  refine ⟨w',?_,h3,c1.trans h4⟩
  rw [storeCells,Sem.run_bind,hst,Result.andThen_ok]
  exact h2
theorem wr_sound (R:Rel N σ h w) {B b n off:Nat} (e:σ B=some (b,n)) {ws:List V} {ys:List Value} (hw:RepL σ ws ys) {h':Hp} (hh:zcP h B off ws=some h'):
  ∃ w',(storeCells ⟨b,off,none⟩ ys).run P w=.ok () w'∧Rel N σ h' w'∧Below N w w':=by
 unfold zcP at hh
 split at hh
 ·rename_i vs el hB
  cases hc:zh ws with
  | false=>rw [hc] at hh; cases hh
  | true=>
   rw [hc] at hh
   simp only [cond_true,Option.bind_eq_some_iff,Option.some.injEq] at hh
   obtain ⟨r,hs,rfl⟩:=hh
   obtain ⟨el',xs,zs,fz,h1,h2,h3,h4⟩:=R.cells e (vs:=vs) (by unfold zas; rw [hB])
   have hel:el'=el:=by
    obtain ⟨_,hb,k,hk,ho⟩:=R.has B b n e
    rw [hB] at hk
    cases hk
    obtain ⟨xs',ys',fz',e1,_⟩:=(ho _ h1).out
    injection e1 with _ e2
   subst hel
   have hlen:ys=[]∨off+ys.length≤xs.length:=by
    rw [← hw.length,← h2.length]
    rcases spl_len ws hs with h5 | h5
    ·left; subst h5; cases hw; rfl
    ·exact .inr h5
   obtain ⟨w',h5,h6,h7⟩:=store_run (P:=P) (b:=b) (off:=off) (el:=el') (fz:=fz) ys 0 (xs++zs) w h1 (fun i hi=>h4 _ hB i (by rw [← h3]; exact hi)) (hlen.imp id fun h=>by simp; omega) (zi6 hc hw)
   have hN:N≤b:=by
    rcases Nat.lt_or_ge b N with h8 | h8
    ·rcases R.old B b n e h8 with ⟨vs',el',h9⟩ | h9 <;> rw [hB] at h9 <;> cases h9
    ·exact h8
   refine ⟨w',h5,R.change e hB (by simp) (by simp) h7 (fun o ho=>?_),h7.below hN⟩
   rw [h6] at ho
   cases ho
   refine ⟨zfv off ys 0 xs,zs,fz,?_,spl_rep hw h2 (k:=0) hs,?_,fun _=>h4 _ hB⟩
   ·rcases hlen with h8 | h8
    ·subst h8; rfl
    ·rw [putAll_append _ _ _ _ _ (by omega)]
   ·rw [List.length_append,putAll_length,← List.length_append,h3]
 ·cases hh
theorem wr_n {B off:Nat} {ws:List V} {h':Hp} (hh:zcP h B off ws=some h'):h.n≤h'.n:=by
 unfold zcP at hh
 split at hh
 ·cases hc:zh ws with
  | false=>rw [hc] at hh; cases hh
  | true=>
   rw [hc] at hh
   simp only [cond_true,Option.bind_eq_some_iff,Option.some.injEq] at hh
   obtain ⟨r,_,rfl⟩:=hh
   exact Nat.le_refl _
 ·cases hh
theorem store_n {ty:TypeId} {a v:V} {h':Hp} (hs:vstore E h ty a v=some h'):h.n≤h'.n:=by
 unfold vstore at hs
 split at hs
 ·rw [Option.bind_eq_some_iff] at hs
  obtain ⟨i,_,hs⟩:=hs
  cases hc:Nat.beq v.cells.length i.size with
  | false=>rw [hc] at hs; cases hs
  | true=>rw [hc] at hs; exact wr_n hs
 ·cases hs
theorem store_sound (hE:EnvOK P E) (R:Rel N σ h w) {ty:TypeId} {a v:V} {ax vx:Value} {h':Hp} (hs:vstore E h ty a v=some h') (ha:Rep σ a ax) (hv:Rep σ v vx):
  ∃ w',(Instr.storeAt ty ax vx).run P w=.ok () w'∧Rel N σ h' w'∧Below N w w':=by
 unfold vstore at hs
 split at hs
 ·cases ha
  rw [Option.bind_eq_some_iff] at hs
  obtain ⟨i,hi,hs⟩:=hs
  obtain ⟨d,inf,T⟩:=hE.is hi
  cases hc:Nat.beq v.cells.length i.size with
  | false=>rw [hc] at hs; cases hs
  | true=>
   rw [hc] at hs
   simp only [cond_true] at hs
   have hlen:=Nat.eq_of_beq_eq_true hc
   have hr:=hv.cells
   obtain ⟨w',h1,h2,h3⟩:=wr_sound (P:=P) R ‹_› hr hs
   refine ⟨w',?_,h2,h3⟩
   have hsz:¬ vx.cells.size ≠ inf.size:=by
    have:=hr.length
    rw [hlen,T.size] at this
    simpa using this.symm
   simp only [Instr.storeAt,Instr.sureAddr,storeVar,Sem.run_bind,Sem.run_pure,Result.andThen_ok,zY T.info]
   rw [if_neg hsz]
   exact h1
 ·cases hs
theorem elems_sound (R:Rel N σ h w) {sz n:Nat} {y:V} {yx:Value} {ws:List V} (he:zgQ h sz y=some (ws,n)) (hy:Rep σ y yx) (hb:(∃ s,y=.str s)→sz=1):
  ∃ ys,RepL σ ws ys∧(Builtin.firstCells sz n yx).run P w=.ok ys.toArray w∧(Builtin.lenOf yx).run P w=.ok n w:=by
 cases hy <;> simp only [zgQ] at he <;> (try (cases he; done))
 case str s hs=>
  simp only [Option.some.injEq,Prod.mk.injEq] at he
  obtain ⟨rfl,rfl⟩:=he
  refine ⟨s.map fun (b:Nat)=>Value.int .u8 (b:Int),?_,?_,by simp [Builtin.lenOf,zbf]⟩
  ·clear hb
   induction s with
   | nil=>exact .nil
   | cons b s ih=>exact .cons _ _ _ _ (.int _ _) (ih (fun z hz=>hs z (by simp [hz])))
  ·have:((zR s).extract 0 s.length).data.map (fun b=>Value.int .u8 (b.toNat:Int))=(s.map fun (b:Nat)=>Value.int .u8 (b:Int)).toArray:=by
    have e:(zR s).extract 0 s.length=zR s:=by
     rw [← zbf s]; simp
    rw [e]
    apply Array.toList_inj.1
    simp only [zR,Array.toList_map,List.map_map]
    apply List.map_congr_left
    intro b hb
    simp [zbB (hs b hb)]
   simp only [Builtin.firstCells,Sem.run_pure,this]
 case nils=>
  simp only [Option.some.injEq,Prod.mk.injEq] at he
  obtain ⟨rfl,rfl⟩:=he
  exact ⟨[],.nil,rfl,rfl⟩
 case emp aa c=>
  simp only [Option.some.injEq,Prod.mk.injEq] at he
  obtain ⟨rfl,rfl⟩:=he
  refine ⟨[],.nil,?_,rfl⟩
  cases aa with
  | none=>rfl
  | some a=>show (loadCells a (0 * sz)).run P w=_; rw [Nat.zero_mul]; rfl
 case sl B off len cap b m hσ=>
  simp only [Option.bind_eq_some_iff,Option.some.injEq,Prod.mk.injEq] at he
  obtain ⟨vs,h1,l,h2,rfl,rfl⟩:=he
  obtain ⟨xs,h3,h4⟩:=(R.at_ hσ h1).cells (P:=P) h2
  exact ⟨xs,h3,h4,rfl⟩
 case slo B off len lo z b m c hσ _ _ _=>
  simp only [Option.bind_eq_some_iff,Option.some.injEq,Prod.mk.injEq] at he
  obtain ⟨vs,h1,l,h2,rfl,rfl⟩:=he
  obtain ⟨xs,h3,h4⟩:=(R.at_ hσ h1).cells (P:=P) h2
  exact ⟨xs,h3,h4,rfl⟩
theorem elemsW_sound (hE:EnvOK P E) (R:Rel N σ h w) {sz n:Nat} {y:V} {yx:Value} {ws:List V} (he:elemsW E h sz y=some (ws,n)) (hy:Rep σ y yx) (hb:zk7 y=true→sz=1):
  ∃ ys,RepL σ ws ys∧(Builtin.firstCells sz n yx).run P w=.ok ys.toArray w∧(Builtin.lenOf yx).run P w=.ok n w:=by
 unfold elemsW at he
 split at he
 ·rename_i j
  simp only [Option.bind_eq_some_iff,Option.some.injEq,Prod.mk.injEq] at he
  obtain ⟨r,hr,l,hl,rfl,rfl⟩:=he
  obtain rfl:r=.tup l:=by
   cases r <;> first | (cases hl; done) | skip
   cases hl
   rfl
  obtain ⟨s,e1,e2⟩:=hE.so.bytes _ _ hr
  have hlen:l.length=s.length:=by
   have:=congrArg List.length e2
   simpa [ziC] using this
  have hy2:=den_rep hy
  rw [e1] at hy2
  obtain ⟨ys,h1,h2,h3⟩:=elems_sound (P:=P) R (sz:=sz) (n:=s.length) (ws:=ziC s) rfl hy2 (fun _=>hb rfl)
  rw [hlen]
  exact ⟨ys,repL_den (by rw [e2]; exact h1),h2,h3⟩
 ·exact elems_sound R he hy (fun ⟨s,e⟩=>hb (by rw [e]; rfl))
theorem Rel.kill (R:Rel N σ h w) (B:Nat):Rel N σ (h.set B .dead) w:=by
 refine ⟨fun C c m hC=>?_,fun C D c m q hC hD=>?_,fun C c m hC hlt=>?_,R.base,R.tab⟩
 ·obtain ⟨h1,h2,k2,h3,h4⟩:=R.has C c m hC
  rw [Hp.get_set]
  split
  ·exact ⟨h1,h2,.dead,rfl,fun _ _=>trivial⟩
  ·exact ⟨h1,h2,k2,h3,h4⟩
 ·rw [Hp.get_set,Hp.get_set]
  rcases R.inj C D c m q hC hD with h1 | h1 | h1
  ·exact .inl h1
  ·right; left; split
   ·rfl
   ·exact h1
  ·right; right; split
   ·rfl
   ·exact h1
 ·rw [Hp.get_set]
  split
  ·exact .inr rfl
  ·exact R.old C c m hC hlt
theorem growBy_le (n:Nat):∀ r c,Builtin.growBy n r c≤2 ^ r * (c+192)
 | 0,c=>by simp [Builtin.growBy]
 | r+1,c=>by
  rw [Builtin.growBy]
  have hp:0 < 2 ^ r:=Nat.pow_pos (by omega)
  split
  ·have:c+192≤2 ^ (r+1) * (c+192):=Nat.le_mul_of_pos_left _ (Nat.pow_pos (by omega))
   omega
  ·refine Nat.le_trans (growBy_le n r _) ?_
   rw [Nat.pow_succ,Nat.mul_assoc]
   exact Nat.mul_le_mul_left _ (by omega)
theorem next_le {need cap:Nat} (h:cap < need) (h2:need≤1048576):Builtin.nextslicecap need cap≤33554432:=by
 unfold Builtin.nextslicecap
 split
 ·omega
 ·split
  ·omega
  ·have:=growBy_le need 4 cap
   omega
theorem zeroCells_len (z:Array Value) (n:Nat):(Builtin.zeroCells z n).size=n * z.size:=by simp [Builtin.zeroCells]
theorem grow_run {e:TypeId} {j:TI} {d:TypeDesc} {inf:TypeInfo} (T:TyIs P e j d inf) {ts:Array TypeId} {t u:TypeId} {du:TypeDesc} {ty:TypeId} {yx:Value} {base:Option Addr} {len cap n:Nat} {l ws:List V} {xs ys:List Value}
  (h0:ts[0]? = some t) (h1:ts[1]? = some u) (ht:P.underlying t=some (.slice e)) (hu:P.underlying u=some du) (hdu:∀ k,du ≠ .int k) (hok:ziI j (len+n)=true) (hlt:¬ len+n≤cap)
  (hl:RepL σ l xs) (hw:RepL σ ws ys) (hlen:l.length=len * j.size) (hwl:ws.length=n * j.size) (ho:(Builtin.firstCells j.size len (.slice base len cap)).run P { w with drawn:=w.drawn+1 } = .ok xs.toArray { w with drawn:=w.drawn+1 }) (hn:(Builtin.firstCells j.size n yx).run P { w with drawn:=w.drawn+1 } = .ok ys.toArray { w with drawn:=w.drawn+1 })
  (hno:(Builtin.lenOf yx).run P w=.ok n w):∃ x w',(Builtin.append_ ts ty #[.slice base len cap,yx]).run P w=.ok x w'∧Made σ w (.slo (len+n) j.size) (.cells (l++ws) e false) x w':=by
 simp only [ziI,Bool.and_eq_true,ble_d,zff,decide_eq_true_iff,Option.isSome_iff_exists] at hok
 obtain ⟨⟨⟨c1,c2⟩,c3⟩,z,hz⟩:=hok
 rw [hz] at c3
 simp only [Option.getD_some] at c3
 obtain ⟨zv,z1,z2⟩:=zhZ (σ:=σ) T hz
 have hzs:zv.cells.size=j.size:=by have:=z2.length; rw [c3] at this; simpa using this.symm
 let wd:World:={ w with drawn:=w.drawn+1 }
 generalize hcap:Question.cut (.appendCap (len+n) cap e) (w.tape w.drawn (.appendCap (len+n) cap e))=nc
 have hle:len+n≤nc:=by rw [← hcap]; simp [Question.cut]
 generalize harr:xs.toArray++ys.toArray++Builtin.zeroCells zv.cells (nc - (len+n))=arr
 have hx1:=hl.length
 have hy1:=hw.length
 have hsz:arr.size=nc * j.size:=by
  rw [← harr]
  simp only [Array.size_append,List.size_toArray,zeroCells_len,← hx1,← hy1,hlen,hwl,hzs]
  rw [← Nat.add_mul,← Nat.add_mul]
  congr 1
  omega
 refine ⟨.slice (some ⟨w.heap.size,0,none⟩) (len+n) nc,wd.alloc (.cells arr e),?_,w.heap.size,nc * j.size,Nat.le_refl _,by simp [wd],fun τ B hB=>?_,fun o ho=>?_,?_⟩
 ·have g1:((du matches .int _:Bool))=false:=by cases du <;> first | rfl | exact absurd rfl (hdu _)
  have g2:¬ (((len+n:Nat):Int) > IntKind.i64.max∧(false=true∨inf.bytes=0)):=fun ⟨h,_⟩=>by
   have hm:IntKind.i64.max=9223372036854775807:=by decide
   rw [hm] at h; omega
  have g3:¬ Builtin.nextslicecap (len+n) cap * inf.bytes > 2 ^ 48:=by
   have:=next_le (by omega:cap < len+n) c1
   have h5:Builtin.nextslicecap (len+n) cap * inf.bytes≤33554432 * 65536:=Nat.mul_le_mul this (by rw [← T.bytes]; exact c2)
   omega
  unfold Builtin.append_
  simp only [h0,h1,List.getElem?_toArray,List.getElem?_cons_zero,List.getElem?_cons_succ]
  rw [Sem.run_bind,run_underlying ht,Result.andThen_ok]
  simp only [Sem.run_bind,zY T.info,Result.andThen_ok,run_underlying hu,Sem.run_pure]
  rw [← T.size]
  have hz2:∀ w2:World,(zeroValue e).run P w2=.ok zv w2:=fun w2=>zbD T.info z1
  have hi2:∀ w2:World,(typeInfo e).run P w2=.ok inf w2:=fun w2=>zbJ T.info
  simp only [Bool.false_eq_true,if_false,Sem.run_bind,hno,Result.andThen_ok,hlt,hi2,false_or,Bool.not_false,if_true]
  rw [if_neg (by simpa using g2),Sem.run_bind,hi2,Result.andThen_ok,if_neg g3]
  simp only [Sem.run_bind,run_choose,Question.forced,Bool.false_eq_true,if_false,Result.andThen_ok,hcap,hi2,run_askRoom,ho,hn,hz2,newRow,run_newObj,Sem.run_pure,harr]
  rfl
 ·exact .slo _ _ _ _ _ _ _ _ hB hle (Nat.le_refl _) (by omega)
 ·rw [(MapKept.heap_alloc wd (.cells arr e)).1] at ho
  cases ho
  refine ⟨xs++ys,(Builtin.zeroCells zv.cells (nc - (len+n))).toList,(0,0),?_,hl.append hw,?_,fun i _=>by simp⟩
  ·rw [← harr]
   congr 1
   apply Array.toList_inj.1
   simp
  ·rw [← hsz,← harr]
   simp
   omega
 ·exact (Below.refl w.heap.size w).trans ⟨rfl,rfl,rfl,by simp [wd],fun k hk=>(MapKept.heap_alloc wd (.cells arr e)).2 k hk⟩
theorem Rel.drewn (R:Rel N σ h w):Rel N σ h { w with drawn:=w.drawn+1 }:=R.world ⟨rfl,rfl,rfl,Nat.le_refl _,fun _ _=>rfl⟩
theorem fit_run {e:TypeId} {j:TI} {d:TypeDesc} {inf:TypeInfo} (T:TyIs P e j d inf) {ts:Array TypeId} {t u:TypeId} {du:TypeDesc} {ty:TypeId} {yx:Value} {b off len cap n:Nat} {ys:List Value}
  (h0:ts[0]? = some t) (h1:ts[1]? = some u) (ht:P.underlying t=some (.slice e)) (hu:P.underlying u=some du) (hdu:∀ k,du ≠ .int k) (hlt:len+n≤cap)
  (hn:(Builtin.firstCells j.size n yx).run P w=.ok ys.toArray w) (hno:(Builtin.lenOf yx).run P w=.ok n w) (hst:(storeCells ⟨b,off+len * j.size,none⟩ ys).run P w=.ok () w'):
  (Builtin.append_ ts ty #[.slice (some ⟨b,off,none⟩) len cap,yx]).run P w=.ok (.slice (some ⟨b,off,none⟩) (len+n) cap) w':=by
 unfold Builtin.append_
 simp only [h0,h1,List.getElem?_toArray,List.getElem?_cons_zero,List.getElem?_cons_succ]
 rw [Sem.run_bind,run_underlying ht,Result.andThen_ok]
 simp only [Sem.run_bind,zY T.info,Result.andThen_ok,run_underlying hu,Sem.run_pure]
 have g1:∀ (A B:Sem Value),(match du with | .int _=>A | _=>B)=B:=fun A B=>by cases du <;> first | rfl | exact absurd rfl (hdu _)
 rw [← T.size]
 simp only [Bool.false_eq_true,if_false,Sem.run_bind,Sem.run_pure,hno,Result.andThen_ok,hlt,if_true,Bool.not_false,hn,zcZ,hst]
theorem nil_run {e:TypeId} {j:TI} {d:TypeDesc} {inf:TypeInfo} (T:TyIs P e j d inf) {ts:Array TypeId} {t u:TypeId} {du:TypeDesc} {ty:TypeId} {yx:Value} {ys:List Value}
  (h0:ts[0]? = some t) (h1:ts[1]? = some u) (ht:P.underlying t=some (.slice e)) (hu:P.underlying u=some du) (hdu:∀ k,du ≠ .int k)
  (hn:(Builtin.firstCells j.size 0 yx).run P w=.ok ys.toArray w) (hno:(Builtin.lenOf yx).run P w=.ok 0 w):
  (Builtin.append_ ts ty #[.slice none 0 0,yx]).run P w=.ok (.slice none 0 0) w:=by
 unfold Builtin.append_
 simp only [h0,h1,List.getElem?_toArray,List.getElem?_cons_zero,List.getElem?_cons_succ]
 rw [Sem.run_bind,run_underlying ht,Result.andThen_ok]
 simp only [Sem.run_bind,zY T.info,Result.andThen_ok,run_underlying hu,Sem.run_pure]
 rw [← T.size]
 simp only [Bool.false_eq_true,if_false,Sem.run_bind,Sem.run_pure,hno,Result.andThen_ok,Nat.le_refl,Nat.add_zero,if_true,Bool.not_false,hn]
theorem putAll_at:∀ (ys:List Value) (off k:Nat) (xs zs:List Value),xs.length=off+k→ys.length≤zs.length→zfv off ys k (xs++zs)=xs++ys++zs.drop ys.length
 | [],_,_,_,_,_,_=>by simp [zfv]
 | y::ys,off,k,xs,[],_,h=>by simp at h
 | y::ys,off,k,xs,z::zs,h1,h2=>by
  rw [zfv]
  have e:(xs++z::zs).set (off+k) y=(xs++[y])++zs:=by
   rw [List.set_append_right _ _ (by omega),h1]
   simp
  rw [e,putAll_at ys off (k+1) (xs++[y]) zs (by simp; omega) (by simpa using h2)]
  simp
theorem Rel.move (R:Rel N σ h w) {B b m:Nat} (e:σ B=some (b,m)) {k k':Blk} (hk:h.t.get B=some k) (hd:k ≠ .dead) (hro:∀ vs el,k ≠ .cells vs el true) (hc:Chg w w' b)
  (hb:∀ o,w'.heap[b]? = some o→RepB σ m k' o):Rel N (σ.put h.n (b,m)) ((h.new k').set B .dead) w'∧N≤b:=by
 have hN:N≤b:=by
  rcases Nat.lt_or_ge b N with h1 | h1
  ·rcases R.old B b m e h1 with ⟨vs,el,h2⟩ | h2
   ·rw [hk] at h2; injection h2 with h2; exact absurd h2 (hro vs el)
   ·rw [hk] at h2; injection h2 with h2; exact absurd h2 hd
  ·exact h1
 have hle:Mp.le σ (σ.put h.n (b,m)):=Mp.le_put R.free
 have hBn:B < h.n:=(R.has B b m e).1
 have key:∀ C c q,(σ.put h.n (b,m)) C=some (c,q)→(C=h.n∧c=b∧q=m)∨(C ≠ h.n∧σ C=some (c,q)):=fun C c q hC=>by
  unfold Mp.put at hC
  split at hC
  ·rename_i e; cases hC; exact .inl ⟨e,rfl,rfl⟩
  ·rename_i e; exact .inr ⟨e,hC⟩
 have hg:∀ C,((h.new k').set B .dead).t.get C=if C=B then some .dead else if C=h.n then some k' else h.t.get C:=fun C=>by rw [Hp.get_set,Hp.get_new]
 have other:∀ C c q,σ C=some (c,q)→C ≠ B→c ≠ b∨h.t.get C=some .dead:=fun C c q hC hne=>by
  by_cases hcb:c=b
  ·subst hcb
   rcases R.inj C B c q m hC e with h5 | h5 | h5
   ·exact absurd h5 hne
   ·exact .inr h5
   ·rw [hk] at h5; injection h5 with h5; exact absurd h5 hd
  ·exact .inl hcb
 refine ⟨⟨fun C c q hC=>?_,fun C D c q q' hC hD=>?_,fun C c q hC hlt=>?_,by rw [hc.size]; exact R.base,fun p hp=>⟨(R.tab p hp).1,(hc.other _ (by have:=(R.tab p hp).1; omega)).trans (R.tab p hp).2⟩⟩,hN⟩
 ·rw [hg]
  rcases key C c q hC with ⟨rfl,rfl,rfl⟩ | ⟨h1,h2⟩
  ·refine ⟨Nat.lt_succ_self _,by rw [hc.size]; exact (R.has B c q e).2.1,k',?_,fun o ho=>(hb o ho).mono hle⟩
   rw [if_neg (by omega),if_pos rfl]
  ·obtain ⟨h3,h4,k2,h5,h6⟩:=R.has C c q h2
   refine ⟨Nat.lt_succ_of_lt h3,by rw [hc.size]; exact h4,?_⟩
   by_cases hCB:C=B
   ·exact ⟨.dead,by rw [if_pos hCB],fun _ _=>trivial⟩
   ·refine ⟨k2,by rw [if_neg hCB,if_neg h1]; exact h5,fun o ho=>?_⟩
    rcases other C c q h2 hCB with h7 | h7
    ·rw [hc.other c h7] at ho; exact (h6 o ho).mono hle
    ·rw [h5] at h7; cases h7; trivial
 ·rw [hg,hg]
  rcases key C c q hC with ⟨rfl,rfl,rfl⟩ | ⟨h1,h2⟩ <;> rcases key D c q' hD with ⟨e1,e2,e3⟩ | ⟨h3,h4⟩
  ·exact .inl e1.symm
  ·right; right
   by_cases hDB:D=B
   ·rw [if_pos hDB]
   ·rcases other D c q' h4 hDB with h7 | h7
    ·exact absurd rfl h7
    ·rw [if_neg hDB,if_neg h3]; exact h7
  ·subst e2
   right; left
   by_cases hCB:C=B
   ·rw [if_pos hCB]
   ·rcases other C c q h2 hCB with h7 | h7
    ·exact absurd rfl h7
    ·rw [if_neg hCB,if_neg h1]; exact h7
  ·rcases R.inj C D c q q' h2 h4 with h5 | h5 | h5
   ·exact .inl h5
   ·right; left; split
    ·rfl
    ·exact h5
   ·right; right; split
    ·rfl
    ·exact h5
 ·rw [hg]
  rcases key C c q hC with ⟨rfl,rfl,rfl⟩ | ⟨h1,h2⟩
  ·omega
  ·split
   ·exact .inr rfl
   ·exact R.old C c q h2 hlt
theorem elems_len {sz n:Nat} {y:V} {ws:List V} (he:zgQ h sz y=some (ws,n)) (hb:zk7 y=true→sz=1):ws.length=n * sz:=by
 cases y <;> simp only [zgQ] at he <;> (try (cases he; done))
 case str s=>
  simp only [Option.some.injEq,Prod.mk.injEq] at he
  obtain ⟨rfl,rfl⟩:=he
  rw [hb rfl]
  simp [ziC]
 case nils=>
  simp only [Option.some.injEq,Prod.mk.injEq] at he
  obtain ⟨rfl,rfl⟩:=he
  simp
 case emp=>
  simp only [Option.some.injEq,Prod.mk.injEq] at he
  obtain ⟨rfl,rfl⟩:=he
  simp
 case sl=>
  simp only [Option.bind_eq_some_iff,Option.some.injEq,Prod.mk.injEq] at he
  obtain ⟨vs,_,l,h2,rfl,rfl⟩:=he
  exact (zd4 h2).2.1
 case slo=>
  simp only [Option.bind_eq_some_iff,Option.some.injEq,Prod.mk.injEq] at he
  obtain ⟨vs,_,l,h2,rfl,rfl⟩:=he
  exact (zd4 h2).2.1
theorem elemsW_len {sz n:Nat} {y:V} {ws:List V} (he:elemsW E h sz y=some (ws,n)) (hb:zk7 y=true→sz=1):ws.length=n * sz:=by
 unfold elemsW at he
 split at he
 ·simp only [Option.bind_eq_some_iff,Option.some.injEq,Prod.mk.injEq] at he
  obtain ⟨r,_,l,_,rfl,rfl⟩:=he
  rw [hb rfl,Nat.mul_one]
 ·exact elems_len he hb
theorem zgrow_run {e:TypeId} {j:TI} {d:TypeDesc} {inf:TypeInfo} (T:TyIs P e j d inf) {ts:Array TypeId} {t u:TypeId} {k:IntKind} {ty:TypeId} {base:Option Addr} {len cap n:Nat} {l:List V} {xs:List Value}
  (h0:ts[0]? = some t) (h1:ts[1]? = some u) (ht:P.underlying t=some (.slice e)) (hu:P.underlying u=some (.int k)) (hok:ziI j (len+n)=true) (hlt:¬ len+n≤cap)
  (hl:RepL σ l xs) (hlen:l.length=len * j.size) (ho:(Builtin.firstCells j.size len (.slice base len cap)).run P { w with drawn:=w.drawn+1 } = .ok xs.toArray { w with drawn:=w.drawn+1 }):
  ∃ x w',(Builtin.append_ ts ty #[.slice base len cap,.int .i64 n]).run P w=.ok x w'∧Made σ w (.slo (len+n) j.size) (.cells (l++rep n (j.zero.getD [])) e false) x w':=by
 simp only [ziI,Bool.and_eq_true,ble_d,zff,decide_eq_true_iff,Option.isSome_iff_exists] at hok
 obtain ⟨⟨⟨c1,c2⟩,c3⟩,z,hz⟩:=hok
 rw [hz] at c3 ⊢
 simp only [Option.getD_some] at c3 ⊢
 obtain ⟨zv,z1,z2⟩:=zhZ (σ:=σ) T hz
 have hzs:zv.cells.size=j.size:=by have:=z2.length; rw [c3] at this; simpa using this.symm
 let wd:World:={ w with drawn:=w.drawn+1 }
 generalize hcap:Question.cut (.appendCap (len+n) cap e) (w.tape w.drawn (.appendCap (len+n) cap e))=nc
 have hle:len+n≤nc:=by rw [← hcap]; simp [Question.cut]
 have hw:=rep_rep z2 n
 have hrr:(Builtin.zeroCells zv.cells n)=(repX n zv.cells.toList).toArray:=range_rep zv.cells n
 have hwl:(repX n zv.cells.toList).length=n * j.size:=by rw [zey]; simp [hzs]
 have happ:(if n * j.size=0 then (#[]:Array Value) else Builtin.zeroCells zv.cells n)=(repX n zv.cells.toList).toArray:=by
  split
  ·rename_i h; rw [h] at hwl; rw [List.length_eq_zero_iff.1 hwl]
  ·exact hrr
 generalize repX n zv.cells.toList=ys at hw hrr hwl happ
 generalize harr:xs.toArray++ys.toArray++Builtin.zeroCells zv.cells (nc - (len+n))=arr
 have hx1:=hl.length
 have hsz:arr.size=nc * j.size:=by
  rw [← harr]
  simp only [Array.size_append,List.size_toArray,zeroCells_len,← hx1,hlen,hwl,hzs]
  rw [← Nat.add_mul,← Nat.add_mul]
  congr 1
  omega
 refine ⟨.slice (some ⟨w.heap.size,0,none⟩) (len+n) nc,wd.alloc (.cells arr e),?_,w.heap.size,nc * j.size,Nat.le_refl _,by simp [wd],fun τ B hB=>?_,fun o ho=>?_,?_⟩
 ·have hm:IntKind.i64.max=9223372036854775807:=by decide
  have g2:¬ (((len+n:Nat):Int) > IntKind.i64.max):=fun h=>by rw [hm] at h; omega
  have g3:¬ Builtin.nextslicecap (len+n) cap * inf.bytes > 2 ^ 48:=by
   have:=next_le (by omega:cap < len+n) c1
   have h5:Builtin.nextslicecap (len+n) cap * inf.bytes≤33554432 * 65536:=Nat.mul_le_mul this (by rw [← T.bytes]; exact c2)
   omega
  have g4:IntKind.i64.wrap (n:Int)=n:=Go.IntWalk.i64_in _ (by omega)
  have g5:¬ ((n:Int) < 0):=by omega
  have g6:¬ ((n:Int) * (inf.bytes:Int) > 2 ^ 48):=by
   have h5:n * inf.bytes≤1048576 * 65536:=Nat.mul_le_mul (by omega) (by rw [← T.bytes]; exact c2)
   have h6:((n * inf.bytes:Nat):Int)≤((1048576 * 65536:Nat):Int):=Int.ofNat_le.2 h5
   rw [Int.natCast_mul] at h6
   omega
  unfold Builtin.append_
  simp only [h0,h1,List.getElem?_toArray,List.getElem?_cons_zero,List.getElem?_cons_succ]
  rw [Sem.run_bind,run_underlying ht,Result.andThen_ok]
  simp only [Sem.run_bind,zY T.info,Result.andThen_ok,run_underlying hu,Sem.run_pure]
  rw [← T.size]
  have hz2:∀ w2:World,(zeroValue e).run P w2=.ok zv w2:=fun w2=>zbD T.info z1
  have hi2:∀ w2:World,(typeInfo e).run P w2=.ok inf w2:=fun w2=>zbJ T.info
  simp only [if_true,asInt,asIntOf,Sem.run_pure,Sem.run_bind,Result.andThen_ok,g4,g5,if_false,hi2,g6,Int.toNat_natCast,hlt,Bool.not_true,Bool.false_eq_true,true_or,and_true]
  rw [if_neg g2,Sem.run_bind,hi2,Result.andThen_ok,if_neg g3]
  have hap2:∀ w2:World,(if n * j.size=0 then (pure #[]:Sem (Array Value)) else do let z ← zeroValue e; pure (Builtin.zeroCells z.cells n)).run P w2=.ok ys.toArray w2:=fun w2=>by
   rw [← happ]
   split
   ·rw [Sem.run_pure]
   ·rw [Sem.run_bind,hz2,Result.andThen_ok,Sem.run_pure]
  simp only [Sem.run_bind,run_choose,Question.forced,Bool.false_eq_true,if_false,Result.andThen_ok,hcap,hi2,run_askRoom,ho,hap2,hz2,newRow,run_newObj,Sem.run_pure,harr]
  rfl
 ·exact .slo _ _ _ _ _ _ _ _ hB hle (Nat.le_refl _) (by omega)
 ·rw [(MapKept.heap_alloc wd (.cells arr e)).1] at ho
  cases ho
  refine ⟨xs++ys,(Builtin.zeroCells zv.cells (nc - (len+n))).toList,(0,0),?_,hl.append hw,?_,fun i _=>by simp⟩
  ·rw [← harr]
   congr 1
   apply Array.toList_inj.1
   simp
  ·rw [← hsz,← harr]
   simp
   omega
 ·exact (Below.refl w.heap.size w).trans ⟨rfl,rfl,rfl,by simp [wd],fun k hk=>(MapKept.heap_alloc wd (.cells arr e)).2 k hk⟩
theorem zfit_run {e:TypeId} {j:TI} {d:TypeDesc} {inf:TypeInfo} (T:TyIs P e j d inf) {ts:Array TypeId} {t u:TypeId} {k:IntKind} {ty:TypeId} {b off len cap n:Nat} {zv:Value}
  (h0:ts[0]? = some t) (h1:ts[1]? = some u) (ht:P.underlying t=some (.slice e)) (hu:P.underlying u=some (.int k)) (hok:ziI j (len+n)=true) (hlt:len+n≤cap)
  (z1:inf.zero=some zv) (hzs:zv.cells.size=j.size) (hst:(storeCells ⟨b,off+len * j.size,none⟩ (repX n zv.cells.toList)).run P w=.ok () w'):
  (Builtin.append_ ts ty #[.slice (some ⟨b,off,none⟩) len cap,.int .i64 n]).run P w=.ok (.slice (some ⟨b,off,none⟩) (len+n) cap) w':=by
 simp only [ziI,Bool.and_eq_true,ble_d,zff,decide_eq_true_iff,Option.isSome_iff_exists] at hok
 obtain ⟨⟨⟨c1,c2⟩,c3⟩,z,hz⟩:=hok
 have hrr:(Builtin.zeroCells zv.cells n)=(repX n zv.cells.toList).toArray:=range_rep zv.cells n
 have hwl:(repX n zv.cells.toList).length=n * j.size:=by rw [zey]; simp [hzs]
 have happ:(if n * j.size=0 then (#[]:Array Value) else Builtin.zeroCells zv.cells n)=(repX n zv.cells.toList).toArray:=by
  split
  ·rename_i h; rw [h] at hwl; rw [List.length_eq_zero_iff.1 hwl]
  ·exact hrr
 generalize repX n zv.cells.toList=ys at hrr hwl happ hst
 have g4:IntKind.i64.wrap (n:Int)=n:=Go.IntWalk.i64_in _ (by omega)
 have g5:¬ ((n:Int) < 0):=by omega
 have g6:¬ ((n:Int) * (inf.bytes:Int) > 2 ^ 48):=by
  have h5:n * inf.bytes≤1048576 * 65536:=Nat.mul_le_mul (by omega) (by rw [← T.bytes]; exact c2)
  have h6:((n * inf.bytes:Nat):Int)≤((1048576 * 65536:Nat):Int):=Int.ofNat_le.2 h5
  rw [Int.natCast_mul] at h6
  omega
 unfold Builtin.append_
 simp only [h0,h1,List.getElem?_toArray,List.getElem?_cons_zero,List.getElem?_cons_succ]
 rw [Sem.run_bind,run_underlying ht,Result.andThen_ok]
 simp only [Sem.run_bind,zY T.info,Result.andThen_ok,run_underlying hu,Sem.run_pure]
 rw [← T.size]
 have hz2:∀ w2:World,(zeroValue e).run P w2=.ok zv w2:=fun w2=>zbD T.info z1
 have hi2:∀ w2:World,(typeInfo e).run P w2=.ok inf w2:=fun w2=>zbJ T.info
 simp only [if_true,asInt,asIntOf,Sem.run_pure,Sem.run_bind,Result.andThen_ok,g4,g5,if_false,hi2,g6,Int.toNat_natCast,hlt,Bool.not_true,Bool.false_eq_true]
 have hap2:∀ w2:World,(if n * j.size=0 then (pure #[]:Sem (Array Value)) else do let z ← zeroValue e; pure (Builtin.zeroCells z.cells n)).run P w2=.ok ys.toArray w2:=fun w2=>by
  rw [← happ]
  split
  ·rw [Sem.run_pure]
  ·rw [Sem.run_bind,hz2,Result.andThen_ok,Sem.run_pure]
 simp only [hap2,Result.andThen_ok,zcZ,hst]
theorem append_sound (hE:EnvOK P E) (R:Rel N σ h w) {ts:Array TypeId} {ty:TypeId} {x y v:V} {xx yx:Value} {h':Hp} (hc:ziZ E h ts x y=some (v,h')) (hx:Rep σ x xx) (hy:Rep σ y yx):
  ∃ r w',(Builtin.append_ ts ty #[xx,yx]).run P w=.ok r w'∧Does N σ h w v h' r w':=by
 simp only [ziZ,Option.bind_eq_some_iff] at hc
 obtain ⟨t,h0,u,h1,iu,hiu,i,hi,hc⟩:=hc
 obtain ⟨du,infu,Tu⟩:=hE.is hiu
 obtain ⟨d,inf,T⟩:=hE.is hi
 split at hc
 ·rename_i k e hk hk1
  rw [T.k] at hk1
  obtain rfl:=zcX hk1.symm
  rw [Tu.k] at hk
  obtain rfl:=zil hk.symm
  rw [Option.bind_eq_some_iff] at hc
  obtain ⟨j,hj,hc⟩:=hc
  obtain ⟨d2,inf2,T2⟩:=hE.is hj
  split at hc
  ·rename_i n
   cases hy
   unfold zappTo at hc
   split at hc
   ·rename_i B off len cap
    cases hx with
    | sl _ _ _ _ b m hσ=>
     cases hok:ziI j (len+n) with
     | false=>rw [hok] at hc; cases hc
     | true=>
      rw [hok] at hc
      simp only [cond_true] at hc
      cases hle:Nat.ble (len+n) cap with
      | true=>
       rw [hle] at hc
       simp only [cond_true,Option.bind_eq_some_iff,Option.some.injEq,Prod.mk.injEq] at hc
       obtain ⟨h2,hwr,rfl,rfl⟩:=hc
       have hok2:=hok
       simp only [ziI,Bool.and_eq_true,ble_d,zff,decide_eq_true_iff,Option.isSome_iff_exists] at hok2
       obtain ⟨⟨⟨c1,c2⟩,c3⟩,z,hz⟩:=hok2
       rw [hz] at c3 hwr
       simp only [Option.getD_some] at c3 hwr
       obtain ⟨zv,z1,z2⟩:=zhZ (σ:=σ) T2 hz
       have hzs:zv.cells.size=j.size:=by have:=z2.length; rw [c3] at this; simpa using this.symm
       obtain ⟨w',h3,h4,h5⟩:=wr_sound (P:=P) R hσ (rep_rep z2 n) hwr
       exact ⟨_,w',zfit_run T2 h0 h1 T.und Tu.und hok (Nat.le_of_ble_eq_true hle) z1 hzs h3,.stay (.sl _ _ _ _ _ _ hσ) h4 h5 (wr_n hwr)⟩
      | false=>
       rw [hle] at hc
       simp only [cond_false,Option.bind_eq_some_iff,Option.some.injEq,Prod.mk.injEq] at hc
       obtain ⟨vs,h2,l,h3,rfl,rfl⟩:=hc
       obtain ⟨xs,h4,h5⟩:=(R.drewn.at_ hσ h2).cells (P:=P) h3
       obtain ⟨r,w',h6,h7⟩:=zgrow_run (σ:=σ) (ty:=ty) (cap:=cap) (base:=some ⟨b,off,none⟩) T2 h0 h1 T.und Tu.und hok (fun h=>by rw [ble_d] at hle; simp at hle; omega) h4 (zd4 h3).2.1 h5
       exact ⟨r,w',h6,R.made h7⟩
   ·cases hc
  ·cases hc
 ·cases hc
 ·rename_i e hk hk1
  rw [T.k] at hk
  obtain rfl:=zcX hk.symm
  have hdu:∀ k,du ≠ .int k:=fun k e=>by subst e; exact hk1 k (by rw [Tu.k]; rfl)
  rw [Option.bind_eq_some_iff] at hc
  obtain ⟨j,hj,hc⟩:=hc
  obtain ⟨d2,inf2,T2⟩:=hE.is hj
  cases hs:(!zk7 y || Nat.beq j.size 1) with
  | false=>rw [hs] at hc; cases hc
  | true=>
   rw [hs] at hc
   simp only [cond_true,Option.bind_eq_some_iff] at hc
   obtain ⟨⟨ws,n⟩,he,hc⟩:=hc
   have hb:zk7 y=true→j.size=1:=fun e=>by
    rw [e] at hs
    simpa [zff] using hs
   have hwl:=elemsW_len he hb
   obtain ⟨ys,hw,hn,hno⟩:=elemsW_sound (P:=P) hE R he hy hb
   obtain ⟨ys',hw',hn',_⟩:=elemsW_sound (P:=P) hE R.drewn he hy hb
   unfold appTo at hc
   cases hx <;> simp only at hc <;> (try (cases hc; done))
   case nils=>
    cases hz:Nat.beq n 0 with
    | true=>
     rw [hz] at hc
     simp only [cond_true,Option.some.injEq,Prod.mk.injEq] at hc
     obtain ⟨rfl,rfl⟩:=hc
     obtain rfl:=Nat.eq_of_beq_eq_true hz
     exact ⟨_,w,nil_run T2 h0 h1 T.und Tu.und hdu hn hno,.stay .nils R (Below.refl _ _) (Nat.le_refl _)⟩
    | false=>
     rw [hz] at hc
     simp only [cond_false] at hc
     cases hok:ziI j n with
     | false=>rw [hok] at hc; cases hc
     | true=>
      rw [hok] at hc
      simp only [cond_true,Option.some.injEq,Prod.mk.injEq] at hc
      obtain ⟨rfl,rfl⟩:=hc
      have hpos:¬ 0+n≤0:=fun h=>by rw [zff] at hz; simp at hz; omega
      obtain ⟨r,w',h2,h3⟩:=grow_run (σ:=σ) (len:=0) (l:=[]) (xs:=[]) (ty:=ty) (base:=none) T2 h0 h1 T.und Tu.und hdu (by rw [Nat.zero_add]; exact hok) hpos .nil hw' (by simp) hwl rfl hn' hno
      rw [Nat.zero_add] at h3
      exact ⟨r,w',h2,R.made h3⟩
   case sl B off len cap b m hσ=>
    cases hle:Nat.ble (len+n) cap with
    | true=>
     rw [hle] at hc
     simp only [cond_true,Option.bind_eq_some_iff,Option.some.injEq,Prod.mk.injEq] at hc
     obtain ⟨h2,hwr,rfl,rfl⟩:=hc
     obtain ⟨w',h3,h4,h5⟩:=wr_sound (P:=P) R hσ hw hwr
     exact ⟨_,w',fit_run T2 h0 h1 T.und Tu.und hdu (Nat.le_of_ble_eq_true hle) hn hno h3,.stay (.sl _ _ _ _ _ _ hσ) h4 h5 (wr_n hwr)⟩
    | false=>
     rw [hle] at hc
     simp only [cond_false] at hc
     cases hok:ziI j (len+n) with
     | false=>rw [hok] at hc; cases hc
     | true=>
      rw [hok] at hc
      simp only [cond_true,Option.bind_eq_some_iff,Option.some.injEq,Prod.mk.injEq] at hc
      obtain ⟨vs,h2,l,h3,rfl,rfl⟩:=hc
      obtain ⟨xs,h4,h5⟩:=(R.drewn.at_ hσ h2).cells (P:=P) h3
      obtain ⟨r,w',h6,h7⟩:=grow_run (σ:=σ) (ty:=ty) (cap:=cap) (base:=some ⟨b,off,none⟩) T2 h0 h1 T.und Tu.und hdu hok (fun h=>by rw [ble_d] at hle; simp at hle; omega) h4 hw' (zd4 h3).2.1 hwl h5 hn' hno
      exact ⟨r,w',h6,R.made h7⟩
   case slo B off len lo sz b m c hσ hlc hll hm=>
    cases hsz:Nat.beq sz j.size with
    | false=>rw [hsz] at hc; cases hc
    | true=>
     rw [hsz] at hc
     simp only [cond_true] at hc
     obtain rfl:=Nat.eq_of_beq_eq_true hsz
     cases hle:Nat.ble (len+n) lo with
     | true=>
      rw [hle] at hc
      simp only [cond_true,Option.bind_eq_some_iff,Option.some.injEq,Prod.mk.injEq] at hc
      obtain ⟨h2,hwr,rfl,rfl⟩:=hc
      obtain ⟨w',h3,h4,h5⟩:=wr_sound (P:=P) R hσ hw hwr
      have hle2:=Nat.le_of_ble_eq_true hle
      exact ⟨_,w',fit_run T2 h0 h1 T.und Tu.und hdu (by omega) hn hno h3,.stay (.slo _ _ _ _ _ _ _ _ hσ hlc hle2 hm) h4 h5 (wr_n hwr)⟩
     | false=>
      rw [hle] at hc
      simp only [cond_false] at hc
      cases hok:(Nat.beq off 0 && ziI j (len+n)) with
      | false=>rw [hok] at hc; cases hc
      | true=>
       rw [hok] at hc
       simp only [cond_true] at hc
       rw [Bool.and_eq_true] at hok
       obtain rfl:=Nat.eq_of_beq_eq_true hok.1
       unfold grow at hc
       split at hc
       ·rename_i vs el hB
        cases hq:(Nat.beq vs.length (len * j.size) && Nat.beq el e && zh ws) with
        | false=>rw [hq] at hc; cases hc
        | true=>
         rw [hq] at hc
         simp only [cond_true,Option.some.injEq,Prod.mk.injEq] at hc
         obtain ⟨rfl,rfl⟩:=hc
         simp only [Bool.and_eq_true,zff,decide_eq_true_iff] at hq
         obtain ⟨⟨hvl,rfl⟩,hcell⟩:=hq
         by_cases hfit:len+n≤c
         ·obtain ⟨el',xs,zs,fz,g1,g2,g3,g4⟩:=R.cells hσ (vs:=vs) (by unfold zas; rw [hB])
          have hx1:=g2.length
          have hy1:=hw.length
          have hcm:(len+n) * j.size≤m:=by
           have:=Nat.mul_le_mul_right j.size hfit
           omega
          have hyz:ys.length≤zs.length:=by
           rw [List.length_append] at g3
           rw [Nat.add_mul] at hcm
           omega
          have hel:el'=el:=by
           obtain ⟨_,hb',k,hk,ho⟩:=R.has B b m hσ
           rw [hB] at hk
           cases hk
           obtain ⟨xs',ys',fz',e1,_⟩:=(ho _ g1).out
           injection e1 with _ e2
          subst hel
          obtain ⟨w',k1,k2,k3⟩:=store_run (P:=P) (b:=b) (off:=len * j.size) (el:=el') (fz:=fz) ys 0 (xs++zs) w g1 (fun i hi=>g4 _ hB i (by rw [← g3]; exact hi)) (.inr (by simp; omega)) (zi6 hcell hw)
          have hput:=putAll_at ys (len * j.size) 0 xs zs (by omega) hyz
          rw [hput] at k2
          obtain ⟨m1,m2⟩:=R.move (k':=.cells (vs++ws) el' false) hσ hB (by simp) (by simp) k3 (fun o ho=>by
           rw [k2] at ho
           cases ho
           refine ⟨xs++ys,zs.drop ys.length,fz,rfl,g2.append hw,?_,fun _=>g4 _ hB⟩
           rw [← g3]
           simp
           omega)
          refine ⟨_,w',fit_run T2 h0 h1 T.und Tu.und hdu hfit hn hno (by simpa using k1),σ.put h.n (b,m),Mp.Ext.put R.free (Nat.le_refl _),Nat.le_succ _,.slo _ _ _ _ _ _ _ _ (Mp.put_same _ _ _) hfit (Nat.le_refl _) hm,m1,k3.below m2⟩
         ·have hsub:sub vs 0 (len * j.size)=some vs:=by
           unfold sub
           simp [List.take_of_length_le (Nat.le_of_eq hvl),hvl]
          obtain ⟨xs,h4,h5⟩:=(R.drewn.at_ hσ (vs:=vs) (by unfold zas; rw [hB])).cells (P:=P) hsub
          obtain ⟨r,w',h6,h7⟩:=grow_run (σ:=σ) (ty:=ty) (base:=some ⟨b,0,none⟩) T2 h0 h1 T.und Tu.und hdu hok.2 hfit h4 hw' hvl hwl h5 hn' hno
          obtain ⟨σ',h8,hn8,h9,h10,h11⟩:=R.made h7
          exact ⟨r,w',h6,σ',h8,hn8,h9,h10.kill B,h11⟩
       ·cases hc
 ·cases hc
theorem sub_take {vs l:List V} {off m n:Nat} (h:sub vs off m=some l) (hn:n≤m):sub vs off n=some (l.take n):=by
 obtain ⟨h1,h2,_⟩:=zd4 h
 subst h1
 unfold sub
 simp only [List.length_take,List.length_drop] at h2
 have e:((vs.drop off).take n).length=n:=by simp only [List.length_take,List.length_drop]; omega
 rw [List.take_take,Nat.min_eq_left hn]
 simp only [e,Nat.beq_refl,cond_true]
theorem elems_take (R:Rel N σ h w) {sz n m:Nat} {y:V} {yx:Value} {ws:List V} (he:zgQ h sz y=some (ws,n)) (hy:Rep σ y yx) (hb:zk7 y=false) (hm:m≤n):
  ∃ ys,RepL σ (ws.take (m * sz)) ys∧(Builtin.firstCells sz m yx).run P w=.ok ys.toArray w∧(Builtin.lenOf yx).run P w=.ok n w:=by
 cases hy <;> simp only [zgQ] at he <;> (try (cases he; done)) <;> (try (cases hb; done))
 case nils=>
  simp only [Option.some.injEq,Prod.mk.injEq] at he
  obtain ⟨rfl,rfl⟩:=he
  exact ⟨[],by simpa using .nil,rfl,rfl⟩
 case emp aa c=>
  simp only [Option.some.injEq,Prod.mk.injEq] at he
  obtain ⟨rfl,rfl⟩:=he
  obtain rfl:m=0:=by omega
  refine ⟨[],by simpa using .nil,?_,rfl⟩
  cases aa with
  | none=>rfl
  | some a=>show (loadCells a (0 * sz)).run P w=_; rw [Nat.zero_mul]; rfl
 case sl B off len cap b k hσ=>
  simp only [Option.bind_eq_some_iff,Option.some.injEq,Prod.mk.injEq] at he
  obtain ⟨vs,h1,l,h2,rfl,rfl⟩:=he
  obtain ⟨xs,h3,h4⟩:=(R.at_ hσ h1).cells (P:=P) (sub_take h2 (Nat.mul_le_mul_right sz hm))
  exact ⟨xs,h3,h4,rfl⟩
 case slo B off len lo z b k c hσ _ _ _=>
  simp only [Option.bind_eq_some_iff,Option.some.injEq,Prod.mk.injEq] at he
  obtain ⟨vs,h1,l,h2,rfl,rfl⟩:=he
  obtain ⟨xs,h3,h4⟩:=(R.at_ hσ h1).cells (P:=P) (sub_take h2 (Nat.mul_le_mul_right sz hm))
  exact ⟨xs,h3,h4,rfl⟩
theorem copy_sound (hE:EnvOK P E) (R:Rel N σ h w) {ts:Array TypeId} {ty:TypeId} {x y v:V} {xx yx:Value} {h':Hp} (hc:vcopy E h ts x y=some (v,h')) (hx:Rep σ x xx) (hy:Rep σ y yx):
  ∃ r w',(Builtin.copy_ ts ty #[xx,yx]).run P w=.ok r w'∧Does N σ h w v h' r w':=by
 simp only [vcopy,Option.bind_eq_some_iff] at hc
 obtain ⟨t,h0,i,hi,hc⟩:=hc
 obtain ⟨d,inf,T⟩:=hE.is hi
 split at hc
 ·rename_i e hk
  rw [T.k] at hk
  obtain rfl:=zcX hk.symm
  rw [Option.bind_eq_some_iff] at hc
  obtain ⟨j,hj,hc⟩:=hc
  obtain ⟨d2,inf2,T2⟩:=hE.is hj
  cases hs:zk7 y with
  | true=>rw [hs] at hc; cases hc
  | false=>
   rw [hs] at hc
   simp only [cond_false,Option.bind_eq_some_iff] at hc
   obtain ⟨⟨ws,n⟩,he,hc⟩:=hc
   simp only at hc
   unfold copyTo at hc
   have go:∀ (B off len cap b m:Nat),σ B=some (b,m)→((zcP h B off (ws.take (min n len * j.size))).bind fun h'=>some (zf0 .i64 (.ofNat (min n len)),h'))=some (v,h') →
     ∃ r w',(Builtin.copy_ ts ty #[.slice (some ⟨b,off,none⟩) len cap,yx]).run P w=.ok r w'∧Does N σ h w v h' r w':=by
    intro B off len cap b m hσ hc
    simp only [Option.bind_eq_some_iff,Option.some.injEq,Prod.mk.injEq] at hc
    obtain ⟨h2,hwr,rfl,rfl⟩:=hc
    obtain ⟨ys,g1,g2,g3⟩:=elems_take (P:=P) R he hy hs (Nat.min_le_left n len)
    obtain ⟨w',g4,g5,g6⟩:=wr_sound (P:=P) R hσ g1 hwr
    refine ⟨.int .i64 (min n len:Nat),w',?_,.stay (by rw [zbn]; exact .int _ _) g5 g6 (wr_n hwr)⟩
    simp only [Builtin.copy_,h0,List.getElem?_toArray,List.getElem?_cons_zero,List.getElem?_cons_succ]
    rw [Sem.run_bind,run_underlying T.und,Result.andThen_ok]
    simp only [Sem.run_bind,zY T2.info,Result.andThen_ok,Sem.run_pure,g3]
    rw [← T2.size]
    have g2':(Builtin.firstCells j.size (Nat.min n len) yx).run P w=.ok ys.toArray w:=g2
    simp only [g2',Result.andThen_ok,g4]
    rfl
   cases hx <;> simp only at hc <;> (try (cases hc; done))
   case nils=>
    simp only [Option.some.injEq,Prod.mk.injEq] at hc
    obtain ⟨rfl,rfl⟩:=hc
    obtain ⟨ys,g1,g2,g3⟩:=elems_take (P:=P) R he hy hs (Nat.zero_le n)
    refine ⟨.int .i64 0,w,?_,.stay (.int _ _) R (Below.refl _ _) (Nat.le_refl _)⟩
    simp only [Builtin.copy_,h0,List.getElem?_toArray,List.getElem?_cons_zero,List.getElem?_cons_succ]
    rw [Sem.run_bind,run_underlying T.und,Result.andThen_ok]
    simp only [Sem.run_bind,zY T2.info,Result.andThen_ok,Sem.run_pure,g3]
    rw [← T2.size]
    have e0:Nat.min n 0=0:=Nat.min_zero n
    simp only [e0,g2,Result.andThen_ok]
    rfl
   case sl B off len cap b m hσ=>exact go B off len cap b m hσ hc
   case slo B off len lo sz b m c hσ _ _ _=>exact go B off len c b m hσ hc
 ·cases hc
end
end Go.Proofs.YtbchdlelmkmagaaGreatDoor.VM
namespace Go.Proofs.YtbchdlelmkmagaaGreatDoor.VM
open Go Go.RowKit
set_option linter.unusedSectionVars false
variable [Sy]
section
variable {P:Program} {E:Env} {σ:Mp} {w w':World} {N:Nat} {h:Hp}
theorem sameBits_plain {k:K} {a:V} {x:Value} (n:Nat) (h:ceq k a a=some true) (hr:Rep σ a x):Instr.sameBits n x x=true:=by
 cases k <;> cases hr <;> simp only [ceq] at h <;> (try (cases h; done))
 ·simp [Instr.sameBits]
 ·simp [Instr.sameBits]
 ·simp [Instr.sameBits]
 ·simp only [Instr.sameBits,beq_toListBytes]
  simp
 ·simp only [Instr.sameBits,beq_toListBytes]
  simp
theorem sameBits_list {n:Nat}:∀ {ks:List K} {aS:List V} {xs:List Value},leq ks aS aS=some true→RepL σ aS xs→((xs.zip xs).all fun (x,y)=>Instr.sameBits n x y)=true
 | _,_,_,_,.nil=>rfl
 | k::ks,a::aS,_,h,.cons _ x _ xs hr hl=>by
  simp only [leq,Option.bind_eq_some_iff] at h
  obtain ⟨c,h1,h2⟩:=h
  cases c with
  | false=>simp at h2
  | true=>
   simp only [cond_true] at h2
   simp only [List.zip_cons_cons,List.all_cons,sameBits_plain n h1 hr,Bool.true_and]
   exact sameBits_list h2 hl
 | [],a::aS,_,h,.cons _ x _ xs hr hl=>by simp [leq] at h
theorem sameBits_key {j:TI} {k:V} {kx:Value} (hk:keyOK j k=true) (hr:Rep σ k kx) (n:Nat):Instr.sameBits (n+1) kx kx=true:=by
 have h0:veqK j k k=some true:=by
  unfold keyOK at hk
  split at hk
  ·assumption
  ·cases hk
 unfold veqK at h0
 split at h0
 ·cases hr; simp [Instr.sameBits]
 ·cases hr
  simp only [Instr.sameBits,beq_toListBytes]
  simp
 ·rename_i hj hs
  cases hs
  cases hr with
  | agg _ xs ha=>
   simp only [aeq,Option.bind_eq_some_iff] at h0
   obtain ⟨ks,_,h0⟩:=h0
   have:=sameBits_list (n:=n) h0 ha
   simp only [Instr.sameBits,BEq.rfl,Bool.true_and]
   exact this
 ·cases h0
theorem stays_run {j:TI} {k:V} {kx:Value} (hk:keyOK j k=true) (hr:Rep σ k kx):(Instr.keyThatStays kx kx).run P w=.ok kx w:=by
 unfold Instr.keyThatStays
 rw [if_pos (sameBits_key hk hr 9999)]
 rfl
theorem Rel.same (R:Rel N σ h w) (hs:w'.heap.size=w.heap.size) (hg:∀ k:Nat,w'.heap[k]? = w.heap[k]?):Rel N σ h w':=by
 refine ⟨fun C c m hC=>?_,R.inj,R.old,by rw [hs]; exact R.base,fun p hp=>⟨(R.tab p hp).1,(hg _).trans (R.tab p hp).2⟩⟩
 obtain ⟨h1,h2,k2,h3,h4⟩:=R.has C c m hC
 exact ⟨h1,by rw [hs]; exact h2,k2,h3,fun o ho=>h4 o (by rw [hg] at ho; exact ho)⟩
theorem RepE.append {σ:Mp}:∀ {l m:List (V × V × Nat)} {y z:List MapEntry},RepE σ l y→RepE σ m z→RepE σ (l++m) (y++z)
 | _,_,_,_,.nil,h=>h
 | _,_,_,_,.cons k v n kx vx l y h1 h2 s,h=>.cons k v n kx vx _ _ h1 h2 (RepE.append s h)
theorem setE_rep {v:V} {vx:Value} (hv:Rep σ v vx) (f:MapEntry→MapEntry):∀ {es es':List (V × V × Nat)} {ms:List MapEntry} {n:Nat},RepE σ es ms→setE es n v=some es'→(∀ e,ms[n]? = some e→f e = { e with val:=vx })→RepE σ es' (ms.modify n f)
 | [],_,_,_,.nil,h,_=>by simp [setE] at h
 | (k,u,b)::r,_,_,0,.cons _ _ _ kx ux _ m h1 h2 hl,h,hf=>by
  simp only [setE,Option.some.injEq] at h
  subst h
  rw [List.modify_zero_cons,hf _ rfl]
  exact .cons _ _ _ _ _ _ _ h1 hv hl
 | (k,u,b)::r,_,_,n+1,.cons _ _ _ kx ux _ m h1 h2 hl,h,hf=>by
  simp only [setE,Option.bind_eq_some_iff,Option.some.injEq] at h
  obtain ⟨l,hl2,rfl⟩:=h
  rw [List.modify_succ_cons]
  exact .cons _ _ _ _ _ _ _ h1 h2 (setE_rep hv f hl hl2 (fun e he=>hf e (by simpa using he)))
theorem mapOf_mp {B:Nat} {x:List (V × V × Nat) × Nat} (hx:zhs h (.mp B)=some x):h.t.get B=some (.map x.1 x.2):=by
 simp only [zhs] at hx
 split at hx
 ·rename_i es c hb; cases hx; exact hb
 ·cases hx
theorem zhx {b:Nat} {o o':Obj} (hb:w.heap[b]? = some o):Chg w { w with heap:=w.heap.setIfInBounds b o' } b∧({ w with heap:=w.heap.setIfInBounds b o' }:World).heap[b]? = some o':=
 ⟨⟨rfl,rfl,rfl,by simp,fun k hk=>by simp [Ne.symm hk]⟩,(MapKept.heap_set hb).1⟩
theorem update_sound (hE:EnvOK P E) (R:Rel N σ h w) {t:TypeId} {m k v:V} {mx kx vx:Value} {h':Hp} (hc:zfL E h t m k v=some h') (hm:Rep σ m mx) (hk:Rep σ k kx) (hv:Rep σ v vx):
  ∃ w',(Instr.mapUpdate t mx kx vx).run P w=.ok () w'∧Rel N σ h' w'∧Below N w w'∧h.n≤h'.n:=by
 simp only [zfL,Option.bind_eq_some_iff] at hc
 obtain ⟨i,hi,hc⟩:=hc
 obtain ⟨d,inf,T⟩:=hE.is hi
 split at hc
 ·rename_i q el B hkk
  rw [T.k] at hkk
  obtain rfl:=kOf_map hkk.symm
  cases hm with
  | mp _ b n hσ=>
   rw [Option.bind_eq_some_iff] at hc
   obtain ⟨j,hj,hc⟩:=hc
   obtain ⟨d2,inf2,T2⟩:=hE.is hj
   cases hok:keyOK j k with
   | false=>rw [hok] at hc; cases hc
   | true=>
    rw [hok] at hc
    simp only [cond_true,Option.bind_eq_some_iff] at hc
    obtain ⟨x,hx,r,hf,hc⟩:=hc
    have hB:=mapOf_mp hx
    obtain ⟨ms,h1,h2⟩:=R.map_ hσ hB
    obtain ⟨o,h3,h4⟩:=zih (w:=w) T2 hk h2 hf
    have hck:(Instr.checkKey false 10000 q kx).run P w=.ok () w:=zgX T2 hok hk false 9998
    have hN:N≤b:=by
     rcases Nat.lt_or_ge b N with h8 | h8
     ·rcases R.old B b n hσ h8 with ⟨vs',el',h9⟩ | h9 <;> rw [hB] at h9 <;> cases h9
     ·exact h8
    cases r with
    | none=>
     obtain rfl:o=none:=h4
     simp only [Option.some.injEq] at hc
     subst hc
     obtain ⟨c1,c2⟩:=zhx (o':=.map (ms++[({ key:=kx,val:=vx,born:=x.2 }:MapEntry)]).toArray (x.2+1)) h1
     refine ⟨_,?_,R.change hσ hB (by simp) (by simp) c1 (fun o ho=>?_),c1.below hN,Nat.le_refl _⟩
     ·unfold Instr.mapUpdate
      rw [Sem.run_bind,run_underlying T.und,Result.andThen_ok]
      simp only [Sem.run_bind,MapKept.run_getObj_map h1,Result.andThen_ok,hck,h3]
      rw [MapKept.run_setObj_map _ h1]
      simp
     ·rw [c2] at ho
      cases ho
      exact ⟨_,rfl,h2.append (.cons _ _ _ _ _ _ _ hk hv .nil)⟩
    | some p=>
     obtain ⟨n',v',b'⟩:=p
     obtain ⟨e,_,he,rfl,_,_,hke⟩:=h4
     simp only [Option.bind_eq_some_iff,Option.some.injEq] at hc
     obtain ⟨es',hse,rfl⟩:=hc
     rw [Nat.sub_zero] at he
     obtain ⟨c1,c2⟩:=zhx (o':=.map (ms.modify n' fun e=>{ e with key:=kx,val:=vx }).toArray x.2) h1
     refine ⟨_,?_,R.change hσ hB (by simp) (by simp) c1 (fun o ho=>?_),c1.below hN,Nat.le_refl _⟩
     ·unfold Instr.mapUpdate
      rw [Sem.run_bind,run_underlying T.und,Result.andThen_ok]
      simp only [Sem.run_bind,MapKept.run_getObj_map h1,Result.andThen_ok,hck,h3,List.getElem?_toArray,he,Option.map_some,Option.getD_some,hke,stays_run hok hk]
      rw [MapKept.run_setObj_map _ h1]
      simp
     ·rw [c2] at ho
      cases ho
      exact ⟨_,rfl,setE_rep hv _ h2 hse (fun e' he'=>by
       rw [he] at he'
       cases he'
       rw [← hke])⟩
 ·cases hc
theorem entry_sound (hE:EnvOK P E) (R:Rel N σ h w) {t:TypeId} {m k:V} {mx kx:Value} {v:V} {h':Hp} (hc:zbG E h t m k=some (v,h')) (hm:Rep σ m mx) (hk:Rep σ k kx):
  ∃ r w',(Instr.mapEntry t mx kx).run P w=.ok r w'∧Does N σ h w v h' r w':=by
 simp only [zbG,Option.bind_eq_some_iff] at hc
 obtain ⟨i,hi,hc⟩:=hc
 obtain ⟨d,inf,T⟩:=hE.is hi
 split at hc
 ·rename_i q el B hkk
  rw [T.k] at hkk
  obtain rfl:=kOf_map hkk.symm
  cases hm with
  | mp _ b n hσ=>
   rw [Option.bind_eq_some_iff] at hc
   obtain ⟨j,hj,hc⟩:=hc
   obtain ⟨d2,inf2,T2⟩:=hE.is hj
   cases hok:keyOK j k with
   | false=>rw [hok] at hc; cases hc
   | true=>
    rw [hok] at hc
    simp only [cond_true,Option.bind_eq_some_iff] at hc
    obtain ⟨x,hx,r,hf,hc⟩:=hc
    have hB:=mapOf_mp hx
    obtain ⟨ms,h1,h2⟩:=R.map_ hσ hB
    obtain ⟨o,h3,h4⟩:=zih (w:=w) T2 hk h2 hf
    have hck:(Instr.checkKey false 10000 q kx).run P w=.ok () w:=zgX T2 hok hk false 9998
    have hN:N≤b:=by
     rcases Nat.lt_or_ge b N with h8 | h8
     ·rcases R.old B b n hσ h8 with ⟨vs',el',h9⟩ | h9 <;> rw [hB] at h9 <;> cases h9
     ·exact h8
    cases r with
    | none=>
     obtain rfl:o=none:=h4
     simp only [Option.bind_eq_some_iff,Option.some.injEq,Prod.mk.injEq] at hc
     obtain ⟨z,hz,rfl,rfl⟩:=hc
     obtain ⟨zx,h5,h6⟩:=zlr (σ:=σ) hE hz
     obtain ⟨c1,c2⟩:=zhx (o':=.map (ms++[({ key:=kx,val:=zx,born:=x.2 }:MapEntry)]).toArray (x.2+1)) h1
     refine ⟨.tuple #[zx,goInt x.2],_,?_,.stay (R:=R.change hσ hB (by simp) (by simp) c1 (fun o ho=>?_)) ?_ (c1.below hN) (Nat.le_refl _)⟩
     ·unfold Instr.mapEntry
      rw [Sem.run_bind,run_underlying T.und,Result.andThen_ok]
      simp only [Sem.run_bind,MapKept.run_getObj_map h1,Result.andThen_ok,hck,h3,h5]
      rw [MapKept.run_setObj_map _ h1]
      simp
     ·exact .tup _ _ (.cons _ _ _ _ h6 (.one (.int _ _)))
     ·rw [c2] at ho
      cases ho
      exact ⟨_,rfl,h2.append (.cons _ _ _ _ _ _ _ hk h6 .nil)⟩
    | some p=>
     obtain ⟨n',v',b'⟩:=p
     obtain ⟨e,_,he,rfl,hv',hb',hke⟩:=h4
     simp only [Option.some.injEq,Prod.mk.injEq] at hc
     obtain ⟨rfl,rfl⟩:=hc
     rw [Nat.sub_zero] at he
     have hsame:(ms.toArray.modify n' fun e=>{ e with key:=kx })=ms.toArray:=by
      apply Array.toList_inj.1
      simp only [Array.toList_modify]
      apply List.ext_getElem?
      intro i
      rw [List.getElem?_modify]
      split
      ·rename_i hi; subst hi; rw [he]; simp [← hke]
      ·simp
     obtain ⟨c1,c2⟩:=zhx (o':=.map ms.toArray x.2) h1
     refine ⟨.tuple #[e.val,goInt e.born],{ w with heap:=w.heap.setIfInBounds b (.map ms.toArray x.2) },?_,.stay (R:=R.same c1.size (fun k=>?_)) ?_ (c1.below hN) (Nat.le_refl _)⟩
     ·unfold Instr.mapEntry
      rw [Sem.run_bind,run_underlying T.und,Result.andThen_ok]
      simp only [Sem.run_bind,MapKept.run_getObj_map h1,Result.andThen_ok,hck,h3,List.getElem?_toArray,he,Option.map_some,Option.getD_some,hke,stays_run hok hk,hsame]
      rw [MapKept.run_setObj_map _ h1]
      simp
     ·rw [← hb']
      exact .tup _ _ (.cons _ _ _ _ hv' (.one (.int _ _)))
     ·by_cases hkb:k=b
      ·subst hkb; rw [c2,h1]
      ·exact c1.other k hkb
 ·cases hc
theorem setBorn_rep {v:V} {vx:Value} (hv:Rep σ v vx):∀ {es es':List (V × V × Nat)} {ms:List MapEntry} {n:Nat},RepE σ es ms→zlv es n v=some es'→∃ i,ms.findIdx? (fun e=>((e.born:Nat):Int) == (n:Int))=some i∧RepE σ es' (ms.modify i fun e=>{ e with val:=vx })
 | [],_,_,_,.nil,h=>by simp [zlv] at h
 | (k,u,b)::r,_,_,n,.cons _ _ _ kx ux _ m h1 h2 hl,h=>by
  rw [zlv] at h
  cases hb:Nat.beq b n with
  | true=>
   rw [hb] at h
   simp only [cond_true,Option.some.injEq] at h
   subst h
   obtain rfl:=Nat.eq_of_beq_eq_true hb
   exact ⟨0,by simp [List.findIdx?_cons],by rw [List.modify_zero_cons]; exact .cons _ _ _ _ _ _ _ h1 hv hl⟩
  | false=>
   rw [hb] at h
   simp only [cond_false,Option.bind_eq_some_iff,Option.some.injEq] at h
   obtain ⟨l,hl2,rfl⟩:=h
   obtain ⟨i,h3,h4⟩:=setBorn_rep hv hl hl2
   have hne:(((b:Nat):Int) == (n:Int))=false:=by
    rw [zff] at hb
    simp only [decide_eq_false_iff_not] at hb
    rw [beq_eq_false_iff_ne]
    intro e
    exact hb (by omega)
   exact ⟨i+1,by rw [List.findIdx?_cons]; simp [hne,h3],by rw [List.modify_succ_cons]; exact .cons _ _ _ _ _ _ _ h1 h2 h4⟩
theorem entryStore_sound (R:Rel N σ h w) {t:TypeId} {m s v:V} {mx sx vx:Value} {h':Hp} (hc:zc9 h m s v=some h') (hm:Rep σ m mx) (hs:Rep σ s sx) (hv:Rep σ v vx):
  ∃ w',(Instr.entryStore t mx sx vx).run P w=.ok () w'∧Rel N σ h' w'∧Below N w w'∧h.n≤h'.n:=by
 unfold zc9 at hc
 split at hc
 ·rename_i B k n
  cases hs
  cases hm with
  | mp _ b nn hσ=>
   simp only [Option.bind_eq_some_iff,Option.some.injEq] at hc
   obtain ⟨n',hn,x,hx,es',hse,rfl⟩:=hc
   obtain rfl:=zew hn
   have hB:=mapOf_mp hx
   obtain ⟨ms,h1,h2⟩:=R.map_ hσ hB
   have hN:N≤b:=by
    rcases Nat.lt_or_ge b N with h8 | h8
    ·rcases R.old B b nn hσ h8 with ⟨vs',el',h9⟩ | h9 <;> rw [hB] at h9 <;> cases h9
    ·exact h8
   obtain ⟨i,h3,h4⟩:=setBorn_rep hv h2 hse
   obtain ⟨c1,c2⟩:=zhx (o':=.map (ms.modify i fun e=>{ e with val:=vx }).toArray x.2) h1
   refine ⟨_,?_,R.change hσ hB (by simp) (by simp) c1 (fun o ho=>?_),c1.below hN,Nat.le_refl _⟩
   ·unfold Instr.entryStore
    simp only [Sem.run_bind,MapKept.run_getObj_map h1,Result.andThen_ok,asInt,asIntOf,Sem.run_pure]
    have h5:ms.toArray.findIdx? (fun e=>((e.born:Nat):Int) == ((n':Nat):Int))=some i:=by simpa using h3
    simp only [h5]
    rw [MapKept.run_setObj_map _ h1]
    simp
   ·rw [c2] at ho
    cases ho
    exact ⟨_,rfl,h4⟩
 ·cases hc
theorem target_sound {f:V} {fx:Value} {args:List V} {axs:List Value} {g:Nat} {aS:List V} (h:target f args=some (g,aS)) (hf:Rep σ f fx) (ha:RepL σ args axs) (w:World):
  ∃ d cap,(Deferred.ofValue fx axs.toArray).run P w=.ok d w∧d.target=.fn (.func g) cap∧RepL σ aS (d.args++cap).toList:=by
 unfold target at h
 split at h
 ·rename_i f' first cap
  cases hf with
  | fn _ _ _ x y h1 h2=>
   simp only [Option.some.injEq,Prod.mk.injEq] at h
   obtain ⟨rfl,rfl⟩:=h
   refine ⟨⟨.fn (.func f') y.toArray,x.toArray++axs.toArray⟩,y.toArray,rfl,rfl,?_⟩
   have:=(h1.append ha).append h2
   simpa using this
 ·cases h
theorem map_arr (args:Array Operand) (ρ:Operand→Value):args.map ρ = (args.toList.map ρ).toArray:=by apply Array.toList_inj.1; simp
theorem run_u {s:Sem Unit} (h:s.run P w=.ok () w'):(do s; pure Next.skip:Sem Next).run P w=.ok .skip w':=by rw [Sem.run_bind,h]; rfl
theorem run_v2 {s:Sem Value} {r:Value} (h:s.run P w=.ok r w'):(do pure (Next.value (← s)):Sem Next).run P w=.ok (.value r) w':=by rw [Sem.run_bind,h]; rfl
def DoesNx (P:Program) (N:Nat) (σ:Mp) (h:Hp) (w:World) (r:Result Next):Nx × Hp→Prop
 | (.val v,h')=>∃ x w',r=.ok (.value x) w'∧Does N σ h w v h' x w'
 | (.skip,h')=>∃ w',r=.ok .skip w'∧Rel N σ h' w'∧Below N w w'∧h.n≤h'.n
 | (.enter f aS,h')=>h'=h∧∃ xs:List Value,RepL σ aS xs∧r=(callFunc f xs.toArray).run P w
 | (.dfr f aS,h')=>h'=h∧∃ d cap,r=.ok (.defer d) w∧d.target=.fn (.func f) cap∧RepL σ aS (d.args++cap).toList
 | (.recover,_)=>True
theorem methodV_sound (hE:EnvOK P E) {r:V} {rx:Value} {n:String} {args:List V} {axs:List Value} {f:Nat} {aS:List V} (h:methodV E r n args=some (f,aS)) (hr:Rep σ r rx) (ha:RepL σ args axs) (w:World):
  ∃ xs:List Value,RepL σ aS xs∧(callMethod rx n axs.toArray).run P w=(callFunc f xs.toArray).run P w:=by
 unfold methodV at h
 split at h
 ·rename_i t v
  cases hr with
  | iface _ _ x hx=>
   simp only [Option.bind_eq_some_iff] at h
   obtain ⟨i,hi,m,hm,h⟩:=h
   obtain ⟨d,inf,T⟩:=hE.is hi
   split at h
   ·rename_i f' el hp hf hk
    simp only [Option.some.injEq,Prod.mk.injEq] at h
    obtain ⟨rfl,rfl⟩:=h
    rw [T.k] at hk
    obtain rfl:=kOf_ptr hk.symm
    refine ⟨x::axs,.cons _ _ _ _ hx ha,?_⟩
    have hfind:∀ l:List Method,findMeth n l=some m→l.find? (fun q=>q.name == n)=some m:=by
     intro l
     induction l with
     | nil=>intro h; cases h
     | cons q r ih=>
      intro h
      rw [findMeth] at h
      cases hq:(q.name == n) with
      | true=>rw [hq] at h; simpa [List.find?_cons,hq] using h
      | false=>rw [hq] at h; simp only [List.find?_cons,hq]; exact ih h
    have hm2:inf.methods.find? (fun q=>q.name == n)=some m:=by
     rw [← Array.find?_toList]
     rw [T.meths] at hm
     exact hfind _ hm
    have hpe:m.path = #[]:=by apply Array.toList_inj.1; simpa using hp
    have hmeth:∀ fuel,(method (fuel+1) t x n).run P w=.ok (f',x) w:=fun fuel=>by
     unfold method
     rw [Sem.run_bind,zbJ T.info,Result.andThen_ok]
     simp only [hm2,hp,follow,Sem.run_bind,Sem.run_pure,Result.andThen_ok,hf,receiverAt,run_underlying T.und,Place.get]
    unfold callMethod
    simp only [Sem.run_bind,run_program,Result.andThen_ok]
    have hpos:0 < Made.depth:=by decide
    obtain ⟨fuel,hfu⟩:∃ fuel,P.types.size+Made.depth=fuel+1:=⟨P.types.size+Made.depth - 1,by omega⟩
    have e:#[x]++axs.toArray=(x::axs).toArray:=by simp
    rw [hfu,hmeth,Result.andThen_ok,e]
   ·cases h
 ·cases h
theorem eop_sound (hE:EnvOK P E) (R:Rel N σ h w) {o:Oper} {t:Tm} {ρ:Operand→Value} {nx:Nx × Hp} (hl:eop E t h o.op=some nx) (hρ:∀ x ∈ o.op.operands,∀ v,ev t x=some v→Rep σ v (ρ x)):
  DoesNx P N σ h w ((execOp ρ o).run P w) nx:=by
 obtain ⟨dst,op,type,pos,after,guard⟩:=o
 simp only at hl hρ
 cases op <;> simp only [eop] at hl <;> (try (cases hl; done)) <;> simp only [Op.operands] at hρ
 case assign x=>
  unfold rV at hl
  split at hl
  ·rename_i v hv
   cases hl
   exact ⟨ρ x,w,rfl,.stay (hρ x (by simp) v hv) R (Below.refl _ _) (Nat.le_refl _)⟩
  ·cases hl
 case store ty a x=>
  unfold eStore rU at hl
  split at hl
  ·rename_i h' hs
   cases hl
   simp only [Option.bind_eq_some_iff] at hs
   obtain ⟨av,h1,xv,h2,hs⟩:=hs
   obtain ⟨w',h3,h4,h5⟩:=store_sound hE R hs (hρ a (by simp) av h1) (hρ x (by simp) xv h2)
   exact ⟨w',run_u h3,h4,h5,store_n hs⟩
  ·cases hl
 case insert ty m k x=>
  unfold zdg rU at hl
  split at hl
  ·rename_i h' hs
   cases hl
   simp only [Option.bind_eq_some_iff] at hs
   obtain ⟨mv,h1,kv,h2,xv,h3,hs⟩:=hs
   obtain ⟨w',h4,h5,h6⟩:=update_sound hE R hs (hρ m (by simp) mv h1) (hρ k (by simp) kv h2) (hρ x (by simp) xv h3)
   exact ⟨w',run_u h4,h5,h6⟩
  ·cases hl
 case mapUpdate ty m k x=>
  unfold zdg rU at hl
  split at hl
  ·rename_i h' hs
   cases hl
   simp only [Option.bind_eq_some_iff] at hs
   obtain ⟨mv,h1,kv,h2,xv,h3,hs⟩:=hs
   obtain ⟨w',h4,h5,h6⟩:=update_sound hE R hs (hρ m (by simp) mv h1) (hρ k (by simp) kv h2) (hρ x (by simp) xv h3)
   exact ⟨w',run_u h4,h5,h6⟩
  ·cases hl
 case mapEntry ty m k=>
  unfold eMapEntry rVH at hl
  split at hl
  ·rename_i v h' hs
   cases hl
   simp only [Option.bind_eq_some_iff] at hs
   obtain ⟨mv,h1,kv,h2,hs⟩:=hs
   obtain ⟨r,w',h4,h5⟩:=entry_sound hE R hs (hρ m (by simp) mv h1) (hρ k (by simp) kv h2)
   exact ⟨r,w',run_v2 h4,h5⟩
  ·cases hl
 case entryStore ty m s x=>
  unfold zif rU at hl
  split at hl
  ·rename_i h' hs
   cases hl
   simp only [Option.bind_eq_some_iff] at hs
   obtain ⟨mv,h1,kv,h2,xv,h3,hs⟩:=hs
   obtain ⟨w',h4,h5,h6⟩:=entryStore_sound (t:=ty) R hs (hρ m (by simp) mv h1) (hρ s (by simp) kv h2) (hρ x (by simp) xv h3)
   exact ⟨w',run_u h4,h5,h6⟩
  ·cases hl
 case call c=>
  obtain ⟨callee,args,ats⟩:=c
  simp only [eCall,Option.bind_eq_some_iff] at hl
  obtain ⟨vs,h1,hl⟩:=hl
  have hargs:∀ x ∈ args.toList,∀ v,ev t x=some v→Rep σ v (ρ x):=fun x hx=>hρ x (by simp only [Call.operands]; simp at hx ⊢; simp [hx])
  have h2:=evs_rep hargs h1
  have he:=map_arr args ρ
  cases callee with
  | value f=>
   simp only [Option.bind_eq_some_iff] at hl
   obtain ⟨fv,h3,⟨g,aS⟩,h4,hl⟩:=hl
   cases hl
   obtain ⟨d,cap,h5,h6,h7⟩:=target_sound (P:=P) h4 (hρ f (by simp [Call.operands]) fv h3) h2 w
   refine ⟨rfl,_,h7,?_⟩
   show (do let d ← resolve ρ ⟨.value f,args,ats⟩ type; invoke d.target d.args:Sem Next).run P w=_
   simp only [resolve]
   rw [he,Sem.run_bind,h5,Result.andThen_ok,h6]
   simp only [invoke,Array.toArray_toList]
  | invoke r n=>
   simp only [Option.bind_eq_some_iff] at hl
   obtain ⟨rv,h3,⟨g,aS⟩,h4,hl⟩:=hl
   cases hl
   obtain ⟨xs,h5,h6⟩:=methodV_sound hE h4 (hρ r (by simp [Call.operands]) rv h3) h2 w
   refine ⟨rfl,xs,h5,?_⟩
   show (do let d ← resolve ρ ⟨.invoke r n,args,ats⟩ type; invoke d.target d.args:Sem Next).run P w=_
   simp only [resolve,Sem.run_bind,Sem.run_pure,Result.andThen_ok]
   rw [he,← h6]
   simp only [invoke]
   have e1:(#[ρ r]++(args.toList.map ρ).toArray)[0]? = some (ρ r):=by simp
   have e2:(#[ρ r]++(args.toList.map ρ).toArray).extract 1 (#[ρ r]++(args.toList.map ρ).toArray).size=(args.toList.map ρ).toArray:=by
    apply Array.toList_inj.1; simp; rw [List.take_of_length_le (by simp)]
   simp only [e1,e2]
  | builtin b=>
   change eBuiltin E h ats b vs=some nx at hl
   unfold eBuiltin at hl
   split at hl
   ·rename_i x y
    unfold rVH at hl
    split at hl
    ·rename_i v h' hs
     cases hl
     generalize hys:args.toList.map ρ = ys at h2 he
     cases h2 with
     | cons _ xx _ ys' hx h2=>cases h2 with
      | cons _ yx _ ys'' hy h2=>cases h2 with
       | nil=>
        obtain ⟨r,w',h4,h5⟩:=append_sound (ty:=type) hE R hs hx hy
        refine ⟨r,w',?_,h5⟩
        show (do let d ← resolve ρ ⟨.builtin .append,args,ats⟩ type; invoke d.target d.args:Sem Next).run P w=_
        simp only [resolve,Sem.run_bind,Sem.run_pure,Result.andThen_ok,invoke]
        rw [he]
        exact run_v2 h4
    ·cases hl
   ·rename_i x y
    unfold rVH at hl
    split at hl
    ·rename_i v h' hs
     cases hl
     generalize hys:args.toList.map ρ = ys at h2 he
     cases h2 with
     | cons _ xx _ ys' hx h2=>cases h2 with
      | cons _ yx _ ys'' hy h2=>cases h2 with
       | nil=>
        obtain ⟨r,w',h4,h5⟩:=copy_sound (ty:=type) hE R hs hx hy
        refine ⟨r,w',?_,h5⟩
        show (do let d ← resolve ρ ⟨.builtin .copy,args,ats⟩ type; invoke d.target d.args:Sem Next).run P w=_
        simp only [resolve,Sem.run_bind,Sem.run_pure,Result.andThen_ok,invoke]
        rw [he]
        exact run_v2 h4
    ·cases hl
   ·cases hl; trivial
   ·cases hl
 case defer c=>
  obtain ⟨callee,args,ats⟩:=c
  cases callee with
  | invoke r n=>cases hl
  | builtin b=>cases hl
  | value f=>
   simp only [eDefer,Option.bind_eq_some_iff] at hl
   obtain ⟨vs,h1,fv,h3,⟨g,aS⟩,h4,hl⟩:=hl
   cases hl
   have hargs:∀ x ∈ args.toList,∀ v,ev t x=some v→Rep σ v (ρ x):=fun x hx=>hρ x (by simp only [Call.operands]; simp at hx ⊢; simp [hx])
   have h2:=evs_rep hargs h1
   have he:=map_arr args ρ
   obtain ⟨d,cap,h5,h6,h7⟩:=target_sound (P:=P) h4 (hρ f (by simp [Call.operands]) fv h3) h2 w
   refine ⟨rfl,d,cap,?_,h6,h7⟩
   show (do pure (Next.defer (← resolve ρ ⟨.value f,args,ats⟩ type)):Sem Next).run P w=_
   simp only [resolve]
   rw [he,Sem.run_bind,h5,Result.andThen_ok]
   rfl
end
end Go.Proofs.YtbchdlelmkmagaaGreatDoor.VM
