/- DpAwake VmFr Mem Mem2 CRDig Itoa DpZ VmO DpErr VkL DpA DpTy DpB DpC DpD DpF DpA2 DpG -/
import Derived.WalkKit
import Derived.Deep.Draws
import Derived.Deep.AppendLies
import Derived.Laws.IdiomStrings
import Derived.Maps.AppendAt
import Derived.Laws.BytesArg
import Derived.Test.YtbchdlelmkmagaaGreatDoorChecked
import Derived.Lib.Hide
import Derived.BigQuiet
import Derived.LoopN
import Derived.WalkSpells
import Derived.Lib.ItoaLen
import Derived.Shelf.Strconv.Itoa3
import Derived.Ground.NamesProg
import Derived.Below
import Derived.Lib.AppendIntMem
import Derived.LaidSub
import Derived.Lay
import Derived.Test.YtbchdlelmkmagaaGreatDoorRows
import Derived.Test.YtbchdlelmkmagaaGreatDoorMg6
import Derived.Test.YtbchdlelmkmagaaGreatDoorMg7
import Derived.Test.YtbchdlelmkmagaaGreatDoorMg8
namespace Go.Proofs.YtbchdlelmkmagaaGreatDoor
namespace VM
open Go
set_option linter.unusedSectionVars false
noncomputable section
def zgl:Memo:=⟨[],.bool true,[]⟩
variable [Sy]
theorem awakeMemo_run:look [] 1000000 (zax E (exec E 3000) 5 zgl.al ⟨.leaf,0⟩)=some (zgl.v.ren (rn [] 1000000),zgl.bs.map (Blk.ren (rn [] 1000000))):=by kernel_rfl
set_option maxRecDepth 20000 in
theorem awakeMemo_ok:ziy Tryz.prog 5 zgl:=
 @zi9 _ Tryz.prog E envOK (@idleOK _) (@hooksOK _) nameOK 5 3000 1000000 [] zgl awakeMemo_run rfl rfl (by decide)
end
end VM
end Go.Proofs.YtbchdlelmkmagaaGreatDoor
namespace Go.Proofs.YtbchdlelmkmagaaGreatDoor.VM
open Go Go.RowKit
set_option linter.unusedVariables false
set_option linter.unusedSectionVars false
variable [Sy]
noncomputable section
mutual
theorem ren_id:∀ v:V,v.ren id=v
 | .fn f a c=>by rw [V.ren,zld a,zld c]
 | .iface t v=>by rw [V.ren,ren_id v]
 | .agg l=>by rw [V.ren,zld l]
 | .tup l=>by rw [V.ren,zld l]
 | .ptr _ _=>by rw [V.ren]; rfl
 | .sl _ _ _ _=>by rw [V.ren]; rfl
 | .slo _ _ _ _ _=>by rw [V.ren]; rfl
 | .mp _=>by rw [V.ren]; rfl
 | .bool _=>by rw [V.ren]
 | .int _ _=>by rw [V.ren]
 | .str _=>by rw [V.ren]
 | .nilp=>by rw [V.ren]
 | .nils=>by rw [V.ren]
 | .emp=>by rw [V.ren]
 | .nilm=>by rw [V.ren]
 | .nilf=>by rw [V.ren]
 | .nili=>by rw [V.ren]
 | .any=>by rw [V.ren]
 | .symI _ _=>by rw [V.ren]
 | .symS _=>by rw [V.ren]
 | .gptr _ _=>by rw [V.ren]
 | .aptr _ _=>by rw [V.ren]
 | .asl _ _ _=>by rw [V.ren]
theorem zld:∀ l:List V,V.renL id l=l
 | []=>by rw [V.renL]
 | v::l=>by rw [V.renL,ren_id v,zld l]
end
def roB (bs:List (List V × Nat)):List Blk:=bs.map fun p=>.cells p.1 p.2 true
def fragH (bs:List (List V × Nat)):Hp:=⟨T.ofL ((roB bs).map some) 0 .leaf,bs.length⟩
structure FragAt (h:Hp) (ρ:List Nat) (bs:List (List V × Nat)):Prop where
 len:ρ.length=bs.length
 nd:ρ.Nodup
 at_:∀ (i B:Nat) (p:List V × Nat),ρ[i]? = some B→bs[i]? = some p→∃ rest ro,h.t.get B=some (.cells (V.renL (rn ρ h.n) p.1++rest) p.2 ro)
theorem fragH_get {bs:List (List V × Nat)} {i:Nat} {p:List V × Nat} (h:bs[i]? = some p):(fragH bs).t.get i=some (.cells p.1 p.2 true):=by
 have hi:=(List.getElem?_eq_some_iff.1 h).1
 unfold fragH roB
 simp only
 rw [T.get_ofL,if_pos (by simp; omega),Nat.sub_zero,List.getElem?_map,List.getElem?_map,h]
 rfl
theorem FragAt.rel {N:Nat} {σ:Mp} {h:Hp} {w:World} {ρ:List Nat} {bs:List (List V × Nat)} (R:Rel N σ h w) (F:FragAt h ρ bs):Rel w.heap.size (fun i=>σ (rn ρ h.n i)) (fragH bs) w:=by
 have hn:σ h.n=none:=by
  cases e:σ h.n with
  | none=>rfl
  | some p=>have:=(R.has h.n p.1 p.2 e).1; omega
 have hlt:∀ i b n,σ (rn ρ h.n i)=some (b,n)→∃ B p,ρ[i]? = some B∧bs[i]? = some p∧rn ρ h.n i=B:=fun i b n e=>by
  cases hc:ρ[i]? with
  | none=>
   have e2:rn ρ h.n i=h.n:=by unfold rn; rw [List.getD_eq_getElem?_getD,hc]; rfl
   rw [e2,hn] at e; cases e
  | some B=>
   have hi:=(List.getElem?_eq_some_iff.1 hc).1
   rw [F.len] at hi
   exact ⟨B,bs[i],rfl,List.getElem?_eq_getElem hi,by unfold rn; rw [List.getD_eq_getElem?_getD,hc]; rfl⟩
 refine ⟨fun i b n e=>?_,fun i j b n m ei ej=>?_,fun i b n e _=>?_,Nat.le_refl _,fun p hp=>⟨Nat.lt_of_lt_of_le (R.tab p hp).1 R.base,(R.tab p hp).2⟩⟩
 ·obtain ⟨B,p,h1,h2,h3⟩:=hlt i b n e
  have e':σ (rn ρ h.n i)=some (b,n):=e
  rw [h3] at e'
  obtain ⟨g1,g2,k,g3,g4⟩:=R.has B b n e'
  refine ⟨(List.getElem?_eq_some_iff.1 h2).1,g2,_,fragH_get h2,fun o ho=>?_⟩
  obtain ⟨rest,ro,g5⟩:=F.at_ i B p h1 h2
  rw [g5] at g3
  cases g3
  obtain ⟨xs,ys,fz,q1,q2,q3,_⟩:=CellsAre.out (g4 o ho)
  obtain ⟨aS,cs,rfl,r1,r2⟩:=RepL.split q2
  refine ⟨aS,cs++ys,fz,by rw [q1,List.append_assoc],?_,by rw [← q3,List.append_assoc],fun q=>(by cases q)⟩
  have:=RepL.ren (τ:=fun i=>σ (rn ρ h.n i)) (q:=id) (fun _=>rfl) p.1 r1
  rwa [zld] at this
 ·obtain ⟨B,p,h1,h2,h3⟩:=hlt i b n ei
  obtain ⟨C,q,k1,k2,k3⟩:=hlt j b m ej
  have ei':σ (rn ρ h.n i)=some (b,n):=ei
  have ej':σ (rn ρ h.n j)=some (b,m):=ej
  rw [h3] at ei'
  rw [k3] at ej'
  obtain ⟨_,_,g5⟩:=F.at_ i B p h1 h2
  obtain ⟨_,_,g6⟩:=F.at_ j C q k1 k2
  rcases R.inj B C b n m ei' ej' with e | e | e
  ·subst e
   exact .inl ((List.getElem?_inj (List.getElem?_eq_some_iff.1 h1).1 F.nd).1 (h1.trans k1.symm))
  ·rw [g5] at e; cases e
  ·rw [g6] at e; cases e
 ·obtain ⟨B,p,h1,h2,h3⟩:=hlt i b n e
  exact .inl ⟨_,_,fragH_get h2⟩
theorem frag_ok {P:Program} {E:Env} (hE:EnvOK P E) (hI:ziD P E) (hH:zgV P E) (hname:NameOK P) {f n:Nat} {al:List V} {r:V} {bs:List (List V × Nat)}
  (hrun:(zax E (exec E n) f al (fragH bs)).map (·.1)=some r) (hr:allStr [r]=true) {N:Nat} {σ:Mp} {h:Hp} {w:World} {xs:List Value} {ρ:List Nat} (R:Rel N σ h w) (F:FragAt h ρ bs) (ha:RepL σ (V.renL (rn ρ h.n) al) xs):
  match (callFunc f xs.toArray).run P w with
  | .ok (.value x) w'=>Does N σ h w r h x w'
  | .ok (.enter g ys) w'=>Calls P g ys w' fun e w''=>∃ x,e=.returned x∧Does N σ h w r h x w''
  | _=>False:=by
 obtain ⟨⟨v,h1⟩,hc,hv⟩:=Option.map_eq_some_iff.1 hrun
 simp only at hv
 subst hv
 have ha':=RepL.ren (τ:=fun i=>σ (rn ρ h.n i)) (q:=id) (fun _=>rfl) al ha
 rw [zld] at ha'
 have key:=run_ok hE hI hH hname n w.heap.size f al (fragH bs) v h1 hc _ w xs (F.rel R) ha'
 have conv:∀ {x:Value} {w':World},Does w.heap.size (fun i=>σ (rn ρ h.n i)) (fragH bs) w v h1 x w'→Does N σ h w v h x w':=by
  rintro x w' ⟨σ',_,_,q1,_,q2⟩
  have q3:RepL σ [v] [x]:=RepL.closed hr (RepL.one q1)
  cases q3 with
  | cons _ _ _ _ q4 _=>exact Does.stay q4 (R.world q2) (q2.mono R.base) (Nat.le_refl _)
 split at key
 ·rename_i x w' e
  rw [e]
  exact conv key
 ·rename_i g ys w' e
  rw [e]
  exact key.mono fun e w'' ⟨x,h1,h2⟩=>⟨x,h1,conv h2⟩
 ·exact key.elim
end
end Go.Proofs.YtbchdlelmkmagaaGreatDoor.VM
namespace Go.Proofs.YtbchdlelmkmagaaGreatDoor
open Go.RowKit
theorem block_of_add (a:Addr) (n:Nat):(a.add n).block=a.block:=by unfold Addr.add; split <;> rfl
theorem add_zero_ (a:Addr):a.add 0=a:=by unfold Addr.add; simp
def At1 {α:Type} (f:α→Value) (w:World) (A:Option Addr) (l:List α):Prop:=
 l.length≤9223372036854775807∧(0 < l.length→∃ ad,A=some ad∧∀ i x,l[i]? = some x→w.cell? (ad.add i)=some (f x))
abbrev vByte:UInt8→Value:=fun c=>Value.int .u8 (c.toNat:Int)
section
variable {α:Type} {f:α→Value} {w w':World} {A:Option Addr} {l:List α}
theorem At1.nil (f:α→Value) (w:World) (A:Option Addr):At1 f w A []:=⟨by simp,fun h=>absurd h (by simp)⟩
end
theorem toList_inj {a b:ByteArray} (h:a.toList=b.toList):a=b:=by
 rw [ByteArray.toList_eq,ByteArray.toList_eq] at h
 cases a; cases b
 congr 1
 exact Array.toList_inj.1 h
theorem run_str1 {P:Program} {src dst e:TypeId} (hs:P.underlying src=some (.slice e)) (he:P.underlying e=some (.int .u8)) (hd:P.underlying dst=some .string) (w:World) (x:UInt8) (n:Int) (hn:n=(x.toNat:Int)):
  (convert src dst (.slice (some ⟨w.heap.size,0,none⟩) 1 1)).run P (w.alloc (.cells #[.int .u8 n] e))=.ok (.string ⟨#[x]⟩) (w.alloc (.cells #[.int .u8 n] e)):=by
 subst hn
 refine run_convert_bytes_back (P:=P) _ src dst e ⟨w.heap.size,0,none⟩ 1 [x] hs he hd fun j hj=>?_
 have:j=0:=by simpa using hj
 subst this
 rw [add_zero_,World.cell?_alloc_mark]
 rfl
section
variable {P:Program} {T e:TypeId} {z:Value} {size bytes:Nat}
end
end Go.Proofs.YtbchdlelmkmagaaGreatDoor
namespace Go.Proofs.YtbchdlelmkmagaaGreatDoor
open Go.RowKit
end Go.Proofs.YtbchdlelmkmagaaGreatDoor
namespace Go.Proofs.YtbchdlelmkmagaaGreatDoor
open Go.RowKit Go.Maps
def InR (n:Int):Prop:=-9223372036854775808≤n∧n≤9223372036854775807
theorem dec_num {k:Nat} (h:k < 10):(48+UInt8.ofNat k:UInt8).toNat=48+k:=by
 rw [UInt8.toNat_add,UInt8.toNat_ofNat_of_lt' (by show k < 256; omega)]
 show (48+k) % 256=_
 omega
theorem dec_add (k:Nat):UInt8.ofNat (48+k)=48+UInt8.ofNat k:=by rw [UInt8.ofNat_add]; rfl
theorem dec_one {k:Nat} (h:k < 10):Lib.decDigits k=[48+UInt8.ofNat k]:=by rw [Lib.decDigits_one h,dec_add]
theorem dec_big {n:Nat} (h:¬ n < 10):Lib.decDigits n=Lib.decDigits (n / 10)++[48+UInt8.ofNat (n % 10)]:=by rw [Lib.decDigits,dif_neg h,dec_add]
theorem zjo (x:UInt8) (l:List UInt8):(⟨#[x]⟩++⟨l.toArray⟩:ByteArray)=⟨(x::l).toArray⟩:=by
 apply ByteArray.ext
 simp [ByteArray.data_append]
theorem dec_len {m:Nat} (h:m≤9223372036854775808):(Lib.decDigits m).length≤21:=by
 by_cases h2:m≤9223372036854775807
 ·have:=Lib.itoa_length_le (m:Int) (by omega) (by omega)
  rw [Lib.itoa_nonneg] at this
  omega
 ·have:=Lib.itoa_length_le (-(m:Int)) (by omega) (by omega)
  rw [Lib.itoa_neg m (by omega),List.length_cons] at this
  omega
set_option maxRecDepth 100000 in
set_option maxHeartbeats 1000000 in
theorem rdig_pos (w:World) (m:Nat) (hm:m≤9223372036854775807):
  Calls Tryz.prog 38 #[.int .i64 m] w fun e w'=>e=.returned (.string ⟨(Lib.itoa (m:Int)).toArray⟩)∧Below w.heap.size w w':=by
 have hw:IntKind.u64.wrap (m:Int)=m:=by simp [IntKind.wrap,IntKind.signed,IntKind.bits]; omega
 have hlm:=Lib.hid (dec_len (m:=m) (by omega))
 have HR:=Lib.hid (Lib.itoa_nonneg m)
 go_enter Tryz.func38,Tryz.ntmps38
 go_wp2
 go_loopw [3,4] (fun u s wr=>∃ (k:Nat) (l:List UInt8),k≤m∧u=.int .u64 k∧s=.string ⟨l.toArray⟩∧Hid (Lib.decDigits k++l=Lib.decDigits m)∧Below w.heap.size w wr) (fun u _ _=>(intOf u).toNat)
 case atStart=>exact ⟨m,[],Nat.le_refl _,rfl,rfl,by simp [Hid],Below.refl _ _⟩
 case round=>
  obtain ⟨k,l,hk,rfl,rfl,hd,hb⟩:=hrel
  have hlen:l.length≤21:=by have:=congrArg List.length hd.out; rw [List.length_append] at this; have:=hlm.out; omega
  by_cases h10:k < 10
  ·have hnum:48+(k:Int)=((48+UInt8.ofNat k:UInt8).toNat:Int):=by rw [dec_num (by omega)]; omega
   have hcv:=run_str1 (P:=Tryz.prog) Tryz.underlying22 Tryz.underlying5 Tryz.underlying9 wr _ _ hnum
   have hsz:=hb.size
   clear hnum
   go_wp2
   go_ret
   refine ⟨?_,hb.alloc hsz _⟩
   have hd:=hd.out
   rw [dec_one h10] at hd
   rw [HR.out,← hd]
   show Ending.returned (.string (⟨#[48+UInt8.ofNat k]⟩++⟨l.toArray⟩))=_
   rw [zjo]; rfl
  ·have hnum:48+(k:Int) % 10=((48+UInt8.ofNat (k % 10):UInt8).toNat:Int):=by rw [dec_num (by omega)]; omega
   have hcv:=run_str1 (P:=Tryz.prog) Tryz.underlying22 Tryz.underlying5 Tryz.underlying9 wr _ _ hnum
   have hsz:=hb.size
   have hd2:Hid (Lib.decDigits (k / 10)++((48+UInt8.ofNat (k % 10))::l)=Lib.decDigits m):=by rw [← hd.out,dec_big h10,List.append_assoc]; exact rfl
   clear hnum hd
   go_wp2
   go_roundw
   case rel=>exact ⟨k / 10,(48+UInt8.ofNat (k % 10))::l,by omega,by go_num,by rw [← zjo]; rfl,hd2,hb.alloc hsz _⟩
   case measure=>first | (simp [intOf]; done) | (simp [intOf]; omega)
set_option maxRecDepth 100000 in
set_option maxHeartbeats 1000000 in
theorem rdig_neg (w:World) (m:Nat) (h1:1≤m) (hm:m≤9223372036854775808):
  Calls Tryz.prog 38 #[.int .i64 (-(m:Int))] w fun e w'=>e=.returned (.string ⟨(Lib.itoa (-(m:Int))).toArray⟩)∧Below w.heap.size w w':=by
 have hw:IntKind.u64.wrap (-(m:Int))=18446744073709551616 - m:=by simp [IntKind.wrap,IntKind.signed,IntKind.bits]; omega
 have hw2:IntKind.u64.wrap (-(18446744073709551616 - (m:Int)))=m:=by simp [IntKind.wrap,IntKind.signed,IntKind.bits]; omega
 have hlm:=Lib.hid (dec_len (m:=m) (by omega))
 have HR:=Lib.hid (Lib.itoa_neg m h1)
 have hneg:decide (-(m:Int) < 0)=true:=decide_eq_true (by omega)
 go_enter Tryz.func38,Tryz.ntmps38
 go_wp2
 go_loopw [3,4] (fun u s wr=>∃ (k:Nat) (l:List UInt8),k≤m∧u=.int .u64 k∧s=.string ⟨l.toArray⟩∧Hid (Lib.decDigits k++l=Lib.decDigits m)∧Below w.heap.size w wr) (fun u _ _=>(intOf u).toNat)
 case atStart=>exact ⟨m,[],Nat.le_refl _,by first | rfl | (rw [hw2]),rfl,by simp [Hid],Below.refl _ _⟩
 case round=>
  obtain ⟨k,l,hk,rfl,rfl,hd,hb⟩:=hrel
  have hlen:l.length≤21:=by have:=congrArg List.length hd.out; rw [List.length_append] at this; have:=hlm.out; omega
  by_cases h10:k < 10
  ·have hnum:48+(k:Int)=((48+UInt8.ofNat k:UInt8).toNat:Int):=by rw [dec_num (by omega)]; omega
   have hcv:=run_str1 (P:=Tryz.prog) Tryz.underlying22 Tryz.underlying5 Tryz.underlying9 wr _ _ hnum
   have hsz:=hb.size
   clear hnum
   go_wp2
   go_ret
   refine ⟨?_,hb.alloc hsz _⟩
   have hd:=hd.out
   rw [dec_one h10] at hd
   rw [HR.out,← hd]
   show Ending.returned (.string (⟨#[45]⟩++(⟨#[48+UInt8.ofNat k]⟩++⟨l.toArray⟩)))=_
   rw [zjo,zjo]; rfl
  ·have hnum:48+(k:Int) % 10=((48+UInt8.ofNat (k % 10):UInt8).toNat:Int):=by rw [dec_num (by omega)]; omega
   have hcv:=run_str1 (P:=Tryz.prog) Tryz.underlying22 Tryz.underlying5 Tryz.underlying9 wr _ _ hnum
   have hsz:=hb.size
   have hd2:Hid (Lib.decDigits (k / 10)++((48+UInt8.ofNat (k % 10))::l)=Lib.decDigits m):=by rw [← hd.out,dec_big h10,List.append_assoc]; exact rfl
   clear hnum hd
   go_wp2
   go_roundw
   case rel=>exact ⟨k / 10,(48+UInt8.ofNat (k % 10))::l,by omega,by go_num,by rw [← zjo]; rfl,hd2,hb.alloc hsz _⟩
   case measure=>first | (simp [intOf]; done) | (simp [intOf]; omega)
theorem rdig_any (w:World) (n:Int) (hn:InR n):Calls Tryz.prog 38 #[.int .i64 n] w fun e w'=>e=.returned (.string ⟨(Lib.itoa n).toArray⟩)∧Below w.heap.size w w':=by
 by_cases h:0≤n
 ·obtain ⟨m,rfl⟩:∃ m:Nat,n=m:=⟨n.toNat,by omega⟩
  exact rdig_pos w m (by have:=hn.2; omega)
 ·obtain ⟨m,rfl⟩:∃ m:Nat,n = -(m:Int):=⟨n.natAbs,by omega⟩
  exact rdig_neg w m (by omega) (by have:=hn.1; omega)
end Go.Proofs.YtbchdlelmkmagaaGreatDoor
namespace Go.Proofs
open Go.Shelf
def Tryz.laysItoa_ren:Go.Shelf.Ren:=⟨fun | 171=>43 | 243=>74 | 246=>114 | 283=>172 | 284=>173 | 285=>174 | 286=>175 | 129=>204 | 317=>242 | 318=>243 | 319=>244 | 320=>245 | 337=>272 | 338=>273 | n=>n,fun | 3=>3 | 9=>9 | 2=>2 | 4=>4 | 171=>201 | 0=>0 | 53=>114 | 37=>22 | 5=>5 | 173=>204 | 212=>243 | 51=>222 | 20=>20 | 213=>244 | 46=>180 | 232=>273 | 233=>274 | n=>n,fun | 17=>2 | 18=>3 | 19=>4 | n=>n⟩
theorem Tryz.laysItoa:Go.Proofs.LaysM.n171 Tryz.prog Tryz.laysItoa_ren:={
 mixed:=by kernel_rfl
 f129:=Tryz.func204.trans (congrArg some (by kernel_rfl))
 f171:=Tryz.func43.trans (congrArg some (by kernel_rfl))
 f243:=Tryz.func74.trans (congrArg some (by kernel_rfl))
 f246:=Tryz.func114.trans (congrArg some (by kernel_rfl))
 f283:=Tryz.func172.trans (congrArg some (by kernel_rfl))
 f284:=Tryz.func173.trans (congrArg some (by kernel_rfl))
 f285:=Tryz.func174.trans (congrArg some (by kernel_rfl))
 f286:=Tryz.func175.trans (congrArg some (by kernel_rfl))
 f317:=Tryz.func242.trans (congrArg some (by kernel_rfl))
 f318:=Tryz.func243.trans (congrArg some (by kernel_rfl))
 f319:=Tryz.func244.trans (congrArg some (by kernel_rfl))
 f320:=Tryz.func245.trans (congrArg some (by kernel_rfl))
 f337:=Tryz.func272.trans (congrArg some (by kernel_rfl))
 f338:=Tryz.func273.trans (congrArg some (by kernel_rfl))
 t0:=Tryz.underlying0
 a0:=Tryz.isAgg0
 z0:=Tryz.sizeOf0
 v0:=Tryz.zeroValue0
 t2:=Tryz.underlying2
 a2:=Tryz.isAgg2
 z2:=Tryz.sizeOf2
 v2:=Tryz.zeroValue2
 t3:=Tryz.underlying3
 a3:=Tryz.isAgg3
 z3:=Tryz.sizeOf3
 v3:=Tryz.zeroValue3
 t4:=Tryz.underlying4
 a4:=Tryz.isAgg4
 z4:=Tryz.sizeOf4
 v4:=Tryz.zeroValue4
 t5:=Tryz.underlying5
 a5:=Tryz.isAgg5
 z5:=Tryz.sizeOf5
 v5:=Tryz.zeroValue5
 t9:=Tryz.underlying9
 a9:=Tryz.isAgg9
 z9:=Tryz.sizeOf9
 v9:=Tryz.zeroValue9
 t20:=Tryz.underlying20
 a20:=Tryz.isAgg20
 z20:=Tryz.sizeOf20
 v20:=Tryz.zeroValue20
 t37:=Tryz.underlying22
 a37:=Tryz.isAgg22
 z37:=Tryz.sizeOf22
 v37:=Tryz.zeroValue22
 t46:=Tryz.underlying180
 a46:=Tryz.isAgg180
 z46:=Tryz.sizeOf180
 v46:=Tryz.zeroValue180
 t51:=Tryz.underlying222
 a51:=Tryz.isAgg222
 z51:=Tryz.sizeOf222
 v51:=Tryz.zeroValue222
 t53:=Tryz.underlying114
 a53:=Tryz.isAgg114
 z53:=Tryz.sizeOf114
 v53:=Tryz.zeroValue114
 t171:=Tryz.underlying201
 a171:=Tryz.isAgg201
 z171:=Tryz.sizeOf201
 v171:=Tryz.zeroValue201
 t173:=Tryz.underlying204
 a173:=Tryz.isAgg204
 z173:=Tryz.sizeOf204
 v173:=Tryz.zeroValue204
 t212:=Tryz.underlying243
 a212:=Tryz.isAgg243
 z212:=Tryz.sizeOf243
 v212:=Tryz.zeroValue243
 t213:=Tryz.underlying244
 a213:=Tryz.isAgg244
 z213:=Tryz.sizeOf244
 t232:=Tryz.underlying273
 a232:=Tryz.isAgg273
 z232:=Tryz.sizeOf273
 v232:=Tryz.zeroValue273
 t233:=Tryz.underlying274
 a233:=Tryz.isAgg274
 z233:=Tryz.sizeOf274
 v233:=Tryz.zeroValue274
 g17:=by kernel_rfl
 g18:=by kernel_rfl
 g19:=by kernel_rfl
 i0:=by kernel_rfl
 i2:=by kernel_rfl
 i3:=by kernel_rfl
 i4:=by kernel_rfl
 i5:=by kernel_rfl
 i9:=by kernel_rfl
 i20:=by kernel_rfl
 i37:=by kernel_rfl
 i46:=by kernel_rfl
 i51:=by kernel_rfl
 i53:=by kernel_rfl
 i171:=by kernel_rfl
 i173:=by kernel_rfl
 i212:=by kernel_rfl
 i232:=by kernel_rfl
 i233:=by kernel_rfl
 m17:=by kernel_rfl
 m18:=by kernel_rfl
 m19:=by kernel_rfl }
theorem YtbchdlelmkmagaaGreatDoor.itoa_any (n : Int) (h0 : -9223372036854775808 ≤ n) (h1 : n ≤ 9223372036854775807) (w : World) (htab : Lib.TabIs Tryz.prog w "internal/strconv.uint64pow10" .u64 Lib.pow10Tab) :
  Calls Tryz.prog 43 #[.int .i64 n] w fun e w'=>e=.returned (.string ⟨(Lib.itoa n).toArray⟩)∧∃ k os,w'=Sort.grow (w.drewN k) os:=Any.strconv_Itoa Tryz.laysItoa n h0 h1 w htab
end Go.Proofs
namespace Go.Proofs.YtbchdlelmkmagaaGreatDoor.VM
open Go Go.RowKit
set_option maxRecDepth 20000
set_option linter.unusedVariables false
set_option linter.unusedSectionVars false
noncomputable section
def inL (t:List Nat):Bool:=zcR.any fun u=>seq u t
theorem inL_iff {t:List Nat}:inL t=true↔t ∈ zcR:=by
 unfold inL
 rw [List.any_eq_true]
 constructor
 ·rintro ⟨u,h1,h2⟩
  rw [zci,decide_eq_true_iff] at h2
  subst h2; exact h1
 ·intro h; exact ⟨t,h,by rw [zci,decide_eq_true_iff]⟩
def txH (m:List Nat→Memo):Hook:=fun al h=>match al with
 | [.str t]=>bif inL t then memoH [m t] [.str t] h else none
 | _=>none
theorem txH_ok [Sy] {f:Nat} {m:List Nat→Memo} (hm:∀ t ∈ zcR,ziy Tryz.prog f (m t)):zkC f (txH m):=by
 intro N al h v h' hc σ w xs R hr
 unfold txH at hc
 split at hc
 ·rename_i t
  cases hb:inL t with
  | false=>rw [hb] at hc; cases hc
  | true=>
   rw [hb] at hc
   exact memos_ok (ms:=[m t]) (fun x hx=>by rw [List.mem_singleton.1 hx]; exact hm t (inL_iff.1 hb)) N _ h v h' hc σ w xs R hr
 ·cases hc
theorem eqS_self (t:List Nat):eqS [.str t] [.str t]=true:=by
 have e:∀ l:List Nat,eqN l l=true:=fun l=>by
  induction l with
  | nil=>rfl
  | cons a l ih=>simp [eqN,ih]
 simp [eqS,e]
theorem txH_at {m:List Nat→Memo} {t:List Nat} (h:t ∈ zcR) (ha:(m t).al=[.str t]) (hp:Hp):txH m [.str t] hp=some ((m t).v.ren fun i=>hp.n+i,hp.app ((m t).bs.map (Blk.ren fun i=>hp.n+i))):=by
 unfold txH
 simp only [inL_iff.2 h,cond_true,memoH,ha,eqS_self]
def mayM (t:List Nat):Memo:=⟨[.str t],.bool true,[]⟩
def vlC (v:Vl):List V:=[.int .i64 (v.k:Int),.int .i64 v.n,.str v.s]
def valV (v:Vl):V:=.agg (vlC v)
def plM (t:List Nat):Memo:=⟨[.str t],valV (zgx t),[]⟩
section
variable [Sy]
theorem all_codes {p:List Nat→Prop} (h:∀ c ∈ zh3,p (txt c)):∀ t ∈ zcR,p t:=fun t ht=>by
 unfold zcR at ht
 obtain ⟨c,h1,rfl⟩:=List.mem_map.1 ht
 exact h c h1
theorem mayM_ok (hg:zi7 Tryz.prog Sy.tab zlg):∀ t ∈ zcR,ziy Tryz.prog 47 (mayM t):=fun t ht=>by
 have hk:=List.all_eq_true.1 fM_all t ht
 unfold mOK at hk
 split at hk
 ·rename_i heq
  exact @zi9 _ Tryz.prog (Ed) (envD hg) (@idleD _) (@hooksD _) nameOK 47 3000 6000 [] (mayM t) (by unfold mayM; rw [heq]; simp [V.ren]) rfl rfl (by decide)
 ·cases hk
theorem plM_ok (hg:zi7 Tryz.prog Sy.tab zlg) {f:Nat} (hf:zcR.all (plOK f)=true):∀ t ∈ zcR,ziy Tryz.prog f (plM t):=fun t ht=>by
 have hk:=List.all_eq_true.1 hf t ht
 unfold plOK at hk
 split at hk
 ·rename_i k n s heq
  simp only [Bool.and_eq_true,zci,decide_eq_true_iff,zet] at hk
  obtain ⟨⟨h1,h2⟩,h3⟩:=hk
  have h1:=Nat.eq_of_beq_eq_true h1
  exact @zi9 _ Tryz.prog (Ed) (envD hg) (@idleD _) (@hooksD _) nameOK f 3000 6000 [] (plM t) (by unfold plM valV vlC; rw [heq,h1,h2,h3]; simp [V.ren,V.renL]) rfl rfl (by decide)
 ·cases hk
end
def kidPs:List Nk→List (List V × Nat)
 | []=>[]
 | d::l=>match d.kids with
  | []=>kidPs l
  | _::_=>(zfo d.kids,3)::kidPs l
def zgb (l:List Nk):List (List V × Nat):=(nkCs 1 l,88)::kidPs l
def zfs (h:Hp) (k:Nat) (l:List Nk):Prop:=FragAt h ((List.range (zgb l).length).map (k + ·)) (zgb l)
def ziA:List (List Nk):=zcR.filterMap nksT
def trRun (f:Nat) (l:List Nk):Option V:=(zax Ed (exec Ed 3000) f [.slo 0 0 l.length l.length 14] (fragH (zgb l))).map (·.1)
def trOK (f:Nat) (l:List Nk):Bool:=match trRun f l with
 | some (.bool true)=>true
 | _=>false
theorem trP_all:ziA.all (trOK 36)=true:=by kernel_rfl
theorem trR_all:ziA.all (trOK 53)=true:=by kernel_rfl
open Classical in
def treeH:Hook:=fun al h=>match al with
 | [v]=>if ∃ l k,l ∈ ziA∧v=.slo k 0 l.length l.length 14∧zfs h k l then some (.bool true,h) else none
 | _=>none
theorem treeH_at {h:Hp} {k:Nat} {l:List Nk} (hl:l ∈ ziA) (hn:zfs h k l):treeH [.slo k 0 l.length l.length 14] h=some (.bool true,h):=by
 unfold treeH
 simp only
 rw [if_pos ⟨l,k,hl,rfl,hn⟩]
theorem treeH_ok [Sy] (hg:zi7 Tryz.prog Sy.tab zlg) {f:Nat} (hf:ziA.all (trOK f)=true):zkC f treeH:=by
 intro N al h v h' hc σ w xs R hr
 unfold treeH at hc
 split at hc
 ·rename_i u
  split at hc
  ·rename_i hex
   cases hc
   obtain ⟨l,k,hl,rfl,hn⟩:=hex
   have hk:=List.all_eq_true.1 hf l hl
   unfold trOK at hk
   split at hk
   ·rename_i heq
    refine @frag_ok _ Tryz.prog (Ed) (envD hg) (@idleD _) (@hooksD _) nameOK f 3000 [.slo 0 0 l.length l.length 14] (.bool true) (zgb l) heq rfl N σ h w xs _ R hn ?_
    have e:rn ((List.range (zgb l).length).map (k + ·)) h.n 0=k:=by
     unfold rn zgb
     simp [List.range_succ_eq_map]
    simp only [V.renL,V.ren,e]
    exact hr
   ·cases hk
  ·cases hc
 ·cases hc
open Classical in
def dgH:Hook:=fun al h=>match al with
 | [.int .i64 n]=>if zar n then some (.str (digL n),h) else none
 | _=>none
theorem dig_str (n:Int):(⟨(Lib.itoa n).toArray⟩:ByteArray)=zR (digL n):=by
 unfold zR digL
 congr 1
 rw [List.map_map]
 have e:(Lib.itoa n).map (Nat.toUInt8 ∘ UInt8.toNat)=Lib.itoa n:=(List.map_congr_left fun x _=>by simp).trans (List.map_id _)
 rw [e]
theorem dig_lt (n:Int):∀ x ∈ digL n,x < 256:=fun x hx=>by
 unfold digL at hx
 obtain ⟨y,_,rfl⟩:=List.mem_map.1 hx
 exact y.toNat_lt
section
variable [Sy]
theorem dgH_ok {f:Nat} {fn:Func} (hf:Tryz.prog.funcs[f]? = some fn) (hb:fn.body.isNone=false) (hc0:∀ (w:World),(∀ p ∈ Sy.tab,w.heap[p.1]? = some p.2)→∀ n:Int,zar n→Calls Tryz.prog f #[.int .i64 n] w fun e w'=>e=.returned (.string ⟨(Lib.itoa n).toArray⟩)∧Below w.heap.size w w'):zkC f dgH:=by
 intro N al h v h' hc σ w xs R hr
 unfold dgH at hc
 split at hc
 ·rename_i n
  split at hc
  ·rename_i hn
   cases hc
   cases hr with | cons _ x _ _ r1 r2=>
   cases r2
   cases r1
   refine hook_of hf hb R (Rep.str _ (dig_lt n)) ?_
   rw [← dig_str]
   exact hc0 w (fun p hp=>(R.tab p hp).2) n hn
  ·cases hc
 ·cases hc
end
def Tab (w : World) : Prop := Lib.TabIs Tryz.prog w "internal/strconv.uint64pow10" .u64 Lib.pow10Tab
def hkD:List (Nat × Hook):=(15,memoH txM)::(5,memoH [zgl])::(47,txH mayM)::(20,txH zft)::(11,txH zft)::(17,txH plM)::(13,txH plM)::(36,treeH)::(53,treeH)::(43,dgH)::(38,dgH)::hkB
def EE:Env:=Env.of Tryz.prog (hooksOf hkD) idles (soG zlg)
theorem awake_ok (h:Hp):Ans EE 5 [] h fun v h'=>v=.bool true∧h'=h.app []:=
 ⟨_,_,Cs.hook (g:=memoH [zgl]) (by kernel_rfl) rfl,rfl,rfl⟩
structure GlOK (tab:List (Nat × Obj)):Prop where
 g:zi7 Tryz.prog tab zlg
 t:∀ w:World,(∀ p ∈ tab,w.heap[p.1]? = some p.2)→Tab w
theorem hkD_ok [Sy] (hg:GlOK Sy.tab):∀ p ∈ hkD,zkC p.1 p.2:=fun p hp=>by
 simp only [hkD,List.mem_cons] at hp
 rcases hp with rfl | rfl | rfl | rfl | rfl | rfl | rfl | rfl | rfl | rfl | rfl | hp
 ·exact memos_ok (txM_ok hg.g)
 ·exact memos_ok fun m hm=>by rw [List.mem_singleton.1 hm]; exact awakeMemo_ok
 ·exact txH_ok (mayM_ok hg.g)
 ·exact txH_ok (all_codes (fF_ok hg.g))
 ·exact txH_ok (all_codes (fR_ok hg.g))
 ·exact txH_ok (plM_ok hg.g fPlA)
 ·exact txH_ok (plM_ok hg.g fPlB)
 ·exact treeH_ok hg.g trP_all
 ·exact treeH_ok hg.g trR_all
 ·exact dgH_ok Tryz.func43 (by kernel_rfl) fun w hw n hn=>(itoa_any n hn.1 hn.2 w (hg.t w hw)).mono fun e w' ⟨h1,k,os,h2⟩=>⟨h1,by subst h2; exact Lib.below_grow w.heap.size w (Nat.le_refl _) k os⟩
 ·exact dgH_ok Tryz.func38 (by kernel_rfl) fun w _ n hn=>rdig_any w n ⟨hn.1,hn.2⟩
 ·exact hkB_ok p hp
theorem hooksEE [Sy] (hg:GlOK Sy.tab):zgV Tryz.prog EE:=fun f g hf=>hooksOf_ok (l:=hkD) (hkD_ok hg) hf
theorem envEE [Sy] (hg:GlOK Sy.tab):EnvOK Tryz.prog EE:=soG_ok hg.g _ _
theorem idleEE [Sy]:ziD Tryz.prog EE:=@idleOK _
theorem calls_of_ans [Sy] (hg:GlOK Sy.tab) {f:Nat} {fn:Func} (hf:Tryz.prog.funcs[f]? = some fn) (hb:fn.body.isNone=false) {al:List V} {h:Hp} {Q:V→Hp→Prop} (hc:Ans EE f al h Q) {N:Nat} {σ:Mp} {w:World} {xs:List Value} (R:Rel N σ h w) (hr:RepL σ al xs):
  Calls Tryz.prog f xs.toArray w fun e w''=>∃ v h' x,Q v h'∧e=.returned x∧Does N σ h w v h' x w'':=by
 obtain ⟨v,h',⟨n,hn⟩,hq⟩:=hc
 refine (@runs _ Tryz.prog EE (envEE hg) (@idleEE _) (@hooksEE _ hg) nameOK f fn hf hb al h h' v n hn N σ w xs R hr).mono ?_
 rintro e w2 ⟨x,h1,h2⟩
 exact ⟨v,h',x,hq,h1,h2⟩
end
end Go.Proofs.YtbchdlelmkmagaaGreatDoor.VM
namespace Go.Proofs.YtbchdlelmkmagaaGreatDoor.VM
open Go Go.RowKit
set_option linter.unusedVariables false
set_option linter.unusedSectionVars false
variable [Sy]
noncomputable section
structure Told (v:V) (x:Value):Prop where
 rep:∀ σ,Rep σ v x
 int:∀ k n,x=.int k n→v=.int k n
 str:∀ s,x=.string s→v=.str (strOf s)
theorem exL {l:List Value} (hl:∀ y ∈ l,∃ v:V,Told v y):∃ vs:List V,(∀ σ,RepL σ vs l)∧∀ (i:Nat) (x:Value),l[i]? = some x→∃ v,vs[i]? = some v∧Told v x:=by
 induction l with
 | nil=>exact ⟨[],fun _=>.nil,fun i x h=>by simp at h⟩
 | cons y l ih=>
  obtain ⟨v,hv⟩:=hl y (by simp)
  obtain ⟨vs,hvs,h2⟩:=ih fun z hz=>hl z (by simp [hz])
  refine ⟨v::vs,fun σ=>.cons _ _ _ _ (hv.rep σ) (hvs σ),fun i x h=>?_⟩
  cases i with
  | zero=>simp at h; subst h; exact ⟨v,rfl,hv⟩
  | succ i=>simpa using h2 i x (by simpa using h)
theorem exV (y:Value):∃ v:V,Told v y:=by
 obtain ⟨x,hx⟩:∃ x,x=y:=⟨_,rfl⟩
 rw [← hx]
 by_cases h:x.oneCell'=true
 ·by_cases hi:∃ k n,x=.int k n
  ·obtain ⟨k,n,rfl⟩:=hi
   exact ⟨.int k n,fun _=>.int k n,fun _ _ e=>(by cases e; rfl),fun _ e=>(by cases e)⟩
  ·by_cases hs:∃ s,x=.string s
   ·obtain ⟨s,rfl⟩:=hs
    refine ⟨.str (strOf s),fun σ=>?_,fun _ _ e=>(by cases e),fun _ e=>(by cases e; rfl)⟩
    have:=Rep.str (σ:=σ) (strOf s) (strOf_lt s)
    rwa [bytesOf_strOf] at this
   ·exact ⟨.any,fun _=>.any x h,fun k n e=>absurd ⟨k,n,e⟩ hi,fun s e=>absurd ⟨s,e⟩ hs⟩
 ·match x,hx,h with
  | .agg cs,hx,_=>
   have hm:∀ z ∈ cs.toList,∃ v:V,Told v z:=fun z hz=>by
    have hz':z ∈ cs:=by simpa using hz
    have h1:=Array.sizeOf_lt_of_mem hz'
    have h2:SizeOf.sizeOf z < SizeOf.sizeOf y:=by rw [← hx]; simp; omega
    exact exV z
   obtain ⟨vs,hvs,_⟩:=exL hm
   exact ⟨.agg vs,fun σ=>.agg vs cs.toList (hvs σ),fun _ _ e=>(by cases e),fun _ e=>(by cases e)⟩
  | .tuple cs,hx,_=>
   have hm:∀ z ∈ cs.toList,∃ v:V,Told v z:=fun z hz=>by
    have hz':z ∈ cs:=by simpa using hz
    have h1:=Array.sizeOf_lt_of_mem hz'
    have h2:SizeOf.sizeOf z < SizeOf.sizeOf y:=by rw [← hx]; simp; omega
    exact exV z
   obtain ⟨vs,hvs,_⟩:=exL hm
   exact ⟨.tup vs,fun σ=>.tup vs cs.toList (hvs σ),fun _ _ e=>(by cases e),fun _ e=>(by cases e)⟩
 termination_by SizeOf.sizeOf y
def RdO (h:Hp) (v:V) (len:Nat) (cs:List V):Prop:=(v=.emp∧len=0)∨∃ b off vs,zas h b=some vs∧sub vs off len=some cs∧∃ cap,v=.sl b off len cap
def V.block?:V→Option Nat
 | .sl b _ _ _=>some b
 | _=>none
theorem Hp.n_new' (h:Hp) (b:Blk):(h.new b).n=h.n+1:=rfl
structure Opened (w:World) (bs:List Nat) (h:Hp) (σ:Mp):Prop where
 rel:Rel w.heap.size σ h w
 n:h.n=bs.length
 at_:∀ (i b:Nat) (arr:Array Value) (e:TypeId) (fz:Nat × Nat),bs[i]? = some b→w.heap[b]? = some (.cells arr e fz)→σ i=some (b,arr.size)∧∃ vs:List V,zas h i=some vs∧∀ (j:Nat) (x:Value),arr[j]? = some x→∃ v,vs[j]? = some v∧Told v x
 only:∀ i b m,σ i=some (b,m)→bs[i]? = some b
theorem opened_nil (w:World) (ht:∀ p ∈ Sy.tab,p.1 < w.heap.size∧w.heap[p.1]? = some p.2):Opened w [] ⟨.leaf,0⟩ (fun _=>none):=⟨Rel.none w ht,rfl,fun i b _ _ _ h=>(by simp at h),fun _ _ _ h=>(by cases h)⟩
theorem opened_snoc {w:World} {bs:List Nat} {h:Hp} {σ:Mp} (O:Opened w bs h σ) {b:Nat} (hb:b ∉ bs) {arr:Array Value} {e:TypeId} {fz:Nat × Nat} (hw:w.heap[b]? = some (.cells arr e fz)):∃ h' σ',Opened w (bs++[b]) h' σ':=by
 obtain ⟨vs,hvs,hv2⟩:=exL (l:=arr.toList) fun y _=>exV y
 have hbl:=(Array.getElem?_eq_some_iff.1 hw).1
 have hfree:∀ C m,σ C ≠ some (b,m):=fun C m hC=>hb (List.mem_of_getElem? (O.only C b m hC))
 have hn:=O.n
 have hnone:σ h.n=Option.none:=O.rel.free
 have R:=O.rel.more (.cells vs e true)
 have hle:Mp.le σ (σ.put h.n (b,arr.size)):=Mp.le_put hnone
 have key:∀ C c m,(σ.put h.n (b,arr.size)) C=some (c,m)→(C=h.n∧c=b∧m=arr.size)∨σ C=some (c,m):=fun C c m hC=>by
  unfold Mp.put at hC
  split at hC
  ·rename_i e; cases hC; exact .inl ⟨e,rfl,rfl⟩
  ·exact .inr hC
 have hnew:(h.new (.cells vs e true)).t.get h.n=some (.cells vs e true):=by rw [Hp.get_new,if_pos rfl]
 refine ⟨h.new (.cells vs e true),σ.put h.n (b,arr.size),⟨⟨fun C c m hC=>?_,fun C D c m q hC hD=>?_,fun C c m hC hlt=>?_,O.rel.base,O.rel.tab⟩,by simp [Hp.n_new',hn],fun i b' arr' e' fz' hi hw'=>?_,fun C c m hC=>?_⟩⟩
 ·rcases key C c m hC with ⟨rfl,rfl,rfl⟩ | h1
  ·refine ⟨Nat.lt_succ_self _,hbl,_,hnew,fun o ho=>?_⟩
   rw [hw] at ho; cases ho
   exact ⟨arr.toList,[],fz,by simp,hvs _,by simp,fun h=>by cases h⟩
  ·obtain ⟨h2,h3,k2,h4,h5⟩:=R.has C c m h1
   exact ⟨h2,h3,k2,h4,fun o ho=>(h5 o ho).mono hle⟩
 ·rcases key C c m hC with ⟨rfl,rfl,rfl⟩ | h1 <;> rcases key D c q hD with ⟨e1,e2,e3⟩ | h2
  ·exact .inl e1.symm
  ·exact absurd h2 (hfree _ _)
  ·subst e2; exact absurd h1 (hfree _ _)
  ·exact R.inj C D c m q h1 h2
 ·rcases key C c m hC with ⟨rfl,rfl,rfl⟩ | h1
  ·exact .inl ⟨vs,e,hnew⟩
  ·exact R.old C c m h1 hlt
 ·by_cases hil:i < bs.length
  ·rw [List.getElem?_append_left hil] at hi
   obtain ⟨h1,us,h2,h3⟩:=O.at_ i b' arr' e' fz' hi hw'
   refine ⟨hle _ _ h1,us,?_,h3⟩
   unfold zas at h2 ⊢
   rw [Hp.get_new,if_neg (by omega)]
   exact h2
  ·rw [List.getElem?_append_right (by omega)] at hi
   have h0:i=bs.length:=by
    have:=(List.getElem?_eq_some_iff.1 hi).1
    simp at this; omega
   subst h0
   simp at hi
   subst hi
   rw [hw] at hw'; cases hw'
   rw [← hn]
   refine ⟨Mp.put_same _ _ _,vs,by unfold zas; rw [hnew],fun j x hx=>hv2 j x (by simpa using hx)⟩
 ·rcases key C c m hC with ⟨rfl,rfl,rfl⟩ | h1
  ·rw [hn]; simp
  ·have:=O.only C c m h1
   rw [List.getElem?_append_left (List.getElem?_eq_some_iff.1 this).1]
   exact this
theorem opened_all (w:World) (ht:∀ p ∈ Sy.tab,p.1 < w.heap.size∧w.heap[p.1]? = some p.2):∀ (bs:List Nat),(∀ b ∈ bs,∃ arr e fz,w.heap[b]? = some (.cells arr e fz))→∃ cs h σ,(∀ b ∈ bs,b ∈ cs)∧Opened w cs h σ
 | [],_=>⟨[],_,_,fun _ h=>h,opened_nil w ht⟩
 | b::bs,hb=>by
  obtain ⟨cs,h,σ,h1,O⟩:=opened_all w ht bs fun c hc=>hb c (by simp [hc])
  by_cases hm:b ∈ cs
  ·refine ⟨cs,h,σ,fun c hc=>?_,O⟩
   rcases List.mem_cons.1 hc with rfl | hc
   ·exact hm
   ·exact h1 c hc
  ·obtain ⟨arr,e,fz,hw⟩:=hb b (by simp)
   obtain ⟨h',σ',O'⟩:=opened_snoc O hm hw
   refine ⟨cs++[b],h',σ',fun c hc=>?_,O'⟩
   rcases List.mem_cons.1 hc with rfl | hc
   ·simp
   ·simp [h1 c hc]
def blocksOf {α:Type} (A:Option Addr) (l:List α):List Nat:=match A,l with
 | some a,_::_=>[a.block]
 | _,_=>[]
theorem blocks_ok {α:Type} {f:α→Value} {w:World} {A:Option Addr} {l:List α} (h:At1 f w A l):∀ b ∈ blocksOf A l,∃ arr e fz,w.heap[b]? = some (.cells arr e fz):=by
 intro b hb
 unfold blocksOf at hb
 split at hb
 ·rename_i a x l'
  simp at hb; subst hb
  obtain ⟨ad,e,hc⟩:=h.2 (by simp)
  cases e
  have:=hc 0 x rfl
  unfold World.cell? at this
  rw [block_of_add] at this
  split at this
  ·rename_i c t f hh; exact ⟨_,_,_,hh⟩
  ·cases this
 ·simp at hb
theorem opened_list {α:Type} {f:α→Value} {g:α→V} (hfg:∀ x v,Told v (f x)→v=g x) {w:World} {cs:List Nat} {h:Hp} {σ:Mp} (O:Opened w cs h σ) {A:Option Addr} {l:List α} {c:Nat} (hA:At1 f w A l) (hb:∀ b ∈ blocksOf A l,b ∈ cs):
  ∃ v,Rep σ v (.slice A l.length c)∧RdO h v l.length (l.map g)∧∀ b,v.block? = some b→b < h.n:=by
 cases l with
 | nil=>exact ⟨.emp,.emp _ _,.inl ⟨rfl,rfl⟩,fun b h=>by cases h⟩
 | cons x l=>
  obtain ⟨ad,rfl,hc⟩:=hA.2 (by simp)
  obtain ⟨i,hi⟩:=List.mem_iff_getElem?.1 (hb ad.block (by simp [blocksOf]))
  have h0:=hc 0 x rfl
  have hsp:ad.spot=none∧∃ arr e fz,w.heap[ad.block]? = some (.cells arr e fz):=by
   unfold World.cell? at h0
   rw [block_of_add] at h0
   split at h0
   ·rename_i arr e fz hh
    split at h0
    ·cases h0
    ·rename_i hs
     refine ⟨?_,arr,e,fz,hh⟩
     unfold Addr.add at hs
     split at hs <;> simp_all
   ·cases h0
  obtain ⟨hs,arr,e,fz,hw⟩:=hsp
  obtain ⟨b,o,s⟩:=ad
  simp only at hs hw hi
  subst hs
  obtain ⟨h1,vs,h2,h3⟩:=O.at_ i b arr e fz hi hw
  have hin:=(List.getElem?_eq_some_iff.1 hi).1
  refine ⟨.sl i o (x::l).length c,.sl _ _ _ _ _ _ h1,.inr ⟨i,o,vs,h2,?_,_,rfl⟩,fun b' hb'=>by cases hb'; rw [O.n]; exact hin⟩
  have key:(vs.drop o).take (x::l).length=(x::l).map g:=by
   apply List.ext_getElem?
   intro j
   rw [List.getElem?_take,List.getElem?_map]
   split
   ·rename_i hj
    have hl:(x::l)[j]? = some (x::l)[j]:=List.getElem?_eq_getElem hj
    have hcj:=hc j _ hl
    rw [zcZ] at hcj
    simp only [World.cell?,hw,Option.isSome_none,Bool.false_eq_true,if_false] at hcj
    obtain ⟨v,g1,g2⟩:=h3 _ _ hcj
    rw [List.getElem?_drop,g1,hl,Option.map_some,hfg _ _ g2]
   ·rw [List.getElem?_eq_none (by omega)]; rfl
  unfold sub
  rw [key]
  simp
end
end Go.Proofs.YtbchdlelmkmagaaGreatDoor.VM
namespace Go.Proofs.YtbchdlelmkmagaaGreatDoor
open Go Go.RowKit VM
set_option linter.unusedVariables false
set_option maxRecDepth 20000
def Tabs (W:World):Prop:=Tab W∧∃ u v ty fz,W.heap[0]? = some (.cells #[.iface u v] ty fz)
theorem iface_at (W : World) {s : String} {d : DataW Unit} (hL : laidMet Tryz.prog [("strconv.ErrSyntax", .iface s d)] W) : ∃ u v ty fz, W.heap[0]? = some (.cells #[.iface u v] ty fz) := by
 obtain ⟨ps,⟨g,t,cs,fuel,p,q,h1,h2,h3,h4,_⟩,_⟩:=hL
 have e1 : Tryz.prog.globalNamed "strconv.ErrSyntax" = some 0 := by kernel_rfl
 have e2:(Tryz.prog.globals[0]?).map (·.type)=some 116:=by kernel_rfl
 rw [e1] at h1
 cases h1
 rw [e2] at h2
 cases h2
 cases fuel with
 | zero=>cases h4
 | succ fuel=>
  obtain ⟨ms,hu⟩:∃ ms,Tryz.prog.underlying 116=some (.interface ms):=⟨_,Tryz.underlying116⟩
  have key:∃ u v,cs.toList=[.iface u v]:=by
   generalize cs.toList=l at h4 ⊢
   unfold DataW.trod at h4
   simp only [hu] at h4
   rcases l with _ | ⟨x,_ | ⟨y,r⟩⟩
   ·cases h4
   ·cases x <;> first | exact ⟨_,_,rfl⟩ | (cases h4; done)
   ·cases x <;> (cases h4; done)
  obtain ⟨u,v,hcs⟩:=key
  obtain rfl:cs = #[.iface u v]:=Array.toList_inj.1 (by rw [hcs])
  unfold World.var? at h3
  rw [e1] at h3
  simp only [Option.bind_some] at h3
  split at h3
  ·rename_i cs2 ty fz hh
   cases h3
   exact ⟨u,v,ty,fz,hh⟩
  ·cases h3
@[reducible] def syE (obj o2:Obj):Sy:=⟨fun _=>0,fun _=>[],[(2,obj),(0,o2)],fun g=>(g,0)⟩
theorem glOK_of {W:World} (htabs:Tabs W):∃ obj o2,GlOK (syE obj o2).tab∧∀ p ∈ (syE obj o2).tab,p.1 < W.heap.size∧W.heap[p.1]? = some p.2:=by
 obtain ⟨htab,u,v,ty,fz,he⟩:=htabs
 have hg : Tryz.prog.globalNamed "internal/strconv.uint64pow10" = some 2 := by kernel_rfl
 obtain ⟨obj,hobj⟩:∃ obj,W.heap[2]? = some obj:=by
  cases hw:W.heap[2]? with
  | some o=>exact ⟨o,rfl⟩
  | none=>
   exfalso
   unfold Tab Lib.TabIs World.var? at htab
   simp [hg,hw] at htab
 obtain ⟨o2,ho2⟩:∃ o2,o2=Obj.cells #[.iface u v] ty fz:=⟨_,rfl⟩
 rw [← ho2] at he
 refine ⟨obj,o2,⟨?_,fun w hw=>?_⟩,fun p hp=>?_⟩
 ·intro p hp w hw
  have hp2:=List.mem_singleton.1 hp
  subst hp2
  have h1:=hw (0,o2) (List.mem_cons_of_mem _ (List.mem_singleton.2 rfl))
  simp only [ho2] at h1
  refine ⟨.iface u v,?_,rfl⟩
  have e3:(isAgg 116).run Tryz.prog w=.ok false w:=by
   letI:=syE obj o2
   rw [run_isAgg Tryz.underlying116]
   rfl
  simp only [loadVar,Sem.run_bind,e3,Result.andThen_ok,Bool.false_eq_true,if_false]
  simp [World.cell?,h1]
 ·have h1:=hw (2,obj) List.mem_cons_self
  have h2:=htab
  unfold Tab Lib.TabIs World.var? at h2 ⊢
  simp only [hg,Option.bind_some,hobj] at h2 ⊢
  rw [h1]
  exact h2
 ·have hp:p ∈ [(2,obj),(0,o2)]:=hp
  simp only [List.mem_cons,List.not_mem_nil,or_false] at hp
  rcases hp with rfl | rfl
  ·exact ⟨(Array.getElem?_eq_some_iff.1 hobj).1,hobj⟩
  ·exact ⟨(Array.getElem?_eq_some_iff.1 he).1,he⟩
theorem told_byte [Sy] (x:UInt8) (v:V) (t:VM.Told v (vByte x)):v=.int .u8 (x.toNat:Int):=t.int _ _ rfl
theorem rd_of {h:Hp} {v:V} {l:List UInt8} (r:RdO h v l.length (l.map fun x=>V.int .u8 (x.toNat:Int))):Rd h 1 v (l.map UInt8.toNat).length ((l.map UInt8.toNat).map fun (n:Nat)=>V.int .u8 (n:Int)):=by
 have e:((l.map UInt8.toNat).map fun (n:Nat)=>V.int .u8 (n:Int))=l.map fun x=>V.int .u8 (x.toNat:Int):=by rw [List.map_map]; rfl
 rcases r with ⟨rfl,h0⟩ | ⟨b,off,vs,h1,h2,c,rfl⟩
 ·exact ⟨by simp,.inl ⟨.inr rfl,by simpa using h0⟩⟩
 ·exact ⟨by simp,.inr ⟨b,off,vs,h1,by rw [List.length_map,Nat.mul_one]; exact h2.trans (by rw [← e]),.inl ⟨c,by rw [List.length_map]⟩⟩⟩
theorem in_of {n:Nat} {v:V} {h:Hp} {len:Nat} {cs:List V} (r:RdO h v len cs) (hv:∀ b,v.block? = some b→b < n):In n v:=by
 intro b hb
 rcases r with ⟨rfl,_⟩ | ⟨b',off,vs,h1,h2,c,rfl⟩
 ·cases hb
 ·exact hv b hb
theorem u8_lt (l:List UInt8):∀ x ∈ l.map UInt8.toNat,x < 256:=fun x hx=>by
 obtain ⟨y,_,rfl⟩:=List.mem_map.1 hx
 exact y.toNat_lt
end Go.Proofs.YtbchdlelmkmagaaGreatDoor
namespace Go.Proofs.YtbchdlelmkmagaaGreatDoor.VM
open Go
set_option linter.unusedVariables false
noncomputable section
abbrev LL:=Nat→List V→Hp→Prop
abbrev QQ:=V→Hp→Prop
structure Fl where
 fn:Func
 c:Code
 ls:List (List Bool × List Nat)
def pickS (s:Sl) (l:List Nat):List V:=List.rec (motive:=fun _=>List V) [] (fun i _ ih=>nth s i::ih) l
def cutL:List (List Bool × List Nat)→List Bool→Bool
 | [],_=>false
 | a::r,π=>bif eqB a.1 π then true else cutL r π
def goL (l:LL) (s:Sl) (h:Hp) (π:List Bool):List (List Bool × List Nat)→Nat→Prop
 | [],_=>False
 | a::r,k=>bif eqB a.1 π then l k (pickS s a.2) h else goL l s h π r (k+1)
def XL (ls:List (List Bool × List Nat)) (l:LL):Lb:=fun π s h d=>match d with
 | []=>goL l s h π ls 1
 | _=>False
def Fl.K (F:Fl) (p:Pr) (E:Env) (l:LL) (Q:QQ) (path:List Bool) (s:Sl) (h:Hp):Prop:=KAt p E (cutL F.ls) (XL F.ls l) F.c [] path (finK p F.fn Q) s h []
def Fl.L (F:Fl) (E:Env) (Q:QQ):LL:=fun k vs h=>match F.ls[k - 1]? with
 | some a=>∀ s:List V,s.length=F.fn.ntmps→pickS s a.2=vs→Lab E F.fn F.c Q a.1 s h []
 | none=>False
theorem goL_out {F:Fl} {E:Env} {Q:QQ} {s:Sl} {h:Hp} {π:List Bool} (hl:s.length=F.fn.ntmps):∀ (r:List (List Bool × List Nat)) (k:Nat),1≤k→F.ls.drop (k - 1)=r→goL (F.L E Q) s h π r k→Lab E F.fn F.c Q π s h []
 | [],_,_,_,hx=>hx.elim
 | a::r,k,h1,hr,hx=>by
  have hk:F.ls[k - 1]? = some a:=by
   have:(F.ls.drop (k - 1))[0]? = some a:=by rw [hr]; rfl
   rwa [List.getElem?_drop,Nat.add_zero] at this
  rw [goL] at hx
  cases he:eqB a.1 π with
  | true=>
   rw [he,cond_true] at hx
   simp only [Fl.L,hk] at hx
   rw [← eqB_eq he]
   exact hx s hl rfl
  | false=>
   rw [he,cond_false] at hx
   refine goL_out hl r (k+1) (by omega) ?_ hx
   have:=congrArg (List.drop 1) hr
   rw [List.drop_drop] at this
   rw [show k+1 - 1=k - 1+1 by omega]
   exact this
theorem oL (F:Fl) {E:Env} {Q:QQ}:∀ π s h d,XL F.ls (F.L E Q) π s h d→s.length=F.fn.ntmps→Lab E F.fn F.c Q π s h d:=by
 intro π s h d hx hl
 cases d with
 | cons _ _=>exact hx.elim
 | nil=>exact goL_out hl F.ls 1 (by omega) rfl hx
theorem labR {F:Fl} {E:Env} {Q:QQ} {k:Nat} {a:List Bool × List Nat} (hk:F.ls[k - 1]? = some a) {vs:List V} {h:Hp} {path:List Bool} (hp:path.reverse=a.1) (H:∀ s:Sl,pickS s a.2=vs→F.K (Pu E) E (F.L E Q) Q path (nths s F.fn.ntmps 0) h):F.L E Q k vs h:=by
 simp only [Fl.L,hk]
 intro s hl hv
 have h1:=H s hv
 rw [← nth_all hl] at h1
 rw [← hp]
 exact lab_ofX (oL F) path h1
theorem ansL {F:Fl} {E:Env} {Q:QQ} {f:Nat} {al:List V} {h:Hp} (hk:E.hook f=none) (hf:E.fn.get f=some F.fn) (hb:F.fn.body=some F.c) (hl0:Nat.ble al.length F.fn.ntmps=true) (H:F.K (Pu E) E (F.L E Q) Q [] (al++List.replicate (F.fn.ntmps - al.length) zj) h):Ans E f al h Q:=
 ans_of hk hf hb hl0 (lab_ofX (oL F) [] H)
end
end Go.Proofs.YtbchdlelmkmagaaGreatDoor.VM
namespace Go.Proofs.YtbchdlelmkmagaaGreatDoor.VM
open Go
set_option linter.unusedVariables false
set_option maxRecDepth 100000
noncomputable section
noncomputable def c_r7_AllSpots:Code:=match Tryz.f50.body with | some c=>c | none=>.skip
noncomputable def zaM:Fl:=⟨Tryz.f50,c_r7_AllSpots,[([false,true,false,true,true],[1,3,4]),([false,true,false,false,true,false,false,true,false,true,true],[1,3,4,5]),([false,true,false,false,true,false,false,true,false,false,true,false,false,true,false,true,true],[1,3,4,5,6])]⟩
abbrev zgp (Q:QQ) (v1 v3 v4:V) (h:Hp):Prop:=zaM.L EE Q 1 [v1,v3,v4] h
abbrev zga (Q:QQ) (v1 v3 v4 v5:V) (h:Hp):Prop:=zaM.L EE Q 2 [v1,v3,v4,v5] h
abbrev zjG (Q:QQ) (v1 v3 v4 v5 v6:V) (h:Hp):Prop:=zaM.L EE Q 3 [v1,v3,v4,v5,v6] h
noncomputable def zf9 (p:Pr) (l:LL) (Q:QQ) (v0:V) (h:Hp):Prop:=
 p.box h 26 v0 fun x1 h2 b3=>
 l 1 [x1,.nils,(.int .i64 0)] h2
theorem q_r7_AllSpots_0 (p:Pr) (l:LL) (Q:QQ) (v0:V) (h:Hp):zf9 p l Q v0 h=zaM.K p EE l Q [] ([v0]++List.replicate 51 zj) h:=by kernel_rfl
theorem a_r7_AllSpots {Q:QQ} {v0:V} {h:Hp} (H:zf9 (Pu EE) (zaM.L EE Q) Q v0 h):Ans EE 50 [v0] h Q:=
 ansL (F:=zaM) (by kernel_rfl) (by kernel_rfl) (by kernel_rfl) (by kernel_rfl) (cast (q_r7_AllSpots_0 _ _ _ v0 h) H)
noncomputable def zdS (p:Pr) (l:LL) (Q:QQ) (v1 v3 v4:V) (h:Hp):Prop:=
 p.faddr 26 v1 0 fun x1=>
 p.load h 24 x1 fun x2=>
 p.lbui h #[24] .len [x2] fun x3=>
 p.bin .lss 3 false false v4 x3 fun x4=>
 p.cond x4
 (fun _=>
  l 2 [v1,v3,v4,(.int .i64 0)] h)
 (fun _=>
  Q v3 h)
theorem q_r7_AllSpots_1 (p:Pr) (l:LL) (Q:QQ) (s:List V) (h:Hp):zdS p l Q (nth s 1) (nth s 3) (nth s 4) h=zaM.K p EE l Q [true,true,false,true,false] (nths s 52 0) h:=by kernel_rfl
theorem zjV {Q:QQ} {v1 v3 v4:V} {h:Hp} (H:zdS (Pu EE) (zaM.L EE Q) Q v1 v3 v4 h):zgp Q v1 v3 v4 h:=
 labR (path:=[true,true,false,true,false]) rfl rfl fun s e=>by cases e; exact cast (q_r7_AllSpots_1 _ _ _ s h) H
noncomputable def zdC (p:Pr) (l:LL) (Q:QQ) (v1 v3 v4 v5:V) (h:Hp):Prop:=
 p.faddr 26 v1 0 fun x1=>
 p.load h 24 x1 fun x2=>
 p.iaddr 24 x2 v4 fun x3=>
 p.faddr 38 x3 2 fun x4=>
 p.load h 36 x4 fun x5=>
 p.lbui h #[36] .len [x5] fun x6=>
 p.bin .lss 3 false false v5 x6 fun x7=>
 p.cond x7
 (fun _=>
  l 3 [v1,v3,v4,v5,(.int .i64 0)] h)
 (fun _=>
  p.bin .add 3 false true v4 (.int .i64 1) fun x8=>
  l 1 [v1,v3,x8] h)
theorem q_r7_AllSpots_2 (p:Pr) (l:LL) (Q:QQ) (s:List V) (h:Hp):zdC p l Q (nth s 1) (nth s 3) (nth s 4) (nth s 5) h=zaM.K p EE l Q [true,true,false,true,false,false,true,false,false,true,false] (nths s 52 0) h:=by kernel_rfl
theorem ziQ {Q:QQ} {v1 v3 v4 v5:V} {h:Hp} (H:zdC (Pu EE) (zaM.L EE Q) Q v1 v3 v4 v5 h):zga Q v1 v3 v4 v5 h:=
 labR (path:=[true,true,false,true,false,false,true,false,false,true,false]) rfl rfl fun s e=>by cases e; exact cast (q_r7_AllSpots_2 _ _ _ s h) H
noncomputable def zea (p:Pr) (l:LL) (Q:QQ) (v1 v3 v4 v5 v6:V) (h:Hp):Prop:=
 p.faddr 26 v1 0 fun x1=>
 p.load h 24 x1 fun x2=>
 p.iaddr 24 x2 v4 fun x3=>
 p.faddr 38 x3 2 fun x4=>
 p.load h 36 x4 fun x5=>
 p.iaddr 36 x5 v5 fun x6=>
 p.load h 40 x6 fun x7=>
 p.lbui h #[40] .len [x7] fun x8=>
 p.bin .lss 3 false false v6 x8 fun x9=>
 p.cond x9
 (fun _=>
  p.faddr 26 v1 0 fun x10=>
  p.load h 24 x10 fun x11=>
  p.iaddr 24 x11 v4 fun x12=>
  p.faddr 38 x12 0 fun x13=>
  p.load h 9 x13 fun x14=>
  p.build 42 [(0,x14),(1,v5),(2,v6)] fun x15=>
  p.bsl h 32 1 [(0,x15)] fun x16 h17 b18=>
  p.ebui h17 #[32,32] .append [v3,x16] fun x19 h20=>
  p.bin .add 3 false true v6 (.int .i64 1) fun x21=>
  l 3 [v1,x19,v4,v5,x21] h20)
 (fun _=>
  p.bin .add 3 false true v5 (.int .i64 1) fun x22=>
  l 2 [v1,v3,v4,x22] h)
theorem q_r7_AllSpots_3 (p:Pr) (l:LL) (Q:QQ) (s:List V) (h:Hp):zea p l Q (nth s 1) (nth s 3) (nth s 4) (nth s 5) (nth s 6) h=zaM.K p EE l Q [true,true,false,true,false,false,true,false,false,true,false,false,true,false,false,true,false] (nths s 52 0) h:=by kernel_rfl
theorem ziO {Q:QQ} {v1 v3 v4 v5 v6:V} {h:Hp} (H:zea (Pu EE) (zaM.L EE Q) Q v1 v3 v4 v5 v6 h):zjG Q v1 v3 v4 v5 v6 h:=
 labR (path:=[true,true,false,true,false,false,true,false,false,true,false,false,true,false,false,true,false]) rfl rfl fun s e=>by cases e; exact cast (q_r7_AllSpots_3 _ _ _ s h) H
noncomputable def c_r7_GetCell:Code:=match Tryz.f12.body with | some c=>c | none=>.skip
noncomputable def zjW:Fl:=⟨Tryz.f12,c_r7_GetCell,[]⟩
noncomputable def zha (p:Pr) (l:LL) (Q:QQ) (v0 v1:V) (h:Hp):Prop:=
 p.box h 26 v0 fun x1 h2 b3=>
 p.box h2 42 v1 fun x4 h5 b6=>
 p.load h5 26 x1 fun x7=>
 p.faddr 42 x4 0 fun x8=>
 p.load h5 9 x8 fun x9=>
 p.call 24 [x7,x9] h5 fun x10 h11=>
 p.bin .lss 3 false true x10 (.int .i64 0) fun x12=>
 p.gval x12 false (fun k13=>
  p.faddr 26 x1 0 fun x14=>
  k13 x14) fun x15=>
 p.gval x12 false (fun k16=>
  p.load h11 24 x15 fun x17=>
  k16 x17) fun x18=>
 p.gval x12 false (fun k19=>
  k19 x10) fun x20=>
 p.gval x12 false (fun k21=>
  p.iaddr 24 x18 x20 fun x22=>
  k21 x22) fun x23=>
 p.gval x12 false (fun k24=>
  p.load h11 38 x23 fun x25=>
  k24 x25) fun x26=>
 p.gval x12 false (fun k27=>
  p.faddr 42 x4 1 fun x28=>
  k27 x28) fun x29=>
 p.gval x12 false (fun k30=>
  p.load h11 3 x29 fun x31=>
  k30 x31) fun x32=>
 p.gval x12 false (fun k33=>
  p.faddr 42 x4 2 fun x34=>
  k33 x34) fun x35=>
 p.gval x12 false (fun k36=>
  p.load h11 3 x35 fun x37=>
  k36 x37) fun x38=>
 p.geff x12 false (fun k39=>
  p.call 33 [x26,x32,x38] h11 fun x40 h41=>
  k39 x40 h41) h11 fun x42 h43=>
 p.gval x12 false (fun k44=>
  p.un .not x42 fun x45=>
  k44 x45) fun x46=>
 p.pick x12 (some (.bool true)) (some x46) fun x47=>
 p.cond x47
 (fun _=>
  Q (.str []) h43)
 (fun _=>
  p.faddr 26 x1 0 fun x48=>
  p.load h43 24 x48 fun x49=>
  p.iaddr 24 x49 x10 fun x50=>
  p.faddr 38 x50 2 fun x51=>
  p.load h43 36 x51 fun x52=>
  p.faddr 42 x4 1 fun x53=>
  p.load h43 3 x53 fun x54=>
  p.iaddr 36 x52 x54 fun x55=>
  p.load h43 40 x55 fun x56=>
  p.faddr 42 x4 2 fun x57=>
  p.load h43 3 x57 fun x58=>
  p.iaddr 40 x56 x58 fun x59=>
  p.load h43 9 x59 fun x60=>
  Q x60 h43)
theorem q_r7_GetCell_0 (p:Pr) (l:LL) (Q:QQ) (v0 v1:V) (h:Hp):zha p l Q v0 v1 h=zjW.K p EE l Q [] ([v0,v1]++List.replicate 37 zj) h:=by kernel_rfl
theorem a_r7_GetCell {Q:QQ} {v0 v1:V} {h:Hp} (H:zha (Pu EE) (zjW.L EE Q) Q v0 v1 h):Ans EE 12 [v0,v1] h Q:=
 ansL (F:=zjW) (by kernel_rfl) (by kernel_rfl) (by kernel_rfl) (by kernel_rfl) (cast (q_r7_GetCell_0 _ _ _ v0 v1 h) H)
noncomputable def c_r7_Find:Code:=match Tryz.f24.body with | some c=>c | none=>.skip
noncomputable def zhH:Fl:=⟨Tryz.f24,c_r7_Find,[([false,true,false,true],[1,2,5])]⟩
abbrev L_r7_Find_1 (Q:QQ) (v1 v2 v5:V) (h:Hp):Prop:=zhH.L EE Q 1 [v1,v2,v5] h
noncomputable def zlp (p:Pr) (l:LL) (Q:QQ) (v0 v1:V) (h:Hp):Prop:=
 p.box h 26 v0 fun x1 h2 b3=>
 l 1 [v1,x1,(.int .i64 0)] h2
theorem q_r7_Find_0 (p:Pr) (l:LL) (Q:QQ) (v0 v1:V) (h:Hp):zlp p l Q v0 v1 h=zhH.K p EE l Q [] ([v0,v1]++List.replicate 20 zj) h:=by kernel_rfl
theorem a_r7_Find {Q:QQ} {v0 v1:V} {h:Hp} (H:zlp (Pu EE) (zhH.L EE Q) Q v0 v1 h):Ans EE 24 [v0,v1] h Q:=
 ansL (F:=zhH) (by kernel_rfl) (by kernel_rfl) (by kernel_rfl) (by kernel_rfl) (cast (q_r7_Find_0 _ _ _ v0 v1 h) H)
noncomputable def zid (p:Pr) (l:LL) (Q:QQ) (v1 v2 v5:V) (h:Hp):Prop:=
 p.faddr 26 v2 0 fun x1=>
 p.load h 24 x1 fun x2=>
 p.lbui h #[24] .len [x2] fun x3=>
 p.bin .lss 3 false false v5 x3 fun x4=>
 p.cond x4
 (fun _=>
  p.faddr 26 v2 0 fun x5=>
  p.load h 24 x5 fun x6=>
  p.iaddr 24 x6 v5 fun x7=>
  p.faddr 38 x7 0 fun x8=>
  p.load h 9 x8 fun x9=>
  p.bin .eql 9 false false x9 v1 fun x10=>
  p.cond x10
  (fun _=>
  Q v5 h)
  (fun _=>
  p.bin .add 3 false true v5 (.int .i64 1) fun x11=>
  l 1 [v1,v2,x11] h))
 (fun _=>
  Q (.int .i64 (-1)) h)
theorem q_r7_Find_1 (p:Pr) (l:LL) (Q:QQ) (s:List V) (h:Hp):zid p l Q (nth s 1) (nth s 2) (nth s 5) h=zhH.K p EE l Q [true,false,true,false] (nths s 22 0) h:=by kernel_rfl
theorem r_r7_Find_1 {Q:QQ} {v1 v2 v5:V} {h:Hp} (H:zid (Pu EE) (zhH.L EE Q) Q v1 v2 v5 h):L_r7_Find_1 Q v1 v2 v5 h:=
 labR (path:=[true,false,true,false]) rfl rfl fun s e=>by cases e; exact cast (q_r7_Find_1 _ _ _ s h) H
noncomputable def c_r7_inside:Code:=match Tryz.f33.body with | some c=>c | none=>.skip
noncomputable def zk8:Fl:=⟨Tryz.f33,c_r7_inside,[]⟩
noncomputable def zio (p:Pr) (l:LL) (Q:QQ) (v0 v1 v2:V) (h:Hp):Prop:=
 p.box h 38 v0 fun x1 h2 b3=>
 p.bin .geq 3 false true v1 (.int .i64 0) fun x4=>
 p.gval x4 true (fun k5=>
  k5 v1) fun x6=>
 p.gval x4 true (fun k7=>
  p.faddr 38 x1 2 fun x8=>
  k7 x8) fun x9=>
 p.gval x4 true (fun k10=>
  p.load h2 36 x9 fun x11=>
  k10 x11) fun x12=>
 p.gval x4 true (fun k13=>
  p.lbui h2 #[36] .len [x12] fun x14=>
  k13 x14) fun x15=>
 p.gval x4 true (fun k16=>
  p.bin .lss 3 false false x6 x15 fun x17=>
  k16 x17) fun x18=>
 p.pick x4 (some x18) (some (.bool false)) fun x19=>
 p.gval x19 true (fun k20=>
  k20 v2) fun x21=>
 p.gval x19 true (fun k22=>
  p.bin .geq 3 false true x21 (.int .i64 0) fun x23=>
  k22 x23) fun x24=>
 p.pick x19 (some x24) (some (.bool false)) fun x25=>
 p.gval x25 true (fun k26=>
  k26 v2) fun x27=>
 p.gval x25 true (fun k28=>
  p.faddr 38 x1 2 fun x29=>
  k28 x29) fun x30=>
 p.gval x25 true (fun k31=>
  p.load h2 36 x30 fun x32=>
  k31 x32) fun x33=>
 p.gval x25 true (fun k34=>
  k34 v1) fun x35=>
 p.gval x25 true (fun k36=>
  p.iaddr 36 x33 x35 fun x37=>
  k36 x37) fun x38=>
 p.gval x25 true (fun k39=>
  p.load h2 40 x38 fun x40=>
  k39 x40) fun x41=>
 p.gval x25 true (fun k42=>
  p.lbui h2 #[40] .len [x41] fun x43=>
  k42 x43) fun x44=>
 p.gval x25 true (fun k45=>
  p.bin .lss 3 false false x27 x44 fun x46=>
  k45 x46) fun x47=>
 p.pick x25 (some x47) (some (.bool false)) fun x48=>
 Q x48 h2
theorem q_r7_inside_0 (p:Pr) (l:LL) (Q:QQ) (v0 v1 v2:V) (h:Hp):zio p l Q v0 v1 v2 h=zk8.K p EE l Q [] ([v0,v1,v2]++List.replicate 27 zj) h:=by kernel_rfl
theorem a_r7_inside {Q:QQ} {v0 v1 v2:V} {h:Hp} (H:zio (Pu EE) (zk8.L EE Q) Q v0 v1 v2 h):Ans EE 33 [v0,v1,v2] h Q:=
 ansL (F:=zk8) (by kernel_rfl) (by kernel_rfl) (by kernel_rfl) (by kernel_rfl) (cast (q_r7_inside_0 _ _ _ v0 v1 v2 h) H)
noncomputable def c_r7_waits:Code:=match Tryz.f52.body with | some c=>c | none=>.skip
noncomputable def zcB:Fl:=⟨Tryz.f52,c_r7_waits,[([false,true,false,true],[0,1,5]),([false,true,false,false,true,false,false,true,false,true],[0,1,5,6])]⟩
abbrev L_r7_waits_1 (Q:QQ) (v0 v1 v5:V) (h:Hp):Prop:=zcB.L EE Q 1 [v0,v1,v5] h
abbrev L_r7_waits_2 (Q:QQ) (v0 v1 v5 v6:V) (h:Hp):Prop:=zcB.L EE Q 2 [v0,v1,v5,v6] h
noncomputable def ziM (p:Pr) (l:LL) (Q:QQ) (v0 v1:V) (h:Hp):Prop:=
 l 1 [v0,v1,(.int .i64 0)] h
theorem q_r7_waits_0 (p:Pr) (l:LL) (Q:QQ) (v0 v1:V) (h:Hp):ziM p l Q v0 v1 h=zcB.K p EE l Q [] ([v0,v1]++List.replicate 26 zj) h:=by kernel_rfl
theorem a_r7_waits {Q:QQ} {v0 v1:V} {h:Hp} (H:ziM (Pu EE) (zcB.L EE Q) Q v0 v1 h):Ans EE 52 [v0,v1] h Q:=
 ansL (F:=zcB) (by kernel_rfl) (by kernel_rfl) (by kernel_rfl) (by kernel_rfl) (cast (q_r7_waits_0 _ _ _ v0 v1 h) H)
noncomputable def zgB (p:Pr) (l:LL) (Q:QQ) (v0 v1 v5:V) (h:Hp):Prop:=
 p.lbui h #[32] .len [v0] fun x1=>
 p.bin .lss 3 false false v5 x1 fun x2=>
 p.cond x2
 (fun _=>
  l 2 [v0,v1,v5,(.int .i64 0)] h)
 (fun _=>
  Q (.bool false) h)
theorem q_r7_waits_1 (p:Pr) (l:LL) (Q:QQ) (s:List V) (h:Hp):zgB p l Q (nth s 0) (nth s 1) (nth s 5) h=zcB.K p EE l Q [true,false,true,false] (nths s 28 0) h:=by kernel_rfl
theorem r_r7_waits_1 {Q:QQ} {v0 v1 v5:V} {h:Hp} (H:zgB (Pu EE) (zcB.L EE Q) Q v0 v1 v5 h):L_r7_waits_1 Q v0 v1 v5 h:=
 labR (path:=[true,false,true,false]) rfl rfl fun s e=>by cases e; exact cast (q_r7_waits_1 _ _ _ s h) H
noncomputable def zgE (p:Pr) (l:LL) (Q:QQ) (v0 v1 v5 v6:V) (h:Hp):Prop:=
 p.lbui h #[32] .len [v1] fun x1=>
 p.bin .lss 3 false false v6 x1 fun x2=>
 p.cond x2
 (fun _=>
  p.iaddr 32 v0 v5 fun x3=>
  p.load h 42 x3 fun x4=>
  p.iaddr 32 v1 v6 fun x5=>
  p.load h 42 x5 fun x6=>
  p.bin .eql 42 false false x4 x6 fun x7=>
  p.cond x7
  (fun _=>
  Q (.bool true) h)
  (fun _=>
  p.bin .add 3 false true v6 (.int .i64 1) fun x8=>
  l 2 [v0,v1,v5,x8] h))
 (fun _=>
  p.bin .add 3 false true v5 (.int .i64 1) fun x9=>
  l 1 [v0,v1,x9] h)
theorem q_r7_waits_2 (p:Pr) (l:LL) (Q:QQ) (s:List V) (h:Hp):zgE p l Q (nth s 0) (nth s 1) (nth s 5) (nth s 6) h=zcB.K p EE l Q [true,false,true,false,false,true,false,false,true,false] (nths s 28 0) h:=by kernel_rfl
theorem r_r7_waits_2 {Q:QQ} {v0 v1 v5 v6:V} {h:Hp} (H:zgE (Pu EE) (zcB.L EE Q) Q v0 v1 v5 v6 h):L_r7_waits_2 Q v0 v1 v5 v6 h:=
 labR (path:=[true,false,true,false,false,true,false,false,true,false]) rfl rfl fun s e=>by cases e; exact cast (q_r7_waits_2 _ _ _ s h) H
noncomputable def c_r7_named:Code:=match Tryz.f81.body with | some c=>c | none=>.skip
noncomputable def zbz:Fl:=⟨Tryz.f81,c_r7_named,[([false,true,false,true],[0,1,5,7]),([true,true,true,false,false,true,false,false,true,false,true],[0,1,5,7,8,9]),([true,true,true,true,true,false,false,true,false,false,true,false,true],[0,1,5,7,8,9,10])]⟩
abbrev zjY (Q:QQ) (v0 v1 v5 v7:V) (h:Hp):Prop:=zbz.L EE Q 1 [v0,v1,v5,v7] h
abbrev L_r7_named_2 (Q:QQ) (v0 v1 v5 v7 v8 v9:V) (h:Hp):Prop:=zbz.L EE Q 2 [v0,v1,v5,v7,v8,v9] h
abbrev zjF (Q:QQ) (v0 v1 v5 v7 v8 v9 v10:V) (h:Hp):Prop:=zbz.L EE Q 3 [v0,v1,v5,v7,v8,v9,v10] h
noncomputable def zjO (p:Pr) (l:LL) (Q:QQ) (v0 v1 v2:V) (h:Hp):Prop:=
 p.box h 42 v2 fun x1 h2 b3=>
 l 1 [v0,v1,x1,(.int .i64 0)] h2
theorem q_r7_named_0 (p:Pr) (l:LL) (Q:QQ) (v0 v1 v2:V) (h:Hp):zjO p l Q v0 v1 v2 h=zbz.K p EE l Q [] ([v0,v1,v2]++List.replicate 75 zj) h:=by kernel_rfl
theorem a_r7_named {Q:QQ} {v0 v1 v2:V} {h:Hp} (H:zjO (Pu EE) (zbz.L EE Q) Q v0 v1 v2 h):Ans EE 81 [v0,v1,v2] h Q:=
 ansL (F:=zbz) (by kernel_rfl) (by kernel_rfl) (by kernel_rfl) (by kernel_rfl) (cast (q_r7_named_0 _ _ _ v0 v1 v2 h) H)
noncomputable def zgP (p:Pr) (l:LL) (Q:QQ) (v0 v1 v5 v7:V) (h:Hp):Prop:=
 p.lbui h #[43] .len [v0] fun x1=>
 p.bin .lss 3 false false v7 x1 fun x2=>
 p.cond x2
 (fun _=>
  p.iaddr 43 v0 v7 fun x3=>
  p.load h 88 x3 fun x4=>
  p.alloc h 88 fun x5 h6 b7=>
  p.store h6 88 x5 x4 fun h8=>
  p.faddr 88 x5 3 fun x9=>
  p.faddr 85 x9 0 fun x10=>
  p.load h8 9 x10 fun x11=>
  p.bin .eql 9 false true x11 (.str []) fun x12=>
  p.cond x12
  (fun _=>
  l 2 [v0,v1,v5,v7,x5,v1] h8)
  (fun _=>
  l 2 [v0,v1,v5,v7,x5,x11] h8))
 (fun _=>
  Q (.bool false) h)
theorem q_r7_named_1 (p:Pr) (l:LL) (Q:QQ) (s:List V) (h:Hp):zgP p l Q (nth s 0) (nth s 1) (nth s 5) (nth s 7) h=zbz.K p EE l Q [true,false,true,false] (nths s 78 0) h:=by kernel_rfl
theorem r_r7_named_1 {Q:QQ} {v0 v1 v5 v7:V} {h:Hp} (H:zgP (Pu EE) (zbz.L EE Q) Q v0 v1 v5 v7 h):zjY Q v0 v1 v5 v7 h:=
 labR (path:=[true,false,true,false]) rfl rfl fun s e=>by cases e; exact cast (q_r7_named_1 _ _ _ s h) H
noncomputable def zjN (p:Pr) (l:LL) (Q:QQ) (v0 v1 v5 v7 v8 v9:V) (h:Hp):Prop:=
 p.faddr 88 v8 4 fun x1=>
 p.load h 85 x1 fun x2=>
 p.alloc h 85 fun x3 h4 b5=>
 p.store h4 85 x3 x2 fun h6=>
 p.faddr 88 v8 0 fun x7=>
 p.load h6 3 x7 fun x8=>
 p.bin .eql 3 false true x8 (.int .i64 5) fun x9=>
 p.cond x9
 (fun _=>
  p.faddr 88 v8 3 fun x10=>
  p.load h6 85 x10 fun x11=>
  p.store h6 85 x3 x11 fun h12=>
  l 3 [v0,v1,v5,v7,v8,v9,x3] h12)
 (fun _=>
  l 3 [v0,v1,v5,v7,v8,v9,x3] h6)
theorem q_r7_named_2 (p:Pr) (l:LL) (Q:QQ) (s:List V) (h:Hp):zjN p l Q (nth s 0) (nth s 1) (nth s 5) (nth s 7) (nth s 8) (nth s 9) h=zbz.K p EE l Q [true,false,true,false,false,true,false,false,true,true,true] (nths s 78 0) h:=by kernel_rfl
theorem r_r7_named_2 {Q:QQ} {v0 v1 v5 v7 v8 v9:V} {h:Hp} (H:zjN (Pu EE) (zbz.L EE Q) Q v0 v1 v5 v7 v8 v9 h):L_r7_named_2 Q v0 v1 v5 v7 v8 v9 h:=
 labR (path:=[true,false,true,false,false,true,false,false,true,true,true]) rfl rfl fun s e=>by cases e; exact cast (q_r7_named_2 _ _ _ s h) H
noncomputable def zjU (p:Pr) (l:LL) (Q:QQ) (v0 v1 v5 v7 v8 v9 v10:V) (h:Hp):Prop:=
 p.faddr 88 v8 0 fun x1=>
 p.load h 3 x1 fun x2=>
 p.bin .eql 3 false true x2 (.int .i64 5) fun x3=>
 p.gval x3 false (fun k4=>
  p.faddr 88 v8 0 fun x5=>
  k4 x5) fun x6=>
 p.gval x3 false (fun k7=>
  p.load h 3 x6 fun x8=>
  k7 x8) fun x9=>
 p.gval x3 false (fun k10=>
  p.bin .eql 3 false true x9 (.int .i64 6) fun x11=>
  k10 x11) fun x12=>
 p.pick x3 (some (.bool true)) (some x12) fun x13=>
 p.gval x13 true (fun k14=>
  k14 v9) fun x15=>
 p.gval x13 true (fun k16=>
  p.faddr 42 v5 0 fun x17=>
  k16 x17) fun x18=>
 p.gval x13 true (fun k19=>
  p.load h 9 x18 fun x20=>
  k19 x20) fun x21=>
 p.gval x13 true (fun k22=>
  p.bin .eql 9 false false x15 x21 fun x23=>
  k22 x23) fun x24=>
 p.pick x13 (some x24) (some (.bool false)) fun x25=>
 p.gval x25 true (fun k26=>
  p.faddr 42 v5 1 fun x27=>
  k26 x27) fun x28=>
 p.gval x25 true (fun k29=>
  p.load h 3 x28 fun x30=>
  k29 x30) fun x31=>
 p.gval x25 true (fun k32=>
  p.faddr 88 v8 3 fun x33=>
  k32 x33) fun x34=>
 p.gval x25 true (fun k35=>
  p.faddr 85 x34 2 fun x36=>
  k35 x36) fun x37=>
 p.gval x25 true (fun k38=>
  p.load h 3 x37 fun x39=>
  k38 x39) fun x40=>
 p.gval x25 true (fun k41=>
  p.bin .geq 3 false false x31 x40 fun x42=>
  k41 x42) fun x43=>
 p.pick x25 (some x43) (some (.bool false)) fun x44=>
 p.gval x44 true (fun k45=>
  p.faddr 42 v5 1 fun x46=>
  k45 x46) fun x47=>
 p.gval x44 true (fun k48=>
  p.load h 3 x47 fun x49=>
  k48 x49) fun x50=>
 p.gval x44 true (fun k51=>
  p.faddr 85 v10 2 fun x52=>
  k51 x52) fun x53=>
 p.gval x44 true (fun k54=>
  p.load h 3 x53 fun x55=>
  k54 x55) fun x56=>
 p.gval x44 true (fun k57=>
  p.bin .leq 3 false false x50 x56 fun x58=>
  k57 x58) fun x59=>
 p.pick x44 (some x59) (some (.bool false)) fun x60=>
 p.gval x60 true (fun k61=>
  p.faddr 42 v5 2 fun x62=>
  k61 x62) fun x63=>
 p.gval x60 true (fun k64=>
  p.load h 3 x63 fun x65=>
  k64 x65) fun x66=>
 p.gval x60 true (fun k67=>
  p.faddr 88 v8 3 fun x68=>
  k67 x68) fun x69=>
 p.gval x60 true (fun k70=>
  p.faddr 85 x69 1 fun x71=>
  k70 x71) fun x72=>
 p.gval x60 true (fun k73=>
  p.load h 3 x72 fun x74=>
  k73 x74) fun x75=>
 p.gval x60 true (fun k76=>
  p.bin .geq 3 false false x66 x75 fun x77=>
  k76 x77) fun x78=>
 p.pick x60 (some x78) (some (.bool false)) fun x79=>
 p.gval x79 true (fun k80=>
  p.faddr 42 v5 2 fun x81=>
  k80 x81) fun x82=>
 p.gval x79 true (fun k83=>
  p.load h 3 x82 fun x84=>
  k83 x84) fun x85=>
 p.gval x79 true (fun k86=>
  p.faddr 85 v10 1 fun x87=>
  k86 x87) fun x88=>
 p.gval x79 true (fun k89=>
  p.load h 3 x88 fun x90=>
  k89 x90) fun x91=>
 p.gval x79 true (fun k92=>
  p.bin .leq 3 false false x85 x91 fun x93=>
  k92 x93) fun x94=>
 p.pick x79 (some x94) (some (.bool false)) fun x95=>
 p.cond x95
 (fun _=>
  Q (.bool true) h)
 (fun _=>
  p.bin .add 3 false true v7 (.int .i64 1) fun x96=>
  l 1 [v0,v1,v5,x96] h)
theorem q_r7_named_3 (p:Pr) (l:LL) (Q:QQ) (s:List V) (h:Hp):zjU p l Q (nth s 0) (nth s 1) (nth s 5) (nth s 7) (nth s 8) (nth s 9) (nth s 10) h=zbz.K p EE l Q [true,false,true,false,false,true,false,false,true,true,true,true,true] (nths s 78 0) h:=by kernel_rfl
theorem r_r7_named_3 {Q:QQ} {v0 v1 v5 v7 v8 v9 v10:V} {h:Hp} (H:zjU (Pu EE) (zbz.L EE Q) Q v0 v1 v5 v7 v8 v9 v10 h):zjF Q v0 v1 v5 v7 v8 v9 v10 h:=
 labR (path:=[true,false,true,false,false,true,false,false,true,true,true,true,true]) rfl rfl fun s e=>by cases e; exact cast (q_r7_named_3 _ _ _ s h) H
end
end Go.Proofs.YtbchdlelmkmagaaGreatDoor.VM
namespace Go.Proofs.YtbchdlelmkmagaaGreatDoor.VM
open Go
noncomputable section
theorem zy:El EE 26 1 [.nils] true:=zfe (by kernel_rfl) rfl
theorem zH:El EE 38 3 [.str [],.int .i64 0,.nils] true:=zfe (by kernel_rfl) rfl
theorem zhD:IsStr EE 9:=isStr_ (by kernel_rfl)
theorem zL:El EE 9 1 [.str []] false:=zfe (by kernel_rfl) rfl
theorem zbF (b o:Nat) (q:V→Prop):(Pu EE).faddr 38 (.ptr b o) 0 q↔q (.ptr b (o+0)):=zcK (by kernel_rfl) q
theorem i_int:IsInt EE 3 .i64:=isInt (by kernel_rfl)
theorem zm:El EE 3 1 [.int .i64 0] false:=zfe (by kernel_rfl) rfl
theorem zaI (b o:Nat) (q:V→Prop):(Pu EE).faddr 38 (.ptr b o) 1 q↔q (.ptr b (o+1)):=zcK (by kernel_rfl) q
theorem z7:IsSl EE 40 9:=isSl (by kernel_rfl)
theorem zaz:El EE 40 1 [.nils] false:=zfe (by kernel_rfl) rfl
theorem zn:IsSl EE 36 40:=isSl (by kernel_rfl)
theorem zD:El EE 36 1 [.nils] false:=zfe (by kernel_rfl) rfl
theorem zG (b o:Nat) (q:V→Prop):(Pu EE).faddr 38 (.ptr b o) 2 q↔q (.ptr b (o+2)):=zcK (by kernel_rfl) q
theorem so_api_Sheet:ze2 EE 38 [(0,1),(1,1),(2,1)] [.str [],.int .i64 0,.nils]:=zgG (by kernel_rfl)
theorem zl:IsSl EE 24 38:=isSl (by kernel_rfl)
theorem zk:El EE 24 1 [.nils] false:=zfe (by kernel_rfl) rfl
theorem zw (b o:Nat) (q:V→Prop):(Pu EE).faddr 26 (.ptr b o) 0 q↔q (.ptr b (o+0)):=zcK (by kernel_rfl) q
theorem zf:El EE 42 3 [.str [],.int .i64 0,.int .i64 0] true:=zfe (by kernel_rfl) rfl
theorem z8 (b o:Nat) (q:V→Prop):(Pu EE).faddr 42 (.ptr b o) 0 q↔q (.ptr b (o+0)):=zcK (by kernel_rfl) q
theorem zae (b o:Nat) (q:V→Prop):(Pu EE).faddr 42 (.ptr b o) 1 q↔q (.ptr b (o+1)):=zcK (by kernel_rfl) q
theorem zac (b o:Nat) (q:V→Prop):(Pu EE).faddr 42 (.ptr b o) 2 q↔q (.ptr b (o+2)):=zcK (by kernel_rfl) q
theorem so_api_Spot:ze2 EE 42 [(0,1),(1,1),(2,1)] [.str [],.int .i64 0,.int .i64 0]:=zgG (by kernel_rfl)
theorem zbh:El EE 88 14 [.int .i64 0,.int .i64 0,.str [],.str [],.int .i64 0,.int .i64 0,.bool false,.bool false,.str [],.int .i64 0,.int .i64 0,.bool false,.bool false,.nils] true:=zfe (by kernel_rfl) rfl
theorem zE (b o:Nat) (q:V→Prop):(Pu EE).faddr 88 (.ptr b o) 0 q↔q (.ptr b (o+0)):=zcK (by kernel_rfl) q
theorem fa_api_Node_1 (b o:Nat) (q:V→Prop):(Pu EE).faddr 88 (.ptr b o) 1 q↔q (.ptr b (o+1)):=zcK (by kernel_rfl) q
theorem zdM (b o:Nat) (q:V→Prop):(Pu EE).faddr 88 (.ptr b o) 2 q↔q (.ptr b (o+2)):=zcK (by kernel_rfl) q
theorem zck:El EE 85 5 [.str [],.int .i64 0,.int .i64 0,.bool false,.bool false] true:=zfe (by kernel_rfl) rfl
theorem zdk (b o:Nat) (q:V→Prop):(Pu EE).faddr 85 (.ptr b o) 0 q↔q (.ptr b (o+0)):=zcK (by kernel_rfl) q
theorem zZ (b o:Nat) (q:V→Prop):(Pu EE).faddr 85 (.ptr b o) 1 q↔q (.ptr b (o+1)):=zcK (by kernel_rfl) q
theorem zaf (b o:Nat) (q:V→Prop):(Pu EE).faddr 85 (.ptr b o) 2 q↔q (.ptr b (o+2)):=zcK (by kernel_rfl) q
theorem l_bool:El EE 4 1 [.bool false] false:=zfe (by kernel_rfl) rfl
theorem zA (b o:Nat) (q:V→Prop):(Pu EE).faddr 88 (.ptr b o) 3 q↔q (.ptr b (o+3)):=zcK (by kernel_rfl) q
theorem zaL (b o:Nat) (q:V→Prop):(Pu EE).faddr 88 (.ptr b o) 4 q↔q (.ptr b (o+8)):=zcK (by kernel_rfl) q
theorem zbS:IsSl EE 86 3:=isSl (by kernel_rfl)
theorem zc2:El EE 86 1 [.nils] false:=zfe (by kernel_rfl) rfl
theorem zbb (b o:Nat) (q:V→Prop):(Pu EE).faddr 88 (.ptr b o) 5 q↔q (.ptr b (o+13)):=zcK (by kernel_rfl) q
theorem zg:IsSl EE 32 42:=isSl (by kernel_rfl)
theorem zfD:El EE 32 1 [.nils] false:=zfe (by kernel_rfl) rfl
theorem zcY:IsSl EE 81 32:=isSl (by kernel_rfl)
theorem zbM:IsSl EE 43 88:=isSl (by kernel_rfl)
theorem zfI:El EE 43 1 [.nils] false:=zfe (by kernel_rfl) rfl
theorem i_uint8:IsInt EE 5 .u8:=isInt (by kernel_rfl)
theorem l_uint8:El EE 5 1 [.int .u8 0] false:=zfe (by kernel_rfl) rfl
theorem zhp:IsSl EE 22 5:=isSl (by kernel_rfl)
end
end Go.Proofs.YtbchdlelmkmagaaGreatDoor.VM
namespace Go.Proofs.YtbchdlelmkmagaaGreatDoor.VM
open Go
set_option linter.unusedVariables false
set_option linter.unusedSimpArgs false
set_option maxRecDepth 20000
noncomputable section
attribute [local instance] syZ
theorem w64 (n:Nat) (h:n < 9223372036854775808):IntKind.i64.wrap (n:Int)=(n:Int):=by
 unfold IntKind.wrap
 simp [IntKind.bits,IntKind.signed]
 omega
theorem zK (t:Nat) (cx cy:Bool) (n:Nat) (h:n < 9223372036854775807) (q:V→Prop):(Pu EE).bin .add t cx cy (.int .i64 n) (.int .i64 1) q↔q (.int .i64 ((n+1:Nat):Int)):=by
 rw [pu_add]
 have:IntKind.i64.wrap ((n:Int)+1)=((n+1:Nat):Int):=by
  rw [show (n:Int)+1=((n+1:Nat):Int) by omega]
  exact w64 _ (by omega)
 rw [this]
theorem zr (t:Nat) (cx cy:Bool) (a b:Nat) (q:V→Prop):(Pu EE).bin .lss t cx cy (.int .i64 a) (.int .i64 b) q↔q (.bool (decide (a < b))):=by
 rw [zak]
 have:decide ((a:Int) < (b:Int))=decide (a < b):=by rw [decide_eq_decide]; omega
 rw [this]
theorem keySpt:KeyOf EE 42 spV:=keyOf3 Spt.s Spt.r Spt.c (fun _=>rfl) (fun a b=>by obtain ⟨x,y,z⟩:=a; obtain ⟨u,v,w⟩:=b; simp) (by kernel_rfl)
theorem aeq_spt:∃ i,EE.ty.get 42=some i∧∀ a b:Spt,veq EE i (spV a) (spV b)=some (decide (a=b)):=by
 obtain ⟨j,h1,h2⟩:=keySpt
 refine ⟨j,h1,fun a b=>?_⟩
 have h3:=h2 a b
 have hk:∃ fs,j.k=.struct fs:=by
  have e:(EE.ty.get 42).map (fun j=>(match j.k with | .struct _=>true | _=>false))=some true:=by kernel_rfl
  rw [h1] at e
  simp only [Option.map_some,Option.some.injEq] at e
  split at e
  ·rename_i fs h; exact ⟨fs,h⟩
  ·cases e
 obtain ⟨fs,hk⟩:=hk
 unfold veqK at h3
 unfold veq
 rw [hk] at h3 ⊢
 exact h3
theorem pu_speq (cx cy:Bool) (a b:Spt) (q:V→Prop):(Pu EE).bin .eql 42 cx cy (spV a) (spV b) q↔q (.bool (decide (a=b))):=by
 obtain ⟨i,h1,h2⟩:=aeq_spt
 show (∃ v,vbinB EE .eql 42 cx cy (spV a) (spV b)=some v∧q v)↔_
 have:vbinB EE .eql 42 cx cy (spV a) (spV b)=some (.bool (decide (a=b))):=by
  show eqOp .eql ((EE.ty.get 42).bind fun i=>veq EE i (spV a) (spV b))=_
  rw [h1,Option.bind_some,h2]
  rfl
 rw [this,zT]
theorem zcd {α:Type} {l:List α} {i:Nat} (h:i < l.length):l.drop i=l[i]::l.drop (i+1):=by rw [List.drop_eq_getElem_cons h]
theorem waits_loop (Q:V→Hp→Prop) (h:Hp) (v u:V) (l m:List Spt) (hv:Sps h v l) (hu:Sps h u m) (hb:l.length < 1000000) (hb2:m.length < 1000000):∀ (k i:Nat),l.length - i=k→i≤l.length→(∀ b:Bool,b=waits (l.drop i) m→Q (.bool b) h)→L_r7_waits_1 Q v u (.int .i64 i) h:=by
 intro k
 induction k with
 | zero=>
  intro i hk hi hq
  apply r_r7_waits_1
  unfold zgB
  rw [zp hv zg,zr,zi]
  refine ⟨fun h1=>absurd h1 (by omega),fun _=>hq false ?_⟩
  rw [List.drop_eq_nil_of_le (by omega)]
  rfl
 | succ k ih=>
  intro i hk hi hq
  apply r_r7_waits_1
  unfold zgB
  rw [zp hv zg,zr,zi]
  refine ⟨fun h1=>?_,fun h1=>absurd (by omega) h1⟩
  have inner:∀ (d j:Nat),m.length - j=d→j≤m.length→(∀ b:Bool,b=((m.drop j).contains l[i] || waits (l.drop (i+1)) m)→Q (.bool b) h)→L_r7_waits_2 Q v u (.int .i64 i) (.int .i64 j) h:=by
   intro d
   induction d with
   | zero=>
    intro j hd hj hq2
    apply r_r7_waits_2
    unfold zgE
    rw [zp hu zg,zr,zi]
    refine ⟨fun h2=>absurd h2 (by omega),fun _=>?_⟩
    rw [zK _ _ _ _ (by omega)]
    refine ih (i+1) (by omega) (by omega) fun b e=>hq2 b ?_
    rw [List.drop_eq_nil_of_le (by omega:m.length≤j),e]
    rfl
   | succ d ihd=>
    intro j hd hj hq2
    apply r_r7_waits_2
    unfold zgE
    rw [zp hu zg,zr,zi]
    refine ⟨fun h2=>?_,fun h2=>absurd (by omega) h2⟩
    obtain ⟨b1,o1,g1,g2,_⟩:=zaT hv zg zf (List.getElem?_eq_getElem h1)
    obtain ⟨b2,o2,g3,g4,_⟩:=zaT hu zg zf (List.getElem?_eq_getElem h2)
    rw [g1,g2,g3,g4,pu_speq,zi]
    rw [zcd h2] at hq2
    refine ⟨fun h3=>hq2 true ?_,fun h3=>?_⟩
    ·rw [List.contains_cons,h3,beq_self_eq_true,Bool.true_or,Bool.true_or]
    ·rw [zK _ _ _ _ (by omega)]
     refine ihd (j+1) (by omega) (by omega) fun b e=>hq2 b ?_
     have h4:(l[i] == m[j])=false:=by simpa using h3
     rw [e,List.contains_cons,h4,Bool.false_or]
  refine inner m.length 0 (by omega) (by omega) fun b e=>hq b ?_
  rw [e,zcd h1]
  rfl
theorem waits_ok (h:Hp) (v u:V) (l m:List Spt) (hv:Sps h v l) (hu:Sps h u m) (hb:l.length < 1000000) (hb2:m.length < 1000000):Ans EE 52 [v,u] h fun x h'=>x=.bool (waits l m)∧h'=h:=by
 apply a_r7_waits
 unfold ziM
 exact waits_loop _ h v u l m hv hu hb hb2 l.length 0 (by omega) (by omega) fun b e=>⟨by rw [e]; rfl,rfl⟩
def atI (l:List Spt) (s:Spt):Int:=match atR l s 0 with
 | some j=>j
 | none=>-1
def zcm:Bok→List Nat→Nat→Option Nat
 | [],_,_=>none
 | s::b,nm,i=>if s.name=nm then some i else zcm b nm (i+1)
def zkn (b:Bok) (nm:List Nat):Int:=match zcm b nm 0 with
 | some j=>j
 | none=>-1
theorem zbY {nm:List Nat}:∀ {b:Bok} {i j:Nat},zcm b nm i=some j→i≤j∧∃ s,b[j - i]? = some s∧s.name=nm∧findR b nm=some s
 | [],i,j,h=>by cases h
 | s::b,i,j,h=>by
  rw [zcm] at h
  by_cases e:s.name=nm
  ·rw [if_pos e] at h
   cases h
   refine ⟨Nat.le_refl _,s,by simp,e,?_⟩
   unfold findR
   rw [List.find?_cons]
   simp [e]
  ·rw [if_neg e] at h
   obtain ⟨h1,t,h2,h3,h4⟩:=zbY h
   refine ⟨by omega,t,?_,h3,?_⟩
   ·rw [show j - i=(j - (i+1))+1 by omega]; exact h2
   ·unfold findR at h4 ⊢
    rw [List.find?_cons]
    simp [e,h4]
theorem zfN {nm:List Nat}:∀ {b:Bok} {i:Nat},zcm b nm i=none→findR b nm=none
 | [],i,h=>rfl
 | s::b,i,h=>by
  rw [zcm] at h
  by_cases e:s.name=nm
  ·rw [if_pos e] at h; cases h
  ·rw [if_neg e] at h
   have:=zfN h
   unfold findR at this ⊢
   rw [List.find?_cons]
   simp [e,this]
theorem find_loop (Q:V→Hp→Prop) (N:Nat) (h:Hp) (sv:V) (bk:Bok) (nm:List Nat) (b:Nat) (hv:zdB N h sv bk) (hs:h.t.get b=some (.cells [sv] 26 false)) (hb:bk.length < 1000000):∀ (k i:Nat),bk.length - i=k→i≤bk.length →
  (∀ z:Int,z=(match zcm (bk.drop i) nm i with | some j=>(j:Int) | none=>-1)→Q (.int .i64 z) h)→L_r7_Find_1 Q (.str nm) (.ptr b 0) (.int .i64 i) h:=by
 obtain ⟨cs,hrd⟩:=hv.rd
 intro k
 induction k with
 | zero=>
  intro i hk hi hq
  apply r_r7_Find_1
  unfold zid
  rw [zw,za zk hs rfl,zp hrd zl,zr,zi]
  refine ⟨fun h1=>absurd h1 (by omega),fun _=>hq (-1) ?_⟩
  rw [List.drop_eq_nil_of_le (by omega)]
  rfl
 | succ k ih=>
  intro i hk hi hq
  apply r_r7_Find_1
  unfold zid
  rw [zw,za zk hs rfl,zp hrd zl,zr,zi]
  refine ⟨fun h1=>?_,fun h1=>absurd (by omega) h1⟩
  obtain ⟨b1,o1,rv,g1,g2,g3,vs,f,ro,g4,g5⟩:=zbu hv zl zH (List.getElem?_eq_getElem h1)
  rw [zw,za zk hs rfl,g1,zbF,za zL g4 (g5 0 _ rfl),zbj,zi]
  rw [zcd h1] at hq
  simp only [zcm] at hq
  refine ⟨fun h3=>hq i ?_,fun h3=>?_⟩
  ·rw [if_pos h3]
  ·rw [if_neg h3] at hq
   rw [zK _ _ _ _ (by omega)]
   exact ih (i+1) (by omega) (by omega) hq
theorem rfind_ok (N:Nat) (h:Hp) (v:V) (bk:Bok) (nm:List Nat) (hv:zir N h v bk) (hN:N≤h.n) (hb:bk.length < 1000000):Ans EE 24 [v,.str nm] h fun x h'=>x=.int .i64 (zkn bk nm)∧Ext h.n h h':=by
 obtain ⟨sv,rfl,hs⟩:=hv
 apply a_r7_Find
 unfold zlp
 obtain ⟨cs,hrd⟩:=hs.rd
 refine zW (cs:=[sv]) (by have:=hrd.c1; simp [zh,this.2]) fun h1 b w=>?_
 have hx:=w.ext (Nat.le_refl _)
 refine find_loop _ N h1 sv bk nm b (hs.ext (hx.mono hN)) w.at_ hb bk.length 0 (by omega) (by omega) fun z e=>⟨?_,hx⟩
 rw [e]; rfl
def insideB (s:Sht) (r c:Nat):Bool:=match s.rows[r]? with
 | some row=>decide (c < row.length)
 | none=>false
theorem inside_ok (N:Nat) (h:Hp) (s:Sht) (rv:V) (r c:Nat) (hv:zdz N h rv s.rows) (hN:N≤h.n) (hC:C1 rv):Ans EE 33 [.agg (shtC s rv),.int .i64 r,.int .i64 c] h fun x h'=>x=.bool (insideB s r c)∧Ext h.n h h':=by
 apply a_r7_inside
 unfold zio
 have hcl:zh (shtC s rv)=true:=by
  show (bif rv.isCell then zh [] else false)=true
  rw [hC.2]; rfl
 refine zW (cs:=shtC s rv) hcl fun h1 b w=>?_
 have hx:=w.ext (Nat.le_refl _)
 have hv1:=hv.ext (hx.mono hN)
 obtain ⟨vs,hrd⟩:=hv1.rd
 have p0:∀ n:Nat,decide ((0:Int)≤(n:Int))=true:=fun n=>decide_eq_true (by omega)
 rw [pu_geq,p0]
 simp only [zu,zB]
 rw [zG,za zD w.at_ rfl,zp hrd zn,zr]
 unfold insideB
 by_cases hr:r < s.rows.length
 ·rw [decide_eq_true hr]
  simp only [zu,zB]
  obtain ⟨b2,o2,w2,g1,g2,g3⟩:=zbU hv1 zn zaz (List.getElem?_eq_getElem hr)
  rw [pu_geq,p0]
  simp only [zu,zB]
  rw [zG,za zD w.at_ rfl,g1,g2,zp g3.1 z7,zr,List.getElem?_eq_getElem hr]
  exact ⟨rfl,hx⟩
 ·rw [decide_eq_false hr]
  simp only [zS,zo]
  rw [List.getElem?_eq_none (by omega)]
  exact ⟨rfl,hx⟩
def getC (bk:Bok) (s:Spt):List Nat:=match findR bk s.s with
 | none=>[]
 | some t=>match t.rows[s.r]? with
  | none=>[]
  | some row=>(row[s.c]?).getD []
theorem rget_ok (N:Nat) (h:Hp) (v:V) (bk:Bok) (s:Spt) (hv:zir N h v bk) (hN:N≤h.n) (hb:bk.length < 1000000):Ans EE 12 [v,spV s] h fun x h'=>x=.str (getC bk s)∧Ext h.n h h':=by
 have hv0:=hv
 obtain ⟨sv,rfl,hs⟩:=hv
 obtain ⟨cs,hrd⟩:=hs.rd
 have hcell:zh [sv]=true:=by have:=hrd.c1; simp [zh,this.2]
 apply a_r7_GetCell
 unfold zha
 refine zW (cs:=[sv]) hcell fun h1 b1 w1=>?_
 refine zW (cs:=spC s) rfl fun h2 b2 w2=>?_
 have n1:=w1.n
 have n2:=w2.n
 have e1:=w1.b
 have e2:=w2.b
 have hx1:=w1.ext (Nat.le_refl h.n)
 have hx2:Ext h.n h h2:=hx1.trans (w2.ext (by omega))
 have hb1:h2.t.get b1=some (.cells [sv] 26 false):=by rw [w2.old b1 (by omega)]; exact w1.at_
 rw [zd zy hb1 (l:=[sv]) rfl,z8,za zL w2.at_ rfl]
 have hv2:=hv0.ext (hx2.mono hN)
 refine (rfind_ok N h2 _ bk s.s hv2 (by omega) hb).mono ?_
 rintro x h3 ⟨rfl,hx3⟩
 have hx:Ext h.n h h3:=hx2.trans (hx3.mono (by omega))
 have hs3:=hs.ext (hx.mono hN)
 have hb13:h3.t.get b1=some (.cells [sv] 26 false):=by rw [hx3.old b1 (by omega)]; exact hb1
 have hb23:h3.t.get b2=some (.cells (spC s) 42 false):=by rw [hx3.old b2 (by omega)]; exact w2.at_
 have hn3:=hx3.n
 unfold zkn getC
 cases hf:zcm bk s.s 0 with
 | none=>
  rw [zfN hf]
  simp only
  rw [zak,decide_eq_true (by decide:(-1:Int) < 0)]
  simp only [zaH,pu_geff_tf,zB,zc]
  exact ⟨by first | trivial | rfl,hx⟩
 | some j=>
  obtain ⟨_,t,ht,hnm,hfr⟩:=zbY hf
  rw [Nat.sub_zero] at ht
  rw [hfr]
  simp only
  obtain ⟨b4,o4,rv,g1,g2,g3,vs,f,ro,g4,g5⟩:=zbu hs3 zl zH ht
  rw [zak,decide_eq_false (by omega:¬ ((j:Int) < 0))]
  simp only [zu,ze9,zo,zw]
  rw [za zk hb13 rfl,g1,g2,zae,za zm hb23 rfl,zac,za zm hb23 rfl]
  have hrv:C1 rv:=by obtain ⟨us,hu⟩:=g3.rd; exact hu.c1
  refine (inside_ok N h3 t rv s.r s.c g3 (by omega) hrv).mono ?_
  rintro x h4 ⟨rfl,hx4⟩
  have hx5:Ext h.n h h4:=hx.trans (hx4.mono (by omega))
  rw [zaE]
  unfold insideB
  cases hrow:t.rows[s.r]? with
  | none=>
   simp only [Bool.not_false,zc]
   exact ⟨by first | trivial | rfl,hx5⟩
  | some row=>
   simp only [zjI]
   refine ⟨fun h9=>?_,fun h9=>?_⟩
   ·rw [List.getElem?_eq_none (by omega)]
    exact ⟨by first | trivial | rfl,hx5⟩
   ·have hb14:h4.t.get b1=some (.cells [sv] 26 false):=by rw [hx4.old b1 (by omega)]; exact hb13
    have hb24:h4.t.get b2=some (.cells (spC s) 42 false):=by rw [hx4.old b2 (by omega)]; exact hb23
    have hs4:=hs.ext (hx5.mono hN)
    obtain ⟨b6,o6,rv6,k1,k2,k3,vs6,f6,ro6,k4,k5⟩:=zbu hs4 zl zH ht
    rw [za zk hb14 rfl,k1,zG,za zD k4 (k5 2 _ rfl),zae,za zm hb24 rfl]
    obtain ⟨b7,o7,w7,m1,m2,m3⟩:=zbU k3 zn zaz hrow
    rw [m1,m2,zac,za zm hb24 rfl]
    obtain ⟨b8,o8,m4,m5⟩:=row_get m3 z7 zL (List.getElem?_eq_getElem h9)
    rw [m4,m5,List.getElem?_eq_getElem h9]
    exact ⟨by first | trivial | rfl,hx5⟩
end
end Go.Proofs.YtbchdlelmkmagaaGreatDoor.VM
namespace Go.Proofs.YtbchdlelmkmagaaGreatDoor.VM
open Go
set_option linter.unusedVariables false
set_option linter.unusedSimpArgs false
set_option linter.unusedSectionVars false
set_option maxRecDepth 20000
noncomputable section
attribute [local instance] syZ
theorem noIntS:∃ iu,EE.ty.get 32=some iu∧∀ k,iu.k ≠ .int k:=by
 obtain ⟨i,h1,h2⟩:=zg; exact ⟨i,h1,fun k=>by rw [h2]; simp⟩
theorem mk_spot (s:List Nat) (r c:Nat) (q:V→Prop):(Pu EE).build 42 [(0,.str s),(1,.int .i64 r),(2,.int .i64 c)] q↔q (spV ⟨s,r,c⟩):=
 zaD so_api_Spot _ (by simp [zcU,c1_str]) rfl q
abbrev OwnS (N:Nat) (h:Hp) (v:V) (l:List Spt):Prop:=Own N h v 42 3 l.length (spCs l)
theorem OwnS.sps {N:Nat} {h:Hp} {v:V} {l:List Spt} (o:OwnS N h v l):Sps h v l:=o.rd
theorem OwnS.nil (N:Nat) (h:Hp):OwnS N h .nils []:=Own.nil _ _ _ _
theorem zcg {N:Nat} {h:Hp} {v:V} {l:List Spt} (o:OwnS N h v l) (s:Spt) (hlen:l.length+1≤1048576) (hN:N≤h.n) (q:V→Hp→Prop)
  (hq:∀ v' h',OwnS N h' v' (l++[s])→Ext N h h'→(∀ c,c < h.n→zI v ≠ some c→h'.t.get c=h.t.get c)→(∀ c,zI v'=some c→zI v=some c∨h.n≤c)→q v' h'):
  (Pu EE).bsl h 32 1 [(0,spV s)] fun x h1 _=>(Pu EE).ebui h1 #[32,32] .append [v,x] q:=by
 rw [zcL zg zf _ rfl (by omega)]
 have o1:OwnS N (h.new (.cells (spC s) 42 false)) v l:=o.keep (Nat.le_succ _) (fun c hc=>by rw [Hp.get_new,if_neg (Nat.ne_of_lt (o.in_ c hc))])
 obtain ⟨v',h',h1,h2,h3,h4,h5⟩:=zdj (ts:=#[32,32]) o1 rfl rfl zg noIntS zf (zfx (zfu (h:=h) (e:=42) (ws:=spC s) rfl).rd).1 (fun e=>by cases e) rfl hlen (Nat.le_succ_of_le hN)
 refine (h1 q).2 (hq v' h' ?_ ((Ext.new hN _).trans h3) (fun c hc hne=>?_) (fun c hc=>?_))
 ·have e:spCs (l++[s])=spCs l++spC s:=by rw [spCs_app]; simp [spCs]
  show Own _ _ _ _ _ (l++[s]).length _
  rw [List.length_append,e]
  exact h2
 ·rw [h4 c (Nat.lt_succ_of_lt hc) hne,Hp.get_new,if_neg (Nat.ne_of_lt hc)]
 ·rcases h5 c hc with h6 | h6
  ·exact .inl h6
  ·exact .inr (Nat.le_of_succ_le h6)
theorem colsL_end {nm:List Nat} {r c n:Nat} (h:n≤c):zjc nm r c n=[]:=by
 unfold zjc
 rw [show n - c=0 by omega]; rfl
theorem colsL_step {nm:List Nat} {r c n:Nat} (h:c < n):zjc nm r c n=⟨nm,r,c⟩::zjc nm r (c+1) n:=by
 unfold zjc
 rw [show n - c=(n - (c+1))+1 by omega,List.range_succ_eq_map,List.map_cons,List.map_map]
 congr 1
 apply List.map_congr_left
 intro i _
 simp only [Function.comp]
 congr 1
 omega
theorem rowSpots_cols (nm:List Nat) (r:Nat) (row:List (List Nat)):ze6 nm r row=zjc nm r 0 row.length:=by
 unfold ze6 zjc
 simp
section
variable (Q:V→Hp→Prop) (h0:Hp) (M N:Nat) (bk:Bok) (sv:V) (b:Nat)
structure AS (h:Hp) (v:V) (acc:List Spt):Prop where
 bk:zdB M h sv bk
 box:h.t.get b=some (.cells [sv] 26 false)
 own:OwnS N h v acc
 n:N≤h.n
 ext:Ext N h0 h
variable (hM:M≤N) (hbN:b < N) (hfit:(zJ bk).length≤1000000) (hbl:bk.length < 1000000) (hrl:∀ s ∈ bk,s.rows.length < 1000000∧∀ row ∈ s.rows,row.length < 1000000)
include hM hbN
theorem AS.next {h h':Hp} {v v':V} {acc acc':List Spt} (a:AS h0 M N bk sv b h v acc) (x:Ext N h h') (o:OwnS N h' v' acc'):AS h0 M N bk sv b h' v' acc':=
 ⟨a.bk.ext (x.mono hM),by rw [x.old b hbN]; exact a.box,o,Nat.le_trans a.n x.n,a.ext.trans x⟩
include hfit hrl hbl
theorem all_loop3 (i r:Nat) (s:Sht) (row:List (List Nat)) (hs:bk[i]? = some s) (hrow:s.rows[r]? = some row)
  (hnext:∀ (h:Hp) (v:V) (acc:List Spt),AS h0 M N bk sv b h v acc→acc++(zbl s.name (r+1) (s.rows.drop (r+1))++zJ (bk.drop (i+1)))=zJ bk→zga Q (.ptr b 0) v (.int .i64 i) (.int .i64 (r+1:Nat)) h):
  ∀ (k c:Nat),row.length - c=k→∀ (h:Hp) (v:V) (acc:List Spt),AS h0 M N bk sv b h v acc→acc++(zjc s.name r c row.length++(zbl s.name (r+1) (s.rows.drop (r+1))++zJ (bk.drop (i+1))))=zJ bk→c≤row.length →
   zjG Q (.ptr b 0) v (.int .i64 i) (.int .i64 r) (.int .i64 c) h:=by
 have hrl1:=(hrl s (List.mem_of_getElem? hs))
 have hrr:=(List.getElem?_eq_some_iff.1 hrow).1
 have hrowl:=hrl1.2 row (List.mem_of_getElem? hrow)
 intro k
 induction k with
 | zero=>
  intro c hk h v acc a he hc
  apply ziO
  unfold zea
  obtain ⟨b4,o4,rv,g1,g2,g3,vs,f,ro,g4,g5⟩:=zbu a.bk zl zH hs
  obtain ⟨b2,o2,w2,g6,g7,g8⟩:=zbU g3 zn zaz hrow
  rw [zw,za zk a.box rfl,g1,zG,za zD g4 (g5 2 _ rfl),g6,g7,zp g8.1 z7,zr,zi]
  refine ⟨fun h1=>absurd h1 (by omega),fun _=>?_⟩
  rw [zK _ _ _ _ (by omega)]
  rw [colsL_end (by omega),List.nil_append] at he
  exact hnext h v acc a he
 | succ k ih=>
  intro c hk h v acc a he hc
  apply ziO
  unfold zea
  obtain ⟨b4,o4,rv,g1,g2,g3,vs,f,ro,g4,g5⟩:=zbu a.bk zl zH hs
  obtain ⟨b2,o2,w2,g6,g7,g8⟩:=zbU g3 zn zaz hrow
  rw [zw,za zk a.box rfl,g1,zG,za zD g4 (g5 2 _ rfl),g6,g7,zp g8.1 z7,zr,zi]
  refine ⟨fun h1=>?_,fun h1=>absurd (by omega) h1⟩
  rw [zw,za zk a.box rfl,g1,zbF,za zL g4 (g5 0 _ rfl),mk_spot]
  rw [colsL_step h1] at he
  have hl:acc.length+1≤1048576:=by
   have:=congrArg List.length he
   simp only [List.length_append,List.cons_append,List.length_cons] at this
   omega
  refine zcg a.own _ hl a.n _ fun v' h' o' x _ _=>?_
  rw [zK _ _ _ _ (by omega)]
  refine ih (c+1) (by omega) h' v' (acc++[⟨s.name,r,c⟩]) (a.next h0 M N bk sv b hM hbN x o') ?_ (by omega)
  rw [← he]
  simp
theorem all_loop2 (i:Nat) (s:Sht) (hs:bk[i]? = some s)
  (hnext:∀ (h:Hp) (v:V) (acc:List Spt),AS h0 M N bk sv b h v acc→acc++zJ (bk.drop (i+1))=zJ bk→zgp Q (.ptr b 0) v (.int .i64 (i+1:Nat)) h):
  ∀ (k r:Nat),s.rows.length - r=k→∀ (h:Hp) (v:V) (acc:List Spt),AS h0 M N bk sv b h v acc→acc++(zbl s.name r (s.rows.drop r)++zJ (bk.drop (i+1)))=zJ bk→r≤s.rows.length →
   zga Q (.ptr b 0) v (.int .i64 i) (.int .i64 r) h:=by
 have hrl1:=(hrl s (List.mem_of_getElem? hs))
 have hil:=(List.getElem?_eq_some_iff.1 hs).1
 intro k
 induction k with
 | zero=>
  intro r hk h v acc a he hr
  apply ziQ
  unfold zdC
  obtain ⟨b4,o4,rv,g1,g2,g3,vs,f,ro,g4,g5⟩:=zbu a.bk zl zH hs
  obtain ⟨us,hu⟩:=g3.rd
  rw [zw,za zk a.box rfl,g1,zG,za zD g4 (g5 2 _ rfl),zp hu zn,zr,zi]
  refine ⟨fun h1=>absurd h1 (by omega),fun _=>?_⟩
  rw [zK _ _ _ _ (by omega)]
  rw [List.drop_eq_nil_of_le (by omega:s.rows.length≤r)] at he
  exact hnext h v acc a he
 | succ k ih=>
  intro r hk h v acc a he hr
  apply ziQ
  unfold zdC
  obtain ⟨b4,o4,rv,g1,g2,g3,vs,f,ro,g4,g5⟩:=zbu a.bk zl zH hs
  obtain ⟨us,hu⟩:=g3.rd
  rw [zw,za zk a.box rfl,g1,zG,za zD g4 (g5 2 _ rfl),zp hu zn,zr,zi]
  refine ⟨fun h1=>?_,fun h1=>absurd (by omega) h1⟩
  rw [zcd h1,zbl,rowSpots_cols,List.append_assoc] at he
  exact all_loop3 Q h0 M N bk sv b hM hbN hfit hbl hrl i r s s.rows[r] hs (List.getElem?_eq_getElem h1) (fun h' v' acc' a' he'=>ih (r+1) (by omega) h' v' acc' a' he' (by omega)) _ 0 rfl h v acc a he (by omega)
theorem all_loop1 (hq:∀ (h:Hp) (v:V),AS h0 M N bk sv b h v (zJ bk)→Q v h):
  ∀ (k i:Nat),bk.length - i=k→∀ (h:Hp) (v:V) (acc:List Spt),AS h0 M N bk sv b h v acc→acc++zJ (bk.drop i)=zJ bk→i≤bk.length→zgp Q (.ptr b 0) v (.int .i64 i) h:=by
 intro k
 induction k with
 | zero=>
  intro i hk h v acc a he hi
  apply zjV
  unfold zdS
  obtain ⟨cs,hrd⟩:=a.bk.rd
  rw [zw,za zk a.box rfl,zp hrd zl,zr,zi]
  refine ⟨fun h1=>absurd h1 (by omega),fun _=>?_⟩
  rw [List.drop_eq_nil_of_le (by omega:bk.length≤i)] at he
  have e:acc=zJ bk:=by simpa [zJ] using he
  subst e
  exact hq h v a
 | succ k ih=>
  intro i hk h v acc a he hi
  apply zjV
  unfold zdS
  obtain ⟨cs,hrd⟩:=a.bk.rd
  rw [zw,za zk a.box rfl,zp hrd zl,zr,zi]
  refine ⟨fun h1=>?_,fun h1=>absurd (by omega) h1⟩
  rw [zcd h1,zJ] at he
  exact all_loop2 Q h0 M N bk sv b hM hbN hfit hbl hrl i bk[i] (List.getElem?_eq_getElem h1) (fun h' v' acc' a' he'=>ih (i+1) (by omega) h' v' acc' a' he' (by omega)) _ 0 rfl h v acc a he (by omega)
end
structure Fit (bk:Bok):Prop where
 spots:(zJ bk).length≤100000
 len:bk.length < 1000000
 rows:∀ s ∈ bk,s.rows.length < 1000000∧∀ row ∈ s.rows,row.length < 1000000
theorem all_ok (M:Nat) (h:Hp) (v:V) (bk:Bok) (hv:zir M h v bk) (hM:M≤h.n) (f:Fit bk):Ans EE 50 [v] h fun x h'=>OwnS h.n h' x (zJ bk)∧Ext h.n h h':=by
 obtain ⟨sv,rfl,hs⟩:=hv
 obtain ⟨cs,hrd⟩:=hs.rd
 have hcell:zh [sv]=true:=by have:=hrd.c1; simp [zh,this.2]
 apply a_r7_AllSpots
 unfold zf9
 refine zW (cs:=[sv]) hcell fun h1 b w=>?_
 have n1:=w.n
 have e1:=w.b
 have hx:=w.ext (Nat.le_refl h.n)
 exact all_loop1 _ h1 M h1.n bk sv b (by omega) (by omega) (Nat.le_trans f.spots (by omega)) f.len f.rows (fun h2 v2 a=>⟨a.own.mono (by omega),hx.trans (a.ext.mono (by omega))⟩) _ 0 rfl h1 .nils []
  ⟨hs.ext (hx.mono hM),w.at_,OwnS.nil _ _,Nat.le_refl _,Ext.refl _ _⟩ (by simp) (by omega)
end
end Go.Proofs.YtbchdlelmkmagaaGreatDoor.VM
namespace Go.Proofs.YtbchdlelmkmagaaGreatDoor.VM
open Go
set_option linter.unusedVariables false
set_option linter.unusedSimpArgs false
set_option linter.unusedSectionVars false
set_option maxRecDepth 20000
noncomputable section
attribute [local instance] syZ
theorem zU:∀ {l:List V},zh l=true↔∀ v ∈ l,v.isCell=true
 | []=>by simp [zh]
 | v::l=>by
  rw [zh]
  cases h:v.isCell with
  | true=>simp [h,zU (l:=l)]
  | false=>simp [h]
structure Nd where
 k:Nat
 s:List Nat
 c:Nat
 r:Nat
 c1:Nat
 r1:Nat
 y:List V
def Nd.z (d:Nd) (i:Nat):V:=(d.y[i]?).getD .nils
def Nd.cells (d:Nd):List V:=[.int .i64 d.k,d.z 0,d.z 1,.str d.s,.int .i64 d.c,.int .i64 d.r,d.z 2,d.z 3,d.z 4,.int .i64 d.c1,.int .i64 d.r1,d.z 5,d.z 6,d.z 7]
def Nd.rect (own:List Nat) (d:Nd):Option Rct:=
 if d.k=5 then some ⟨if d.s=[] then own else d.s,d.r,d.c,d.r,d.c⟩ else if d.k=6 then some ⟨if d.s=[] then own else d.s,d.r,d.c,d.r1,d.c1⟩ else none
def za9 (own:List Nat) (l:List Nd):List Rct:=l.filterMap (Nd.rect own)
def ndCs (l:List Nd):List V:=l.flatMap Nd.cells
structure NodesAt (N:Nat) (h:Hp) (v:V) (l:List Nd):Prop where
 rd:Rd h 14 v l.length (ndCs l)
 in_:In N v
 cell:∀ d ∈ l,zh d.cells=true
theorem NodesAt.ext {N:Nat} {h h':Hp} {v:V} {l:List Nd} (a:NodesAt N h v l) (x:Ext N h h'):NodesAt N h' v l:=⟨a.rd.ext x a.in_,a.in_,a.cell⟩
theorem ndCs_at:∀ (l:List Nd) (i:Nat) (d:Nd),l[i]? = some d→((ndCs l).drop (i * 14)).take 14=d.cells
 | [],i,s,h=>by simp at h
 | a::l,0,s,h=>by
  simp only [List.getElem?_cons_zero,Option.some.injEq] at h
  subst h
  simp [ndCs,Nd.cells]
 | a::l,i+1,s,h=>by
  simp only [List.getElem?_cons_succ] at h
  have:=ndCs_at l i s h
  have e:(ndCs (a::l)).drop ((i+1) * 14)=(ndCs l).drop (i * 14):=by
   have:(i+1) * 14=14+i * 14:=by omega
   rw [this]
   unfold ndCs
   rw [List.flatMap_cons,← List.drop_drop]
   congr 1
  rw [e,this]
theorem nd_get {N:Nat} {h:Hp} {v:V} {l:List Nd} (a:NodesAt N h v l) {i:Nat} {d:Nd} (hd:l[i]? = some d):
  ∃ b o,(∀ (k:IntKind) (q:V→Prop),(Pu EE).iaddr 43 v (.int k i) q↔q (.ptr b o))∧(∀ q:V→Prop,(Pu EE).load h 88 (.ptr b o) q↔q (.agg d.cells)):=by
 obtain ⟨b,o,h1,h2,_⟩:=zfT a.rd zbM zbh (by omega) (List.getElem?_eq_some_iff.1 hd).1 (ndCs_at l i d hd)
 exact ⟨b,o,h1,h2⟩
theorem geqN (a b:Nat) (t:Nat) (cx cy:Bool) (q:V→Prop):(Pu EE).bin .geq t cx cy (.int .i64 a) (.int .i64 b) q↔q (.bool (decide (b≤a))):=by
 rw [pu_geq]
 have:decide ((b:Int)≤(a:Int))=decide (b≤a):=by rw [decide_eq_decide]; omega
 rw [this]
theorem leqN (a b:Nat) (t:Nat) (cx cy:Bool) (q:V→Prop):(Pu EE).bin .leq t cx cy (.int .i64 a) (.int .i64 b) q↔q (.bool (decide (a≤b))):=by
 rw [zhL]
 have:decide ((a:Int)≤(b:Int))=decide (a≤b):=by rw [decide_eq_decide]; omega
 rw [this]
theorem eqlN (a:Nat) (b:Nat) (t:Nat) (cx cy:Bool) (q:V→Prop):(Pu EE).bin .eql t cx cy (.int .i64 a) (.int .i64 b) q↔q (.bool (decide (a=b))):=by
 rw [zcJ]
 have:decide ((a:Int)=(b:Int))=decide (a=b):=by rw [decide_eq_decide]; omega
 rw [this]
theorem named_l3 (Q:V→Hp→Prop) (v0 v1:V) (i:Nat) (d:Nd) (s:Spt) (nm:List Nat) (tr tc:Nat) (t0 t3 t4:V) (bs b8 b10:Nat) (h:Hp) (hi:i < 1000000)
  (hbs:h.t.get bs=some (.cells (spC s) 42 false)) (hb8:h.t.get b8=some (.cells d.cells 88 false)) (hb10:h.t.get b10=some (.cells [t0,.int .i64 tc,.int .i64 tr,t3,t4] 85 false))
  (hy:(d.k=5∨d.k=6)→Rct.has ⟨nm,d.r,d.c,tr,tc⟩ s=true→Q (.bool true) h) (hn:¬ ((d.k=5∨d.k=6)∧Rct.has ⟨nm,d.r,d.c,tr,tc⟩ s=true)→zjY Q v0 v1 (.ptr bs 0) (.int .i64 (i+1:Nat)) h):
  zjF Q v0 v1 (.ptr bs 0) (.int .i64 i) (.ptr b8 0) (.str nm) (.ptr b10 0) h:=by
 have hh:Rct.has ⟨nm,d.r,d.c,tr,tc⟩ s=true↔nm=s.s∧d.r≤s.r∧s.r≤tr∧d.c≤s.c∧s.c≤tc:=by simp [Rct.has,and_assoc]
 rw [hh] at hy hn
 apply r_r7_named_3
 unfold zjU
 rw [zE,za zm hb8 rfl,show (5:Int)=((5:Nat):Int) from rfl,eqlN]
 by_cases hk:d.k=5∨d.k=6
 ·have hkk:∀ q:V→Prop,((Pu EE).gval (.bool (decide (d.k=5))) false (fun k4=>(Pu EE).faddr 88 (.ptr b8 0) 0 fun x5=>k4 x5) fun x6=>
    (Pu EE).gval (.bool (decide (d.k=5))) false (fun k7=>(Pu EE).load h 3 x6 fun x8=>k7 x8) fun x9=>
    (Pu EE).gval (.bool (decide (d.k=5))) false (fun k10=>(Pu EE).bin .eql 3 false true x9 (.int .i64 6) fun x11=>k10 x11) fun x12=>
    (Pu EE).pick (.bool (decide (d.k=5))) (some (.bool true)) (some x12) q)↔q (.bool true):=by
   intro q
   by_cases h5:d.k=5
   ·rw [decide_eq_true h5]
    simp only [zaH,zB]
   ·have h6:d.k=6:=by omega
    rw [decide_eq_false h5]
    simp only [zu,zo,zE]
    rw [za zm hb8 rfl,show (6:Int)=((6:Nat):Int) from rfl,eqlN,decide_eq_true h6]
  rw [hkk]
  simp only [z8,zae,zac,zE,zA,zZ,zaf]
  simp only [zu]
  rw [za zL hbs rfl,zbj]
  simp only [zB]
  by_cases c1:nm=s.s
  ·rw [decide_eq_true c1]
   simp only [zu,zB]
   rw [za zm hbs rfl]
   try simp only [z8,zae,zac,zE,zA,zZ,zaf]
   rw [za zm hb8 rfl,geqN]
   by_cases c2:d.r≤s.r
   ·rw [decide_eq_true c2]
    simp only [zu,zB]
    try simp only [z8,zae,zac,zE,zA,zZ,zaf]
    rw [za zm hbs rfl]
    try simp only [z8,zae,zac,zE,zA,zZ,zaf]
    rw [za zm hb10 rfl,leqN]
    by_cases c3:s.r≤tr
    ·rw [decide_eq_true c3]
     simp only [zu,zB]
     try simp only [z8,zae,zac,zE,zA,zZ,zaf]
     rw [za zm hbs rfl]
     try simp only [z8,zae,zac,zE,zA,zZ,zaf]
     rw [za zm hb8 rfl,geqN]
     by_cases c4:d.c≤s.c
     ·rw [decide_eq_true c4]
      simp only [zu,zB]
      try simp only [z8,zae,zac,zE,zA,zZ,zaf]
      rw [za zm hbs rfl]
      try simp only [z8,zae,zac,zE,zA,zZ,zaf]
      rw [za zm hb10 rfl,leqN,zi]
      refine ⟨fun c5=>hy hk ⟨c1,c2,c3,c4,c5⟩,fun c5=>?_⟩
      rw [zK _ _ _ _ (by omega)]
      exact hn fun q=>c5 q.2.2.2.2.2
     ·rw [decide_eq_false c4]
      simp only [zS,zo,zb]
      rw [zK _ _ _ _ (by omega)]
      exact hn fun q=>c4 q.2.2.2.2.1
    ·rw [decide_eq_false c3]
     simp only [zS,zo,zb]
     rw [zK _ _ _ _ (by omega)]
     exact hn fun q=>c3 q.2.2.2.1
   ·rw [decide_eq_false c2]
    simp only [zS,zo,zb]
    rw [zK _ _ _ _ (by omega)]
    exact hn fun q=>c2 q.2.2.1
  ·rw [decide_eq_false c1]
   simp only [zS,zo,zb]
   rw [zK _ _ _ _ (by omega)]
   exact hn fun q=>c1 q.2.1
 ·have h5:¬ d.k=5:=fun e=>hk (.inl e)
  have h6:¬ d.k=6:=fun e=>hk (.inr e)
  rw [decide_eq_false h5]
  simp only [zu,zo,zE]
  rw [za zm hb8 rfl,show (6:Int)=((6:Nat):Int) from rfl,eqlN,decide_eq_false h6]
  simp only [zS,zo,zb]
  rw [zK _ _ _ _ (by omega)]
  exact hn fun q=>hk q.1
theorem named_loop (Q:V→Hp→Prop) (N bs:Nat) (h0:Hp) (v:V) (l:List Nd) (own:List Nat) (s:Spt) (hN:N≤h0.n) (hbn:bs < h0.n) (hbs:h0.t.get bs=some (.cells (spC s) 42 false)) (hv:NodesAt N h0 v l) (hl:l.length < 1000000):
  ∀ (k i:Nat),l.length - i=k→i≤l.length→∀ h:Hp,Ext h0.n h0 h→(∀ (b:Bool) (h':Hp),b=named (za9 own (l.drop i)) s→Ext h0.n h0 h'→Q (.bool b) h')→zjY Q v (.str own) (.ptr bs 0) (.int .i64 i) h:=by
 intro k
 induction k with
 | zero=>
  intro i hk hi h x hq
  apply r_r7_named_1
  unfold zgP
  have hv1:=hv.ext (x.mono hN)
  rw [zp hv1.rd zbM,zr,zi]
  refine ⟨fun h1=>absurd h1 (by omega),fun _=>hq false h ?_ x⟩
  rw [List.drop_eq_nil_of_le (by omega)]
  rfl
 | succ k ih=>
  intro i hk hi h x hq
  apply r_r7_named_1
  unfold zgP
  have hv1:=hv.ext (x.mono hN)
  rw [zp hv1.rd zbM,zr,zi]
  refine ⟨fun h1=>?_,fun h1=>absurd (by omega) h1⟩
  obtain ⟨d,hd⟩:∃ d,d=l[i]:=⟨_,rfl⟩
  have hdl:l[i]? = some d:=by rw [hd]; exact List.getElem?_eq_getElem h1
  obtain ⟨b1,o1,g1,g2⟩:=nd_get hv1 hdl
  have hcell:=hv.cell d (List.mem_of_getElem? hdl)
  rw [g1,g2]
  refine zq zbh fun h2 b8 w8=>?_
  refine zC zbh w8.at_ (x:=.agg d.cells) rfl hcell (r:=d.cells) rfl fun h3 w9=>?_
  have n2:=w8.n
  have e2:=w8.b
  have n3:=w9.n
  have x3:Ext h0.n h0 h3:=x.trans ((w8.ext x.n).trans (w9.ext (by have:=x.n; omega)))
  have hxn:=x.n
  rw [zcd h1,← hd] at hq
  have step:∀ nm:List Nat,nm=(if d.s=[] then own else d.s)→L_r7_named_2 Q v (.str own) (.ptr bs 0) (.int .i64 i) (.ptr b8 0) (.str nm) h3:=by
   intro nm hnm
   apply r_r7_named_2
   unfold zjN
   rw [zaL,zd zck w9.at_ (l:=[d.z 4,.int .i64 d.c1,.int .i64 d.r1,d.z 5,d.z 6]) rfl]
   refine zq zck fun h4 b10 w10=>?_
   have hc2:zh [d.z 4,.int .i64 d.c1,.int .i64 d.r1,d.z 5,d.z 6]=true:=by
    refine zU.2 fun u hu=>zU.1 hcell u ?_
    simp only [List.mem_cons,List.not_mem_nil,or_false] at hu
    rcases hu with rfl | rfl | rfl | rfl | rfl <;> simp [Nd.cells]
   refine zC zck w10.at_ (x:=.agg [d.z 4,.int .i64 d.c1,.int .i64 d.r1,d.z 5,d.z 6]) rfl hc2 rfl fun h5 w11=>?_
   have n4:=w10.n
   have e4:=w10.b
   have n5:=w11.n
   have x5:Ext h0.n h0 h5:=x3.trans ((w10.ext x3.n).trans (w11.ext (by have:=x3.n; omega)))
   have hb8:h5.t.get b8=some (.cells d.cells 88 false):=by rw [w11.other b8 (by omega),w10.old b8 (by omega)]; exact w9.at_
   have hb5:h5.t.get bs=some (.cells (spC s) 42 false):=by rw [x5.old bs hbn]; exact hbs
   have fin:∀ (h6:Hp) (tr tc:Nat) (t0 t3 t4:V),Ext h0.n h0 h6→h6.t.get b8=some (.cells d.cells 88 false)→h6.t.get b10=some (.cells [t0,.int .i64 tc,.int .i64 tr,t3,t4] 85 false) →
     (d.k=5→tr=d.r∧tc=d.c)→(d.k ≠ 5→tr=d.r1∧tc=d.c1)→zjF Q v (.str own) (.ptr bs 0) (.int .i64 i) (.ptr b8 0) (.str nm) (.ptr b10 0) h6:=by
    intro h6 tr tc t0 t3 t4 x6 k8 k10 k5 k6
    have hrect:d.rect own=if d.k=5∨d.k=6 then some ⟨nm,d.r,d.c,tr,tc⟩ else none:=by
     unfold Nd.rect
     rw [hnm]
     by_cases q5:d.k=5
     ·obtain ⟨e1,e2⟩:=k5 q5
      simp [q5,e1,e2]
     ·obtain ⟨e1,e2⟩:=k6 q5
      by_cases q6:d.k=6
      ·simp [q6,e1,e2]
      ·simp [q5,q6]
    refine named_l3 Q v _ i d s nm tr tc t0 t3 t4 bs b8 b10 h6 (by omega) (by rw [x6.old bs hbn]; exact hbs) k8 k10 (fun hk hh=>hq true h6 ?_ x6) (fun hn=>?_)
    ·unfold za9 named
     rw [List.filterMap_cons,hrect,if_pos hk]
     simp only [List.any_cons,hh,Bool.true_or]
    ·refine ih (i+1) (by omega) (by omega) h6 x6 fun b h' e x'=>hq b h' ?_ x'
     rw [e]
     unfold za9 named
     rw [List.filterMap_cons,hrect]
     by_cases hk:d.k=5∨d.k=6
     ·rw [if_pos hk]
      have:Rct.has ⟨nm,d.r,d.c,tr,tc⟩ s=false:=by
       cases q:Rct.has ⟨nm,d.r,d.c,tr,tc⟩ s with
       | false=>rfl
       | true=>exact absurd ⟨hk,q⟩ hn
      simp only [List.any_cons,this,Bool.false_or]
     ·rw [if_neg hk]
   rw [zE,za zm hb8 rfl,show (5:Int)=((5:Nat):Int) from rfl,eqlN,zi]
   refine ⟨fun q5=>?_,fun q5=>?_⟩
   ·rw [zA,zd zck hb8 (l:=[.str d.s,.int .i64 d.c,.int .i64 d.r,d.z 2,d.z 3]) rfl]
    have hc3:zh [V.str d.s,.int .i64 d.c,.int .i64 d.r,d.z 2,d.z 3]=true:=by
     refine zU.2 fun u hu=>zU.1 hcell u ?_
     simp only [List.mem_cons,List.not_mem_nil,or_false] at hu
     rcases hu with rfl | rfl | rfl | rfl | rfl <;> simp [Nd.cells]
    refine zC zck w11.at_ (x:=.agg [.str d.s,.int .i64 d.c,.int .i64 d.r,d.z 2,d.z 3]) rfl hc3 rfl fun h6 w12=>?_
    exact fin h6 d.r d.c _ _ _ (x5.trans (w12.ext (by have:=x3.n; omega))) (by rw [w12.other b8 (by omega)]; exact hb8) w12.at_ (fun _=>⟨rfl,rfl⟩) (fun q=>absurd q5 q)
   ·exact fin h5 d.r1 d.c1 _ _ _ x5 hb8 w11.at_ (fun q=>absurd q q5) (fun _=>⟨rfl,rfl⟩)
  rw [zA,zdk,za zL w9.at_ rfl,zbj,zi]
  refine ⟨fun e=>step own ?_,fun e=>step d.s ?_⟩
  ·rw [if_pos e]
  ·rw [if_neg e]
theorem named_ok (N:Nat) (h:Hp) (v:V) (l:List Nd) (own:List Nat) (s:Spt) (hN:N≤h.n) (hv:NodesAt N h v l) (hl:l.length < 1000000):Ans EE 81 [v,.str own,spV s] h fun x h'=>x=.bool (named (za9 own l) s)∧Ext h.n h h':=by
 apply a_r7_named
 unfold zjO
 refine zW (cs:=spC s) rfl fun h1 b w=>?_
 have hx:=w.ext (Nat.le_refl h.n)
 have n1:=w.n
 have e1:=w.b
 exact named_loop _ N b h1 v l own s (by omega) (by omega) w.at_ (hv.ext (hx.mono hN)) hl l.length 0 (by omega) (by omega) h1 (Ext.refl _ _) fun b h' e x=>⟨by rw [e]; rfl,hx.trans (x.mono (by omega))⟩
end
end Go.Proofs.YtbchdlelmkmagaaGreatDoor.VM
namespace Go.Proofs.YtbchdlelmkmagaaGreatDoor.VM
open Go
set_option linter.unusedVariables false
set_option linter.unusedSectionVars false
set_option linter.unusedSimpArgs false
set_option maxRecDepth 20000
noncomputable section
attribute [local instance] syZ
theorem renL_map (f:Nat→Nat):∀ l:List V,V.renL f l=l.map (V.ren f)
 | []=>rfl
 | v::l=>by rw [V.renL,renL_map f l]; rfl
def kidN:List Nk→Nat
 | []=>0
 | d::l=>match d.kids with
  | []=>kidN l
  | _::_=>kidN l+1
theorem nkC_ren {r:Nat→Nat} {b c:Nat} (d:Nk) (h:d.kids ≠ []→r b=c):V.renL r (nkC b d)=nkC c d:=by
 unfold nkC
 simp only [V.renL,V.ren]
 congr 13
 unfold kidV
 split
 ·rfl
 ·rename_i k l hk
  have:=h (by rw [hk]; simp)
  cases Nat.beq d.k 7 <;> simp [V.ren,this]
theorem zhV {r:Nat→Nat}:∀ (l:List Nk) (b c:Nat),(∀ i,i < kidN l→r (b+i)=c+i)→V.renL r (nkCs b l)=nkCs c l
 | [],_,_,_=>rfl
 | d::l,b,c,h=>by
  rw [nkCs,nkCs]
  have hsplit:∀ x y:List V,V.renL r (x++y)=V.renL r x++V.renL r y:=fun x y=>by rw [renL_map,renL_map,renL_map,List.map_append]
  rw [hsplit]
  cases hk:d.kids with
  | nil=>
   have e1:nxK b d=b:=by unfold nxK; rw [hk]
   have e2:nxK c d=c:=by unfold nxK; rw [hk]
   have e3:kidN (d::l)=kidN l:=by rw [kidN,hk]
   rw [e3] at h
   rw [e1,e2,nkC_ren d (fun q=>absurd hk q),zhV l b c h]
  | cons a t=>
   have e1:nxK b d=b+1:=by unfold nxK; rw [hk]
   have e2:nxK c d=c+1:=by unfold nxK; rw [hk]
   have e3:kidN (d::l)=kidN l+1:=by rw [kidN,hk]
   rw [e3] at h
   rw [e1,e2,nkC_ren (c:=c) d (fun _=>by have:=h 0 (by omega); simpa using this),zhV l (b+1) (c+1) fun i hi=>by have:=h (i+1) (by omega); rw [show b+1+i=b+(i+1) by omega,this]; omega]
theorem kid_nil {d:Nk} (h:d.kids=[]) (l:List Nk):kidN (d::l)=kidN l∧kidPs (d::l)=kidPs l∧zkm false (d::l)=zkm false l:=by
 refine ⟨?_,?_,?_⟩
 ·rw [kidN,h]
 ·rw [kidPs,h]
 ·rw [zkm,h]
theorem zhP {d:Nk} {a:Nat} {r:List Nat} (h:d.kids=a::r) (l:List Nk):kidN (d::l)=kidN l+1∧kidPs (d::l)=(zfo d.kids,3)::kidPs l∧zkm false (d::l)=.cells (zfo d.kids) 3 false::zkm false l:=by
 refine ⟨?_,?_,?_⟩
 ·rw [kidN,h]
 ·rw [kidPs,h]
 ·rw [zkm,h]
theorem zhE:∀ l:List Nk,(kidPs l).length=kidN l
 | []=>rfl
 | d::l=>by
  cases h:d.kids with
  | nil=>rw [(kid_nil h l).1,(kid_nil h l).2.1,zhE l]
  | cons a r=>rw [(zhP h l).1,(zhP h l).2.1,List.length_cons,zhE l]
theorem zf2 (l:List Nk):(zgb l).length=kidN l+1:=by unfold zgb; rw [List.length_cons,zhE]
theorem kidBs_of:∀ l:List Nk,zkm false l=(kidPs l).map fun p=>.cells p.1 p.2 false
 | []=>rfl
 | d::l=>by
  cases h:d.kids with
  | nil=>rw [(kid_nil h l).2.1,(kid_nil h l).2.2,kidBs_of l]
  | cons a r=>rw [(zhP h l).2.1,(zhP h l).2.2,List.map_cons,kidBs_of l]
theorem rn_at {k N m i:Nat} (h:i < m):rn ((List.range m).map (k + ·)) N i=k+i:=by
 unfold rn
 rw [List.getD_eq_getElem?_getD,List.getElem?_map,List.getElem?_range h]
 rfl
theorem intsV_ren (r:Nat→Nat) (l:List Nat):V.renL r (zfo l)=zfo l:=by
 rw [renL_map]
 unfold zfo
 rw [List.map_map]
 rfl
theorem zgi (r:Nat→Nat):∀ (l:List Nk) (p:List V × Nat),p ∈ kidPs l→V.renL r p.1=p.1
 | [],p,h=>by cases h
 | d::l,p,h=>by
  cases hk:d.kids with
  | nil=>rw [(kid_nil hk l).2.1] at h; exact zgi r l p h
  | cons a s=>
   rw [(zhP hk l).2.1] at h
   rcases List.mem_cons.1 h with rfl | h
   ·exact intsV_ren _ _
   ·exact zgi r l p h
theorem zfs.node {h:Hp} {k:Nat} {l:List Nk} (a:zfs h k l):∃ rest ro,h.t.get k=some (.cells (nkCs (k+1) l++rest) 88 ro):=by
 have hl:=zf2 l
 obtain ⟨rest,ro,h1⟩:=a.at_ 0 (k+0) (nkCs 1 l,88) (by rw [List.getElem?_map,List.getElem?_range (by omega)]; rfl) rfl
 refine ⟨rest,ro,?_⟩
 rw [zhV (c:=k+1) l 1 fun i hi=>by rw [rn_at (by omega)]; omega] at h1
 exact h1
theorem zfs.kid {h:Hp} {k i:Nat} {l:List Nk} (a:zfs h k l) {p:List V × Nat} (hp:(kidPs l)[i]? = some p):∃ rest ro,h.t.get (k+1+i)=some (.cells (p.1++rest) p.2 ro):=by
 have hl:=zf2 l
 have hi:i < kidN l:=by have:=(List.getElem?_eq_some_iff.1 hp).1; rw [zhE] at this; exact this
 obtain ⟨rest,ro,h1⟩:=a.at_ (i+1) (k+(i+1)) p (by rw [List.getElem?_map,List.getElem?_range (by omega)]; rfl) (by unfold zgb; rw [List.getElem?_cons_succ]; exact hp)
 rw [zgi _ l p (List.mem_of_getElem? hp)] at h1
 exact ⟨rest,ro,by rw [show k+1+i=k+(i+1) by omega]; exact h1⟩
theorem zfs.mono {h h':Hp} {k:Nat} {l:List Nk} {N:Nat} (a:zfs h k l) (x:Ext N h h') (hN:k+(zgb l).length≤N) (hn:N≤h.n):zfs h' k l:=by
 have hl:=zf2 l
 have xn:=x.n
 refine ⟨a.len,a.nd,fun i B p h1 h2=>?_⟩
 obtain ⟨rest,ro,h3⟩:=a.at_ i B p h1 h2
 have hi:=(List.getElem?_eq_some_iff.1 h2).1
 have hB:B=k+i:=by
  rw [List.getElem?_map,List.getElem?_range hi] at h1
  cases h1; rfl
 refine ⟨rest,ro,?_⟩
 rw [x.old B (by omega),h3]
 have e:V.renL (rn ((List.range (zgb l).length).map (k + ·)) h.n) p.1=V.renL (rn ((List.range (zgb l).length).map (k + ·)) h'.n) p.1:=by
  cases i with
  | zero=>
   have:p=(nkCs 1 l,88):=by unfold zgb at h2; cases h2; rfl
   subst this
   rw [zhV (c:=k+1) l 1 fun i hi=>by rw [rn_at (by omega)]; omega,zhV (c:=k+1) l 1 fun i hi=>by rw [rn_at (by omega)]; omega]
  | succ i=>
   unfold zgb at h2
   rw [List.getElem?_cons_succ] at h2
   rw [zgi _ l p (List.mem_of_getElem? h2),zgi _ l p (List.mem_of_getElem? h2)]
 rw [e]
def ndK (b:Nat) (d:Nk):Nd:=⟨d.k,d.s,d.c,d.r,d.c1,d.r1,[.int .i64 d.n,.str d.t,.bool d.ab,.bool d.ab,.str [],.bool false,.bool false,kidV b d]⟩
def ndsK:Nat→List Nk→List Nd
 | _,[]=>[]
 | b,d::l=>ndK b d::ndsK (nxK b d) l
theorem ndsK_cs:∀ (l:List Nk) (b:Nat),ndCs (ndsK b l)=nkCs b l
 | [],_=>rfl
 | d::l,b=>by
  have ih:=ndsK_cs l (nxK b d)
  unfold ndCs at ih ⊢
  rw [ndsK,List.flatMap_cons,ih]
  rfl
theorem ndsK_len:∀ (l:List Nk) (b:Nat),(ndsK b l).length=l.length
 | [],_=>rfl
 | d::l,b=>by rw [ndsK,List.length_cons,ndsK_len l,List.length_cons]
theorem nkCs_len:∀ (l:List Nk) (b:Nat),(nkCs b l).length=l.length * 14
 | [],_=>rfl
 | d::l,b=>by rw [nkCs,List.length_append,nkCs_len l,List.length_cons,Nat.succ_mul]; show 14+_=_; omega
theorem kidV_cell (b:Nat) (d:Nk):(kidV b d).isCell=true:=by
 unfold kidV
 split
 ·rfl
 ·cases Nat.beq d.k 7 <;> rfl
theorem zbH (b:Nat) (d:Nk):zh (nkC b d)=true:=by
 refine zU.2 fun v hv=>?_
 unfold nkC at hv
 simp only [List.mem_cons,List.not_mem_nil,or_false] at hv
 rcases hv with rfl | rfl | rfl | rfl | rfl | rfl | rfl | rfl | rfl | rfl | rfl | rfl | rfl | rfl <;> first | rfl | exact kidV_cell b d
theorem ndsK_cells:∀ (l:List Nk) (b:Nat),∀ d ∈ ndsK b l,zh d.cells=true
 | [],_,d,h=>by cases h
 | d::l,b,e,h=>by
  rw [ndsK] at h
  rcases List.mem_cons.1 h with rfl | h
  ·exact zbH b d
  ·exact ndsK_cells l _ e h
theorem ndsK_rects (own:List Nat):∀ (l:List Nk) (b c:Nat),za9 own (ndsK b l)=za9 own (ndsK c l)
 | [],_,_=>rfl
 | d::l,b,c=>by
  have ih:=ndsK_rects own l (nxK b d) (nxK c d)
  unfold za9 at ih ⊢
  rw [ndsK,ndsK]
  have e:Nd.rect own (ndK b d)=Nd.rect own (ndK c d):=rfl
  cases h:Nd.rect own (ndK b d) with
  | none=>rw [List.filterMap_cons_none h,List.filterMap_cons_none (e ▸ h),ih]
  | some r=>rw [List.filterMap_cons_some h,List.filterMap_cons_some (e ▸ h),ih]
theorem zfs.rd {h:Hp} {k:Nat} {l:List Nk} (a:zfs h k l):Rd h 14 (.slo k 0 l.length l.length 14) l.length (nkCs (k+1) l):=by
 obtain ⟨rest,ro,h1⟩:=a.node
 have hl:=nkCs_len l (k+1)
 refine ⟨hl,.inr ⟨k,0,nkCs (k+1) l++rest,zcH h1,?_,.inr ⟨_,_,rfl⟩⟩⟩
 unfold sub
 have:((nkCs (k+1) l++rest).drop 0).take (l.length * 14)=nkCs (k+1) l:=by rw [List.drop_zero,← hl,List.take_left]
 simp only [this,hl,Nat.beq_refl,cond_true]
theorem zfs.at13 {h:Hp} {k:Nat} {l:List Nk} (a:zfs h k l) (hk:k < h.n):NodesAt h.n h (.slo k 0 l.length l.length 14) (ndsK (k+1) l):=
 ⟨by rw [ndsK_len,ndsK_cs]; exact a.rd,fun b hb=>by cases hb; exact hk,ndsK_cells l _⟩
def FormB (t:List Nat) (h:Hp) (v:V) (h':Hp):Prop:=Ext h.n h h'∧match nksT t with
 | none=>v=.tup [.nils,.bool false]
 | some l=>v=.tup [.slo h.n 0 l.length l.length 14,.bool true]∧zfs h' h.n l∧h.n+(zgb l).length≤h'.n
theorem app_frag (h:Hp) (l:List Nk):zfs (h.app ((Blk.cells (nkCs 1 l) 88 false::zkm false l).map (Blk.ren fun i=>h.n+i))) h.n l:=by
 have hl:=zf2 l
 refine ⟨by simp,?_,fun i B p h1 h2=>?_⟩
 ·have hr:(List.range (zgb l).length).Nodup:=List.nodup_range
  unfold List.Nodup at hr ⊢
  rw [List.pairwise_map]
  exact hr.imp fun {a b} q e=>q (by omega)
 ·have hi:=(List.getElem?_eq_some_iff.1 h2).1
  have hB:B=h.n+i:=by
   rw [List.getElem?_map,List.getElem?_range hi] at h1
   cases h1; rfl
  subst hB
  refine ⟨[],false,?_⟩
  rw [List.append_nil]
  have hb:(Blk.cells (nkCs 1 l) 88 false::zkm false l)[i]? = some (.cells p.1 p.2 false):=by
   cases i with
   | zero=>unfold zgb at h2; cases h2; rfl
   | succ i=>
    unfold zgb at h2
    rw [List.getElem?_cons_succ] at h2 ⊢
    rw [kidBs_of,List.getElem?_map,h2]; rfl
  have:=Hp.get_app_new h ((Blk.cells (nkCs 1 l) 88 false::zkm false l).map (Blk.ren fun i=>h.n+i)) i (b:=Blk.ren (fun i=>h.n+i) (.cells p.1 p.2 false)) (by rw [List.getElem?_map,hb]; rfl)
  rw [this]
  have e:V.renL (fun i=>h.n+i) p.1=V.renL (rn ((List.range (zgb l).length).map (h.n + ·)) (h.app ((Blk.cells (nkCs 1 l) 88 false::zkm false l).map (Blk.ren fun i=>h.n+i))).n) p.1:=by
   cases i with
   | zero=>
    have:p=(nkCs 1 l,88):=by unfold zgb at h2; cases h2; rfl
    subst this
    rw [zhV (c:=h.n+1) l 1 fun i hi=>by omega,zhV (c:=h.n+1) l 1 fun i hi=>by rw [rn_at (by omega)]; omega]
   | succ i=>
    unfold zgb at h2
    rw [List.getElem?_cons_succ] at h2
    rw [zgi _ l p (List.mem_of_getElem? h2),zgi _ l p (List.mem_of_getElem? h2)]
  rw [Blk.ren,e]
theorem form_okB {f:Nat} (hk:EE.hook f=some (txH zft)) {t:List Nat} (ht:t ∈ zcR) (h:Hp):Ans EE f [.str t] h (FormB t h):=by
 refine ⟨_,_,Cs.hook hk (txH_at ht (memoOf_al t) h),⟨by simp [Hp.app],fun b hb=>Hp.get_app_old _ _ hb⟩,?_⟩
 unfold zft
 cases e:nksT t with
 | none=>simp [V.ren,V.renL]
 | some l=>
  simp only
  refine ⟨by simp [V.ren,V.renL],app_frag h l,?_⟩
  rw [zf2]
  simp only [Hp.app,List.length_map,List.length_cons,kidBs_of,zhE]
  omega
def zg3 (t:List Nat):Option (List Nd):=(nksT t).map (ndsK 0)
abbrev formP (t:List Nat):Option (List Nd):=zg3 t
def FormPost (h:Hp) (o:Option (List Nd)) (v:V) (h':Hp):Prop:=Ext h.n h h'∧match o with
 | none=>v=.tup [.nils,.bool false]
 | some ds=>∃ sv ds',v=.tup [sv,.bool true]∧NodesAt h'.n h' sv ds'∧ds'.length=ds.length∧∀ own,za9 own ds'=za9 own ds
theorem form_post {t:List Nat} {h:Hp} {v:V} {h':Hp} (p:FormB t h v h'):FormPost h (zg3 t) v h':=by
 obtain ⟨x,hm⟩:=p
 refine ⟨x,?_⟩
 unfold zg3
 cases e:nksT t with
 | none=>rw [e] at hm; exact hm
 | some l=>
  rw [e] at hm
  obtain ⟨h1,h2,h3⟩:=hm
  have:=zf2 l
  exact ⟨_,_,h1,h2.at13 (by omega),by rw [ndsK_len,ndsK_len],fun own=>ndsK_rects own l _ _⟩
end
end Go.Proofs.YtbchdlelmkmagaaGreatDoor.VM
namespace Go.Proofs.YtbchdlelmkmagaaGreatDoor.VM
open Go
set_option linter.unusedVariables false
set_option maxRecDepth 100000
noncomputable section
noncomputable def c_r7_Needs:Code:=match Tryz.f51.body with | some c=>c | none=>.skip
noncomputable def zfQ:Fl:=⟨Tryz.f51,c_r7_Needs,[([false,true,false,true,true,true,true,true],[3,5,7,8,9])]⟩
abbrev L_r7_Needs_1 (Q:QQ) (v3 v5 v7 v8 v9:V) (h:Hp):Prop:=zfQ.L EE Q 1 [v3,v5,v7,v8,v9] h
noncomputable def zi5 (p:Pr) (l:LL) (Q:QQ) (v0 v1:V) (h:Hp):Prop:=
 p.box h 26 v0 fun x1 h2 b3=>
 p.box h2 42 v1 fun x4 h5 b6=>
 p.load h5 26 x1 fun x7=>
 p.load h5 42 x4 fun x8=>
 p.call 12 [x7,x8] h5 fun x9 h10=>
 p.call 11 [x9] h10 fun x11 h12=>
 p.extr x11 0 fun x13=>
 p.extr x11 1 fun x14=>
 p.un .not x14 fun x15=>
 p.cond x15
 (fun _=>
  Q .nils h12)
 (fun _=>
  p.load h12 26 x1 fun x16=>
  p.call 50 [x16] h12 fun x17 h18=>
  l 1 [x4,x13,.nils,x17,(.int .i64 0)] h18)
theorem q_r7_Needs_0 (p:Pr) (l:LL) (Q:QQ) (v0 v1:V) (h:Hp):zi5 p l Q v0 v1 h=zfQ.K p EE l Q [] ([v0,v1]++List.replicate 41 zj) h:=by kernel_rfl
theorem a_r7_Needs {Q:QQ} {v0 v1:V} {h:Hp} (H:zi5 (Pu EE) (zfQ.L EE Q) Q v0 v1 h):Ans EE 51 [v0,v1] h Q:=
 ansL (F:=zfQ) (by kernel_rfl) (by kernel_rfl) (by kernel_rfl) (by kernel_rfl) (cast (q_r7_Needs_0 _ _ _ v0 v1 h) H)
noncomputable def zgO (p:Pr) (l:LL) (Q:QQ) (v3 v5 v7 v8 v9:V) (h:Hp):Prop:=
 p.lbui h #[32] .len [v8] fun x1=>
 p.bin .lss 3 false false v9 x1 fun x2=>
 p.cond x2
 (fun _=>
  p.faddr 42 v3 0 fun x3=>
  p.load h 9 x3 fun x4=>
  p.iaddr 32 v8 v9 fun x5=>
  p.load h 42 x5 fun x6=>
  p.call 81 [v5,x4,x6] h fun x7 h8=>
  p.cond x7
  (fun _=>
  p.iaddr 32 v8 v9 fun x9=>
  p.load h8 42 x9 fun x10=>
  p.bsl h8 32 1 [(0,x10)] fun x11 h12 b13=>
  p.ebui h12 #[32,32] .append [v7,x11] fun x14 h15=>
  p.bin .add 3 false true v9 (.int .i64 1) fun x16=>
  l 1 [v3,v5,x14,v8,x16] h15)
  (fun _=>
  p.bin .add 3 false true v9 (.int .i64 1) fun x17=>
  l 1 [v3,v5,v7,v8,x17] h8))
 (fun _=>
  Q v7 h)
theorem q_r7_Needs_1 (p:Pr) (l:LL) (Q:QQ) (s:List V) (h:Hp):zgO p l Q (nth s 3) (nth s 5) (nth s 7) (nth s 8) (nth s 9) h=zfQ.K p EE l Q [true,true,true,true,true,false,true,false] (nths s 43 0) h:=by kernel_rfl
theorem r_r7_Needs_1 {Q:QQ} {v3 v5 v7 v8 v9:V} {h:Hp} (H:zgO (Pu EE) (zfQ.L EE Q) Q v3 v5 v7 v8 v9 h):L_r7_Needs_1 Q v3 v5 v7 v8 v9 h:=
 labR (path:=[true,true,true,true,true,false,true,false]) rfl rfl fun s e=>by cases e; exact cast (q_r7_Needs_1 _ _ _ s h) H
noncomputable def c_r7_Order:Code:=match Tryz.f22.body with | some c=>c | none=>.skip
noncomputable def zbv:Fl:=⟨Tryz.f22,c_r7_Order,[([false,true,false,true,true,true,true],[1,4,5,6,7]),([false,true,true,true,true,true,true],[4,5,10]),([false,false,true,false,false,false,true,true,true,true,true,true],[4,5,10,11])]⟩
abbrev L_r7_Order_1 (Q:QQ) (v1 v4 v5 v6 v7:V) (h:Hp):Prop:=zbv.L EE Q 1 [v1,v4,v5,v6,v7] h
abbrev ziP (Q:QQ) (v4 v5 v10:V) (h:Hp):Prop:=zbv.L EE Q 2 [v4,v5,v10] h
abbrev L_r7_Order_3 (Q:QQ) (v4 v5 v10 v11:V) (h:Hp):Prop:=zbv.L EE Q 3 [v4,v5,v10,v11] h
noncomputable def zi4 (p:Pr) (l:LL) (Q:QQ) (v0:V) (h:Hp):Prop:=
 p.box h 26 v0 fun x1 h2 b3=>
 p.load h2 26 x1 fun x4=>
 p.call 50 [x4] h2 fun x5 h6=>
 l 1 [x1,.nils,.nils,x5,(.int .i64 0)] h6
theorem q_r7_Order_0 (p:Pr) (l:LL) (Q:QQ) (v0:V) (h:Hp):zi4 p l Q v0 h=zbv.K p EE l Q [] ([v0]++List.replicate 97 zj) h:=by kernel_rfl
theorem a_r7_Order {Q:QQ} {v0:V} {h:Hp} (H:zi4 (Pu EE) (zbv.L EE Q) Q v0 h):Ans EE 22 [v0] h Q:=
 ansL (F:=zbv) (by kernel_rfl) (by kernel_rfl) (by kernel_rfl) (by kernel_rfl) (cast (q_r7_Order_0 _ _ _ v0 h) H)
noncomputable def zgD (p:Pr) (l:LL) (Q:QQ) (v1 v4 v5 v6 v7:V) (h:Hp):Prop:=
 p.lbui h #[32] .len [v6] fun x1=>
 p.bin .lss 3 false false v7 x1 fun x2=>
 p.cond x2
 (fun _=>
  p.load h 26 v1 fun x3=>
  p.iaddr 32 v6 v7 fun x4=>
  p.load h 42 x4 fun x5=>
  p.call 12 [x3,x5] h fun x6 h7=>
  p.call 11 [x6] h7 fun x8 h9=>
  p.extr x8 0 fun x10=>
  p.extr x8 1 fun x11=>
  p.cond x11
  (fun _=>
  p.iaddr 32 v6 v7 fun x12=>
  p.load h9 42 x12 fun x13=>
  p.bsl h9 32 1 [(0,x13)] fun x14 h15 b16=>
  p.ebui h15 #[32,32] .append [v4,x14] fun x17 h18=>
  p.load h18 26 v1 fun x19=>
  p.iaddr 32 v6 v7 fun x20=>
  p.load h18 42 x20 fun x21=>
  p.call 51 [x19,x21] h18 fun x22 h23=>
  p.bsl h23 81 1 [(0,x22)] fun x24 h25 b26=>
  p.ebui h25 #[81,81] .append [v5,x24] fun x27 h28=>
  p.bin .add 3 false true v7 (.int .i64 1) fun x29=>
  l 1 [v1,x17,x27,v6,x29] h28)
  (fun _=>
  p.bin .add 3 false true v7 (.int .i64 1) fun x30=>
  l 1 [v1,v4,v5,v6,x30] h9))
 (fun _=>
  l 2 [v4,v5,.nils] h)
theorem q_r7_Order_1 (p:Pr) (l:LL) (Q:QQ) (s:List V) (h:Hp):zgD p l Q (nth s 1) (nth s 4) (nth s 5) (nth s 6) (nth s 7) h=zbv.K p EE l Q [true,true,true,true,false,true,false] (nths s 98 0) h:=by kernel_rfl
theorem r_r7_Order_1 {Q:QQ} {v1 v4 v5 v6 v7:V} {h:Hp} (H:zgD (Pu EE) (zbv.L EE Q) Q v1 v4 v5 v6 v7 h):L_r7_Order_1 Q v1 v4 v5 v6 v7 h:=
 labR (path:=[true,true,true,true,false,true,false]) rfl rfl fun s e=>by cases e; exact cast (q_r7_Order_1 _ _ _ s h) H
noncomputable def zjj (p:Pr) (l:LL) (Q:QQ) (v4 v5 v10:V) (h:Hp):Prop:=
 l 3 [v4,v5,v10,(.int .i64 0)] h
theorem q_r7_Order_2 (p:Pr) (l:LL) (Q:QQ) (s:List V) (h:Hp):zjj p l Q (nth s 4) (nth s 5) (nth s 10) h=zbv.K p EE l Q [true,true,true,true,true,true,false] (nths s 98 0) h:=by kernel_rfl
theorem r_r7_Order_2 {Q:QQ} {v4 v5 v10:V} {h:Hp} (H:zjj (Pu EE) (zbv.L EE Q) Q v4 v5 v10 h):ziP Q v4 v5 v10 h:=
 labR (path:=[true,true,true,true,true,true,false]) rfl rfl fun s e=>by cases e; exact cast (q_r7_Order_2 _ _ _ s h) H
noncomputable def zgA (p:Pr) (l:LL) (Q:QQ) (v4 v5 v10 v11:V) (h:Hp):Prop:=
 p.lbui h #[32] .len [v4] fun x1=>
 p.bin .lss 3 false false v11 x1 fun x2=>
 p.gval x2 true (fun k3=>
  k3 v5) fun x4=>
 p.gval x2 true (fun k5=>
  k5 v11) fun x6=>
 p.gval x2 true (fun k7=>
  p.iaddr 81 x4 x6 fun x8=>
  k7 x8) fun x9=>
 p.gval x2 true (fun k10=>
  p.load h 32 x9 fun x11=>
  k10 x11) fun x12=>
 p.gval x2 true (fun k13=>
  k13 v4) fun x14=>
 p.geff x2 true (fun k15=>
  p.call 52 [x12,x14] h fun x16 h17=>
  k15 x16 h17) h fun x18 h19=>
 p.pick x2 (some x18) (some (.bool false)) fun x20=>
 p.cond x20
 (fun _=>
  p.bin .add 3 false true v11 (.int .i64 1) fun x21=>
  l 3 [v4,v5,v10,x21] h19)
 (fun _=>
  p.lbui h19 #[32] .len [v4] fun x22=>
  p.bin .eql 3 false false v11 x22 fun x23=>
  p.cond x23
  (fun _=>
  Q (.tup [v10,v4]) h19)
  (fun _=>
  p.iaddr 32 v4 v11 fun x24=>
  p.load h19 42 x24 fun x25=>
  p.bsl h19 32 1 [(0,x25)] fun x26 h27 b28=>
  p.ebui h27 #[32,32] .append [v10,x26] fun x29 h30=>
  p.bsl h30 32 0 [] fun x31 h32 b33=>
  p.slice 32 v4 none (some v11) none fun x34=>
  p.ebui h32 #[32,32] .append [x31,x34] fun x35 h36=>
  p.bin .add 3 false true v11 (.int .i64 1) fun x37=>
  p.slice 32 v4 (some x37) none none fun x38=>
  p.ebui h36 #[32,32] .append [x35,x38] fun x39 h40=>
  p.bsl h40 81 0 [] fun x41 h42 b43=>
  p.slice 81 v5 none (some v11) none fun x44=>
  p.ebui h42 #[81,81] .append [x41,x44] fun x45 h46=>
  p.bin .add 3 false true v11 (.int .i64 1) fun x47=>
  p.slice 81 v5 (some x47) none none fun x48=>
  p.ebui h46 #[81,81] .append [x45,x48] fun x49 h50=>
  l 2 [x39,x49,x29] h50))
theorem q_r7_Order_3 (p:Pr) (l:LL) (Q:QQ) (s:List V) (h:Hp):zgA p l Q (nth s 4) (nth s 5) (nth s 10) (nth s 11) h=zbv.K p EE l Q [true,true,true,true,true,true,false,false,false,true,false,false] (nths s 98 0) h:=by kernel_rfl
theorem r_r7_Order_3 {Q:QQ} {v4 v5 v10 v11:V} {h:Hp} (H:zgA (Pu EE) (zbv.L EE Q) Q v4 v5 v10 v11 h):L_r7_Order_3 Q v4 v5 v10 v11 h:=
 labR (path:=[true,true,true,true,true,true,false,false,false,true,false,false]) rfl rfl fun s e=>by cases e; exact cast (q_r7_Order_3 _ _ _ s h) H
end
end Go.Proofs.YtbchdlelmkmagaaGreatDoor.VM
namespace Go.Proofs.YtbchdlelmkmagaaGreatDoor.VM
open Go
set_option linter.unusedVariables false
set_option linter.unusedSectionVars false
set_option linter.unusedSimpArgs false
set_option maxRecDepth 20000
noncomputable section
attribute [local instance] syZ
def is61:List Nat→Bool
 | c::_=>Nat.beq c 61
 | []=>false
structure TextIs (t:List Nat):Prop where
 in_:t ∈ zcR
 few:∀ a b,formP t=some a→zg3 t=some b→a.length≤20∧b.length≤20
 some_:(formP t).isSome=(zg3 t).isSome
 eq61:(formP t).isSome=is61 t
def textOK (t:List Nat):Bool:=match nksT t with
 | none=>!is61 t
 | some l=>is61 t && Nat.ble l.length 20
theorem texts_ok:zcR.all textOK=true:=by kernel_rfl
theorem textIs {t:List Nat} (h:t ∈ zcR):TextIs t:=by
 have hk:=List.all_eq_true.1 texts_ok t h
 unfold textOK at hk
 have e:zg3 t=(nksT t).map (ndsK 0):=rfl
 cases q:nksT t with
 | none=>
  rw [q] at hk e
  have hk:(!is61 t)=true:=hk
  refine ⟨h,fun a b h1 _=>?_,rfl,?_⟩
  ·have:zg3 t=some a:=h1
   rw [e] at this; cases this
  ·show (zg3 t).isSome=_
   rw [e]
   simpa using hk
 | some l=>
  rw [q] at hk e
  have hk:(is61 t && Nat.ble l.length 20)=true:=hk
  simp only [Bool.and_eq_true,Nat.ble_eq] at hk
  refine ⟨h,fun a b h1 h2=>?_,rfl,?_⟩
  ·have h1:zg3 t=some a:=h1
   rw [e] at h1 h2
   cases h1; cases h2
   rw [ndsK_len]
   exact ⟨hk.2,hk.2⟩
  ·show (zg3 t).isSome=_
   rw [e,hk.1]; rfl
def rectsT (own t:List Nat):List Rct:=match zg3 t with
 | some l=>za9 own l
 | none=>[]
theorem rectsT_prog {t:List Nat} (h:TextIs t) (own:List Nat):(match formP t with | some l=>za9 own l | none=>[])=rectsT own t:=rfl
theorem hook_R:EE.hook 11=some (txH zft):=by kernel_rfl
theorem hook_F:EE.hook 20=some (txH zft):=by kernel_rfl
theorem hook_M:EE.hook 47=some (txH mayM):=by kernel_rfl
theorem rform_ok {t:List Nat} (ht:TextIs t) (h:Hp):Ans EE 11 [.str t] h (FormPost h (zg3 t)):=(form_okB hook_R ht.in_ h).mono fun _ _=>form_post
theorem pform_ok {t:List Nat} (ht:TextIs t) (h:Hp):Ans EE 20 [.str t] h (FormPost h (formP t)):=(form_okB hook_F ht.in_ h).mono fun _ _=>form_post
theorem may_ok {t:List Nat} (ht:TextIs t) (h:Hp):Ans EE 47 [.str t] h fun v h'=>v=.bool true∧Ext h.n h h':=
 ⟨_,_,Cs.hook hook_M (txH_at ht.in_ rfl h),by simp [mayM,V.ren],by simp [Hp.app,mayM],fun b hb=>Hp.get_app_old _ _ hb⟩
structure Good (bk:Bok):Prop where
 fit:Fit bk
 ris:Rises bk
 text:∀ s ∈ bk,∀ row ∈ s.rows,∀ t ∈ row,TextIs t
theorem text0:TextIs []:=textIs (txt_in (n:=0) (by omega))
theorem Good.get {bk:Bok} (g:Good bk) (s:Spt):TextIs (getC bk s):=by
 unfold getC
 cases hf:findR bk s.s with
 | none=>exact text0
 | some t=>
  simp only
  cases hr:t.rows[s.r]? with
  | none=>exact text0
  | some row=>
   simp only
   cases hc:row[s.c]? with
   | none=>exact text0
   | some x=>exact g.text t (List.mem_of_find?_eq_some hf) row (List.mem_of_getElem? hr) x (List.mem_of_getElem? hc)
def ndR (bk:Bok) (s:Spt):List Spt:=needsR (rectsT s.s (getC bk s)) bk
theorem ndR_none {bk:Bok} {s:Spt} (h:zg3 (getC bk s)=none):ndR bk s=[]:=by
 unfold ndR rectsT
 rw [h]
 unfold needsR
 simp [named]
theorem take_snocS {l:List Spt} {i:Nat} (h:i < l.length):l.take (i+1)=l.take i++[l[i]]:=by rw [List.take_succ_eq_append_getElem h]
theorem needs_loop (Q:V→Hp→Prop) (N M b:Nat) (h0:Hp) (nv av:V) (nds:List Nd) (s:Spt) (bk:Bok) (hN:N≤h0.n) (hM:M≤h0.n) (hb:b < h0.n) (hs:h0.t.get b=some (.cells (spC s) 42 false)) (hnv:NodesAt N h0 nv nds) (hnl:nds.length < 1000000)
  (hav:Sps h0 av (zJ bk)) (hai:In h0.n av) (hfit:(zJ bk).length≤100000)
  (hq:∀ (v:V) (h:Hp),OwnS h0.n h v ((zJ bk).filter (named (za9 s.s nds)))→Ext h0.n h0 h→Q v h):
  ∀ (k i:Nat),(zJ bk).length - i=k→i≤(zJ bk).length→∀ (h:Hp) (v:V) (acc:List Spt),Ext h0.n h0 h→OwnS h0.n h v acc→acc=((zJ bk).take i).filter (named (za9 s.s nds)) →
   L_r7_Needs_1 Q (.ptr b 0) nv v av (.int .i64 i) h:=by
 intro k
 induction k with
 | zero=>
  intro i hk hi h v acc x o ha
  apply r_r7_Needs_1
  unfold zgO
  rw [zp (hav.ext x hai) zg,zr,zi]
  refine ⟨fun h1=>absurd h1 (by omega),fun _=>hq v h ?_ x⟩
  rw [List.take_of_length_le (by omega)] at ha
  rw [← ha]; exact o
 | succ k ih=>
  intro i hk hi h v acc x o ha
  apply r_r7_Needs_1
  unfold zgO
  rw [zp (hav.ext x hai) zg,zr,zi]
  refine ⟨fun h1=>?_,fun h1=>absurd (by omega) h1⟩
  have hxn:=x.n
  obtain ⟨b1,o1,g1,g2,_⟩:=zaT (hav.ext x hai) zg zf (List.getElem?_eq_getElem h1)
  have hbs:h.t.get b=some (.cells (spC s) 42 false):=by rw [x.old b hb]; exact hs
  rw [z8,za zL hbs rfl,g1,g2]
  refine (named_ok N h nv nds s.s _ (by omega) (hnv.ext (x.mono hN)) hnl).mono ?_
  rintro y h2 ⟨rfl,hx2⟩
  have x2:Ext h0.n h0 h2:=x.trans (hx2.mono hxn)
  have hn2:=hx2.n
  have o2:OwnS h0.n h2 v acc:=o.keep hx2.n fun c hc=>hx2.old c (o.in_ c hc)
  have hal:acc.length+1≤1048576:=by
   have:=List.length_filter_le (named (za9 s.s nds)) ((zJ bk).take i)
   rw [← ha] at this
   have:=List.length_take_le i (zJ bk)
   omega
  cases hnm:named (za9 s.s nds) (zJ bk)[i] with
  | true=>
   rw [zc]
   obtain ⟨b3,o3,g3,g4,_⟩:=zaT (hav.ext x2 hai) zg zf (List.getElem?_eq_getElem h1)
   rw [g3,g4]
   refine zcg o2 _ hal (by omega) _ fun v' h' o' x' _ _=>?_
   rw [zK _ _ _ _ (by omega)]
   refine ih (i+1) (by omega) (by omega) h' v' _ (x2.trans x') o' ?_
   rw [take_snocS h1,List.filter_append,ha]
   simp [hnm]
  | false=>
   rw [zb,zK _ _ _ _ (by omega)]
   refine ih (i+1) (by omega) (by omega) h2 v acc x2 o2 ?_
   rw [take_snocS h1,List.filter_append,← ha]
   simp [hnm]
theorem rneeds_ok (N:Nat) (h:Hp) (v:V) (bk:Bok) (s:Spt) (hv:zir N h v bk) (hN:N≤h.n) (g:Good bk):Ans EE 51 [v,spV s] h fun x h'=>OwnS h.n h' x (ndR bk s)∧Ext h.n h h':=by
 have hv0:=hv
 obtain ⟨sv,rfl,hs⟩:=hv
 obtain ⟨cs,hrd⟩:=hs.rd
 have hcell:zh [sv]=true:=by have:=hrd.c1; simp [zh,this.2]
 apply a_r7_Needs
 unfold zi5
 refine zW (cs:=[sv]) hcell fun h1 b1 w1=>?_
 refine zW (cs:=spC s) rfl fun h2 b2 w2=>?_
 have n1:=w1.n
 have n2:=w2.n
 have e1:=w1.b
 have e2:=w2.b
 have hx2:Ext h.n h h2:=(w1.ext (Nat.le_refl h.n)).trans (w2.ext (by omega))
 have hb1:h2.t.get b1=some (.cells [sv] 26 false):=by rw [w2.old b1 (by omega)]; exact w1.at_
 rw [zd zy hb1 (l:=[sv]) rfl,zd zf w2.at_ (l:=spC s) rfl]
 refine (rget_ok N h2 _ bk s (hv0.ext (hx2.mono hN)) (by omega) g.fit.len).mono ?_
 rintro y h3 ⟨rfl,hx3⟩
 have n3:=hx3.n
 have ht:=g.get s
 refine (rform_ok ht h3).mono ?_
 rintro y h4 ⟨hx4,hp⟩
 have n4:=hx4.n
 have x4:Ext h2.n h2 h4:=hx3.trans (hx4.mono n3)
 have xx:Ext h.n h h4:=hx2.trans (x4.mono (by omega))
 cases hf:zg3 (getC bk s) with
 | none=>
  rw [hf] at hp
  simp only at hp
  subst hp
  rw [zao,zam,zaE]
  simp only [Bool.not_false,zc]
  rw [ndR_none hf]
  exact ⟨OwnS.nil _ _,xx⟩
 | some ds=>
  rw [hf] at hp
  obtain ⟨nv,ds',rfl,hnd,hlen,hrc⟩:=hp
  rw [zao,zam,zaE]
  simp only [Bool.not_true,zb]
  have hb14:h4.t.get b1=some (.cells [sv] 26 false):=by rw [x4.old b1 (by omega)]; exact hb1
  rw [zd zy hb14 (l:=[sv]) rfl]
  refine (all_ok N h4 _ bk (hv0.ext (xx.mono hN)) (by omega) g.fit).mono ?_
  rintro av h5 ⟨ho,hx5⟩
  have n5:=hx5.n
  have hfew:ds'.length < 1000000:=by
   cases p:formP (getC bk s) with
   | none=>have:=ht.some_; rw [p,hf] at this; cases this
   | some a=>have:=(ht.few a ds p hf).2; omega
  have hbs:h5.t.get b2=some (.cells (spC s) 42 false):=by rw [hx5.old b2 (by omega),x4.old b2 (by omega)]; exact w2.at_
  refine needs_loop _ h4.n N b2 h5 nv av ds' s bk n5 (by omega) (by omega) hbs (hnd.ext hx5) hfew ho.sps ho.in_ g.fit.spots (fun v6 h6 o6 x6=>⟨?_,xx.trans ((hx5.mono (by omega)).trans (x6.mono (by omega)))⟩) _ 0 rfl (by omega) h5 .nils [] (Ext.refl _ _) (OwnS.nil _ _) (by simp)
  have e:ndR bk s=(zJ bk).filter (named (za9 s.s ds')):=by
   unfold ndR rectsT needsR
   rw [hf,hrc]
  rw [e]
  exact o6.mono (by omega)
end
end Go.Proofs.YtbchdlelmkmagaaGreatDoor.VM
