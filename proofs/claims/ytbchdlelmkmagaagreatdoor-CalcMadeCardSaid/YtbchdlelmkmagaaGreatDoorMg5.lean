/- DpNeed DpOrd VkD CmVal CmMemo -/
import Derived.Lib.ItoaNum
import Derived.Test.YtbchdlelmkmagaaGreatDoorMg4
namespace Go.Proofs.YtbchdlelmkmagaaGreatDoor.VM
open Go
set_option linter.unusedVariables false
theorem ris_ext:∀ {l m:List Spt},Ris l→Ris m→(∀ a,a ∈ l↔a ∈ m)→l=m
 | [],[],_,_,_=>rfl
 | [],b::m,_,_,h=>by have:=(h b).2 (by simp); cases this
 | a::l,[],_,_,h=>by have:=(h a).1 (by simp); cases this
 | a::l,b::m,hl,hm,h=>by
  have h1:=List.pairwise_cons.1 hl
  have h2:=List.pairwise_cons.1 hm
  have hab:a=b:=by
   rcases List.mem_cons.1 ((h a).1 (by simp)) with e | ha
   ·exact e
   ·rcases List.mem_cons.1 ((h b).2 (by simp)) with e | hb
    ·exact e.symm
    ·have k1:=h2.1 a ha
     have k2:=h1.1 b hb
     have:=zkb k1 k2
     rw [zh1] at this; cases this
  subst hab
  congr 1
  refine ris_ext h1.2 h2.2 fun x=>?_
  have hx:=h x
  simp only [List.mem_cons] at hx
  constructor
  ·intro k
   have:x ≠ a:=fun e=>by subst e; have:=h1.1 x k; rw [zh1] at this; cases this
   rcases hx.1 (.inr k) with e | e
   ·exact absurd e this
   ·exact e
  ·intro k
   have:x ≠ a:=fun e=>by subst e; have:=h2.1 x k; rw [zh1] at this; cases this
   rcases hx.2 (.inr k) with e | e
   ·exact absurd e this
   ·exact e
def compL:List Spt→List Spt
 | []=>[]
 | [a]=>[a]
 | a::b::l=>if a=b then compL (b::l) else a::compL (b::l)
theorem zi2:∀ (l:List Spt) (x:Spt),x ∈ compL l↔x ∈ l
 | [],x=>Iff.rfl
 | [a],x=>Iff.rfl
 | a::b::l,x=>by
  rw [compL]
  split
  ·rename_i h
   subst h
   rw [zi2 (a::l) x]
   simp
  ·rw [List.mem_cons,zi2 (b::l) x]
   simp
theorem compL_ris:∀ (l:List Spt),l.Pairwise spLe→Ris (compL l)
 | [],_=>List.Pairwise.nil
 | [a],_=>List.pairwise_singleton _ _
 | a::b::l,h=>by
  have h1:=List.pairwise_cons.1 h
  rw [compL]
  split
  ·exact compL_ris (b::l) h1.2
  ·rename_i hab
   refine List.pairwise_cons.2 ⟨fun x hx=>?_,compL_ris (b::l) h1.2⟩
   rw [zi2] at hx
   have hle:=h1.1 x hx
   have hab2:=(h1.1 b (by simp)).cases
   rcases hab2 with e | hlt
   ·exact absurd e hab
   ·rcases List.mem_cons.1 hx with rfl | hx
    ·exact hlt
    ·have h3:=(List.pairwise_cons.1 h1.2).1 x hx
     rcases h3.cases with e | h3
     ·exact e ▸ hlt
     ·exact zkb hlt h3
structure Sht where
 name:List Nat
 cols:Nat
 rows:List (List (List Nat))
abbrev Bok:=List Sht
def ze6 (nm:List Nat) (r:Nat) (row:List (List Nat)):List Spt:=(List.range row.length).map fun c=>⟨nm,r,c⟩
def zbl (nm:List Nat):Nat→List (List (List Nat))→List Spt
 | _,[]=>[]
 | r,row::rows=>ze6 nm r row++zbl nm (r+1) rows
def zJ:Bok→List Spt
 | []=>[]
 | s::b=>zbl s.name 0 s.rows++zJ b
theorem zjq {nm:List Nat} {r:Nat} {row:List (List Nat)} {x:Spt}:x ∈ ze6 nm r row↔x.s=nm∧x.r=r∧x.c < row.length:=by
 unfold ze6
 rw [List.mem_map]
 constructor
 ·rintro ⟨c,hc,rfl⟩
  exact ⟨rfl,rfl,List.mem_range.1 hc⟩
 ·rintro ⟨h1,h2,h3⟩
  obtain ⟨a,b,c⟩:=x
  simp only at h1 h2 h3
  subst h1; subst h2
  exact ⟨c,List.mem_range.2 h3,rfl⟩
theorem zfG {nm:List Nat} {x:Spt}:∀ {rows:List (List (List Nat))} {r:Nat},x ∈ zbl nm r rows↔x.s=nm∧r≤x.r∧∃ row,rows[x.r - r]? = some row∧x.c < row.length
 | [],r=>by simp [zbl]
 | row::rows,r=>by
  rw [zbl,List.mem_append,zjq,zfG (rows:=rows) (r:=r+1)]
  constructor
  ·rintro (⟨h1,h2,h3⟩ | ⟨h1,h2,row',h3,h4⟩)
   ·exact ⟨h1,by omega,row,by rw [show x.r - r=0 by omega]; rfl,h3⟩
   ·exact ⟨h1,by omega,row',by rw [show x.r - r=(x.r - (r+1))+1 by omega]; exact h3,h4⟩
  ·rintro ⟨h1,h2,row',h3,h4⟩
   by_cases he:x.r=r
   ·rw [show x.r - r=0 by omega] at h3
    cases h3
    exact .inl ⟨h1,he,h4⟩
   ·rw [show x.r - r=(x.r - (r+1))+1 by omega] at h3
    exact .inr ⟨h1,by omega,row',h3,h4⟩
theorem zgI {x:Spt}:∀ {b:Bok},x ∈ zJ b↔∃ s ∈ b,x.s=s.name∧∃ row,s.rows[x.r]? = some row∧x.c < row.length
 | []=>by simp [zJ]
 | s::b=>by
  rw [zJ,List.mem_append,zfG,zgI (b:=b)]
  simp only [List.mem_cons,Nat.sub_zero,Nat.zero_le,true_and]
  constructor
  ·rintro (h | ⟨t,h,k⟩)
   ·exact ⟨s,.inl rfl,h⟩
   ·exact ⟨t,.inr h,k⟩
  ·rintro ⟨t,rfl | h,k⟩
   ·exact .inl k
   ·exact .inr ⟨t,h,k⟩
def Rises (b:Bok):Prop:=b.Pairwise fun s t=>slt s.name t.name=true
theorem rowSpots_ris (nm:List Nat) (r:Nat) (row:List (List Nat)):Ris (ze6 nm r row):=by
 unfold ze6 Ris
 rw [List.pairwise_map]
 refine List.Pairwise.imp (fun {a b} h=>?_) List.pairwise_lt_range
 rw [zcI]
 exact .inr ⟨rfl,.inr ⟨rfl,h⟩⟩
theorem rowsSpots_ris (nm:List Nat):∀ (rows:List (List (List Nat))) (r:Nat),Ris (zbl nm r rows)
 | [],r=>List.Pairwise.nil
 | row::rows,r=>by
  rw [zbl]
  refine List.pairwise_append.2 ⟨rowSpots_ris nm r row,rowsSpots_ris nm rows (r+1),fun a ha b hb=>?_⟩
  obtain ⟨h1,h2,_⟩:=zjq.1 ha
  obtain ⟨h3,h4,_⟩:=zfG.1 hb
  rw [zcI]
  exact .inr ⟨by rw [h1,h3],.inl (by omega)⟩
theorem zgN:∀ {b:Bok},Rises b→Ris (zJ b)
 | [],_=>List.Pairwise.nil
 | s::b,h=>by
  have h1:=List.pairwise_cons.1 h
  rw [zJ]
  refine List.pairwise_append.2 ⟨rowsSpots_ris _ _ _,zgN h1.2,fun a ha x hx=>?_⟩
  obtain ⟨h3,_⟩:=zfG.1 ha
  obtain ⟨t,ht,h4,_⟩:=zgI.1 hx
  rw [zcI,h3,h4]
  exact .inl (h1.1 t ht)
structure Rct where
 s:List Nat
 r0:Nat
 c0:Nat
 r1:Nat
 c1:Nat
def Rct.has (k:Rct) (x:Spt):Bool:=decide (k.s=x.s) && decide (k.r0≤x.r) && decide (x.r≤k.r1) && decide (k.c0≤x.c) && decide (x.c≤k.c1)
def named (ks:List Rct) (x:Spt):Bool:=ks.any fun k=>k.has x
def needsR (ks:List Rct) (b:Bok):List Spt:=(zJ b).filter (named ks)
def findR (b:Bok) (nm:List Nat):Option Sht:=b.find? fun s=>decide (s.name=nm)
def zjc (nm:List Nat) (r c0 c1:Nat):List Spt:=(List.range (c1 - c0)).map fun i=>⟨nm,r,c0+i⟩
def rowsL (k:Rct) (rows:List (List (List Nat))):Nat→Nat→List Spt
 | 0,_=>[]
 | n+1,r=>zjc k.s r k.c0 (min (k.c1+1) ((rows[r]?).getD []).length)++rowsL k rows n (r+1)
def zf4 (b:Bok) (k:Rct):List Spt:=match findR b k.s with
 | none=>[]
 | some s=>rowsL k s.rows (min (k.r1+1) s.rows.length - k.r0) k.r0
theorem colsL_mem {nm:List Nat} {r c0 c1:Nat} {x:Spt}:x ∈ zjc nm r c0 c1↔x.s=nm∧x.r=r∧c0≤x.c∧x.c < c1:=by
 unfold zjc
 rw [List.mem_map]
 constructor
 ·rintro ⟨i,hi,rfl⟩
  have:=List.mem_range.1 hi
  exact ⟨rfl,rfl,by simp,by simp only; omega⟩
 ·rintro ⟨h1,h2,h3,h4⟩
  obtain ⟨a,b,c⟩:=x
  simp only at h1 h2 h3 h4
  subst h1; subst h2
  exact ⟨c - c0,List.mem_range.2 (by omega),by congr 1; omega⟩
theorem rowsL_mem {k:Rct} {rows:List (List (List Nat))} {x:Spt}:∀ {n r:Nat},x ∈ rowsL k rows n r↔x.s=k.s∧r≤x.r∧x.r < r+n∧k.c0≤x.c∧x.c < min (k.c1+1) ((rows[x.r]?).getD []).length
 | 0,r=>by
  simp only [rowsL,List.not_mem_nil,false_iff]
  rintro ⟨_,h1,h2,_⟩
  omega
 | n+1,r=>by
  rw [rowsL,List.mem_append,colsL_mem,rowsL_mem (n:=n) (r:=r+1)]
  constructor
  ·rintro (⟨h1,h2,h3,h4⟩ | ⟨h1,h2,h3,h4⟩)
   ·subst h2; exact ⟨h1,by omega,by omega,h3,h4⟩
   ·exact ⟨h1,by omega,by omega,h4⟩
  ·rintro ⟨h1,h2,h3,h4,h5⟩
   by_cases he:x.r=r
   ·exact .inl ⟨h1,he,h4,he ▸ h5⟩
   ·exact .inr ⟨h1,by omega,by omega,h4,h5⟩
theorem zj6 {b:Bok} (hb:Rises b) {s:Sht} (hs:s ∈ b):findR b s.name=some s:=by
 induction b with
 | nil=>cases hs
 | cons t b ih=>
  have h1:=List.pairwise_cons.1 hb
  unfold findR
  rw [List.find?_cons]
  rcases List.mem_cons.1 hs with rfl | hs
  ·simp
  ·have:t.name ≠ s.name:=fun e=>by
    have:=h1.1 s hs
    rw [e,zhb] at this; cases this
   simp only [this,decide_false]
   exact ih h1.2 hs
theorem rectL_mem {b:Bok} (hb:Rises b) {k:Rct} {x:Spt}:x ∈ zf4 b k↔k.has x=true∧x ∈ zJ b:=by
 have hh:k.has x=true↔k.s=x.s∧k.r0≤x.r∧x.r≤k.r1∧k.c0≤x.c∧x.c≤k.c1:=by simp [Rct.has,and_assoc]
 rw [hh,zgI]
 unfold zf4
 cases hf:findR b k.s with
 | none=>
  simp only [List.not_mem_nil,false_iff]
  rintro ⟨⟨h1,_⟩,s,hs,h2,_⟩
  have:=zj6 hb hs
  rw [← h2,← h1,hf] at this
  cases this
 | some s=>
  have hs:s ∈ b:=List.mem_of_find?_eq_some hf
  have hn:s.name=k.s:=by have:=List.find?_some hf; simpa using this
  simp only [rowsL_mem]
  constructor
  ·rintro ⟨h1,h2,h3,h4,h5⟩
   have hr:x.r < s.rows.length:=by omega
   obtain ⟨row,hrow⟩:∃ row,s.rows[x.r]? = some row:=⟨_,List.getElem?_eq_getElem hr⟩
   rw [hrow] at h5
   simp only [Option.getD_some] at h5
   exact ⟨⟨h1.symm,h2,by omega,h4,by omega⟩,s,hs,by rw [h1,hn],row,hrow,by omega⟩
  ·rintro ⟨⟨h1,h2,h3,h4,h5⟩,t,ht,h6,row,h7,h8⟩
   have e:t=s:=by
    have:=zj6 hb ht
    rw [← h6,← h1,hf] at this
    exact (Option.some.inj this).symm
   subst e
   have:=(List.getElem?_eq_some_iff.1 h7).1
   rw [h7]
   simp only [Option.getD_some]
   exact ⟨h1.symm,h2,by omega,h4,by omega⟩
theorem needs_law {b:Bok} (hb:Rises b) (ks:List Rct) {l:List Spt} (hp:l.Perm (ks.flatMap (zf4 b))) (hs:l.Pairwise spLe):compL l=needsR ks b:=by
 refine ris_ext (compL_ris l hs) ((zgN hb).sub List.filter_sublist) fun x=>?_
 rw [zi2,hp.mem_iff,List.mem_flatMap]
 unfold needsR named
 rw [List.mem_filter,List.any_eq_true]
 constructor
 ·rintro ⟨k,hk,hx⟩
  obtain ⟨h1,h2⟩:=(rectL_mem hb).1 hx
  exact ⟨h2,k,hk,h1⟩
 ·rintro ⟨h2,k,hk,h1⟩
  exact ⟨k,hk,(rectL_mem hb).2 ⟨h1,h2⟩⟩
theorem needsR_nodup {b:Bok} (hb:Rises b) (ks:List Rct):(needsR ks b).Nodup:=((zgN hb).sub List.filter_sublist).nodup
end Go.Proofs.YtbchdlelmkmagaaGreatDoor.VM
namespace Go.Proofs.YtbchdlelmkmagaaGreatDoor.VM
open Go
set_option linter.unusedVariables false
section
variable {nd:Spt→List Spt}
theorem zgd:∀ (f:Nat) (R:List Spt),R.length≤f→((zbp nd f R).1++(zbp nd f R).2).Perm R
 | 0,R,_=>by simp [zbp]
 | f+1,R,hf=>by
  cases h:pickR nd R with
  | none=>rw [zc8 h]; simp
  | some x=>
   have hx:=pickR_mem h
   have hl:=List.length_erase_of_mem hx
   have hp:=List.length_pos_of_mem hx
   rw [zf3 h]
   simp only [List.cons_append]
   exact ((zgd f (R.erase x) (by omega)).cons x).trans (List.perm_cons_erase hx).symm
def atR:List Spt→Spt→Nat→Option Nat
 | [],_,_=>none
 | a::l,s,i=>if a=s then some i else atR l s (i+1)
end
end Go.Proofs.YtbchdlelmkmagaaGreatDoor.VM
namespace Go.Proofs.YtbchdlelmkmagaaGreatDoor.VM
open Go
set_option linter.unusedVariables false
set_option linter.unusedSimpArgs false
noncomputable section
attribute [local instance] syZ
variable {E:Env}
theorem rdCells_out {h:Hp} {b:Nat} {vs:List V} (hb:zas h b=some vs):∃ e ro,h.t.get b=some (.cells vs e ro):=by
 unfold zas at hb
 split at hb
 ·rename_i us e ro heq
  cases hb
  exact ⟨e,ro,heq⟩
 ·cases hb
theorem zde {h:Hp} {v:V} {len:Nat} {cs:List V} (r:Rd h 1 v len cs) {t e:TypeId} (ht:IsSl E t e) {z:List V} (he:El E e 1 z false) {i:Nat} {x:V} (hx:cs[i]? = some x):
  ∃ b o,(∀ (k:IntKind) (q:V→Prop),(Pu E).iaddr t v (.int k i) q↔q (.ptr b o))∧(∀ q:V→Prop,(Pu E).load h e (.ptr b o) q↔q x)∧zI v=some b:=by
 have hi:i < len:=by have:=(List.getElem?_eq_some_iff.1 hx).1; have:=r.sized; omega
 obtain ⟨b,o,h0,h1,h2,_⟩:=rd_at r ht he (fun _=>rfl) (by omega) hi
 refine ⟨b,o,h1,fun q=>(h2 q).trans ?_,h0⟩
 unfold elemAt
 rw [hx]
 rfl
theorem zfT {h:Hp} {sz:Nat} {v:V} {len:Nat} {cs:List V} (r:Rd h sz v len cs) {t e:TypeId} (ht:IsSl E t e) {z:List V} (he:El E e sz z true) (hpos:0 < sz) {i:Nat} (hi:i < len) {l:List V} (hl:(cs.drop (i * sz)).take sz=l):
  ∃ b o,(∀ (k:IntKind) (q:V→Prop),(Pu E).iaddr t v (.int k i) q↔q (.ptr b o))∧(∀ q:V→Prop,(Pu E).load h e (.ptr b o) q↔q (.agg l))∧zI v=some b ∧
   ∃ vs f ro,h.t.get b=some (.cells vs f ro)∧sub vs o sz=some l∧∀ (k:Nat) (x:V),l[k]? = some x→vs[o+k]? = some x:=by
 obtain ⟨b,o,h0,h1,h2,vs,h3,h4,h5⟩:=rd_at r ht he (fun e=>by cases e) hpos hi
 obtain ⟨f,ro,h6⟩:=rdCells_out h3
 subst hl
 refine ⟨b,o,h1,fun q=>(h2 q).trans ?_,h0,vs,f,ro,h6,?_,fun k x hx=>?_⟩
 ·unfold elemAt
  rw [if_pos rfl]
 ·unfold sub
  have:((cs.drop (i * sz)).take sz).length=sz:=by
   rw [← h4]
   simp only [List.length_take,List.length_drop]
   omega
  simp only [h4,this,Nat.beq_refl,cond_true]
 ·rw [← h4,List.getElem?_take] at hx
  split at hx
  ·rw [← hx,List.getElem?_drop]
  ·cases hx
theorem Rd.nil (h:Hp) (sz:Nat):Rd h sz .nils 0 []:=⟨by simp,.inl ⟨.inl rfl,rfl⟩⟩
def spC (s:Spt):List V:=[.str s.s,.int .i64 s.r,.int .i64 s.c]
def spV (s:Spt):V:=.agg (spC s)
def spCs (l:List Spt):List V:=l.flatMap spC
theorem zj9 (l:List Spt):(spCs l).length=l.length * 3:=by
 unfold spCs
 induction l with
 | nil=>rfl
 | cons a l ih=>rw [List.flatMap_cons,List.length_append,ih]; simp [spC]; omega
theorem spCs_app (l m:List Spt):spCs (l++m)=spCs l++spCs m:=by simp [spCs]
theorem spCs_cells (l:List Spt):zh (spCs l)=true:=by
 unfold spCs
 induction l with
 | nil=>rfl
 | cons a l ih=>rw [List.flatMap_cons]; simpa [spC,zh,V.isCell] using ih
theorem spCs_at:∀ (l:List Spt) (i:Nat) (s:Spt),l[i]? = some s→((spCs l).drop (i * 3)).take 3=spC s
 | [],i,s,h=>by simp at h
 | a::l,0,s,h=>by
  simp only [List.getElem?_cons_zero,Option.some.injEq] at h
  subst h
  simp [spCs,spC]
 | a::l,i+1,s,h=>by
  simp only [List.getElem?_cons_succ] at h
  have:=spCs_at l i s h
  have e:(spCs (a::l)).drop ((i+1) * 3)=(spCs l).drop (i * 3):=by
   have:(i+1) * 3=3+i * 3:=by omega
   rw [this]
   unfold spCs
   rw [List.flatMap_cons,← List.drop_drop]
   congr 1
  rw [e,this]
def Sps (h:Hp) (v:V) (l:List Spt):Prop:=Rd h 3 v l.length (spCs l)
theorem Sps.ext {N:Nat} {h h':Hp} {v:V} {l:List Spt} (s:Sps h v l) (x:Ext N h h') (hi:In N v):Sps h' v l:=Rd.ext s x hi
theorem zaT {h:Hp} {v:V} {l:List Spt} (s:Sps h v l) {t e:TypeId} (ht:IsSl E t e) {z:List V} (he:El E e 3 z true) {i:Nat} {x:Spt} (hx:l[i]? = some x):
  ∃ b o,(∀ (k:IntKind) (q:V→Prop),(Pu E).iaddr t v (.int k i) q↔q (.ptr b o))∧(∀ q:V→Prop,(Pu E).load h e (.ptr b o) q↔q (spV x))∧zI v=some b ∧
   ∃ vs f ro,h.t.get b=some (.cells vs f ro)∧sub vs o 3=some (spC x)∧∀ (k:Nat) (y:V),(spC x)[k]? = some y→vs[o+k]? = some y:=
 zfT s ht he (by omega) (List.getElem?_eq_some_iff.1 hx).1 (spCs_at l i x hx)
def RowAt (N:Nat) (h:Hp) (v:V) (r:List (List Nat)):Prop:=Rd h 1 v r.length (r.map V.str)∧In N v
def zdz (N:Nat) (h:Hp) (v:V) (rs:List (List (List Nat))):Prop:=∃ vs:List V,Rd h 1 v rs.length vs∧In N v∧∀ (i:Nat) (r:List (List Nat)),rs[i]? = some r→∃ w,vs[i]? = some w∧RowAt N h w r
def shtC (s:Sht) (rv:V):List V:=[.str s.name,.int .i64 s.cols,rv]
def zdB (N:Nat) (h:Hp) (v:V) (b:Bok):Prop:=∃ cs:List V,Rd h 3 v b.length cs∧In N v∧∀ (i:Nat) (s:Sht),b[i]? = some s→∃ rv,(cs.drop (i * 3)).take 3=shtC s rv∧zdz N h rv s.rows
def zir (N:Nat) (h:Hp) (v:V) (b:Bok):Prop:=∃ sv,v=.agg [sv]∧zdB N h sv b
section
variable {N:Nat} {h h':Hp}
theorem RowAt.ext {v:V} {r:List (List Nat)} (a:RowAt N h v r) (x:Ext N h h'):RowAt N h' v r:=⟨a.1.ext x a.2,a.2⟩
theorem zdz.ext {v:V} {rs:List (List (List Nat))} (a:zdz N h v rs) (x:Ext N h h'):zdz N h' v rs:=by
 obtain ⟨vs,h1,h2,h3⟩:=a
 exact ⟨vs,h1.ext x h2,h2,fun i r hr=>by obtain ⟨w,h4,h5⟩:=h3 i r hr; exact ⟨w,h4,h5.ext x⟩⟩
theorem zdB.ext {v:V} {b:Bok} (a:zdB N h v b) (x:Ext N h h'):zdB N h' v b:=by
 obtain ⟨cs,h1,h2,h3⟩:=a
 exact ⟨cs,h1.ext x h2,h2,fun i s hs=>by obtain ⟨rv,h4,h5⟩:=h3 i s hs; exact ⟨rv,h4,h5.ext x⟩⟩
theorem zir.ext {v:V} {b:Bok} (a:zir N h v b) (x:Ext N h h'):zir N h' v b:=by
 obtain ⟨sv,h1,h2⟩:=a; exact ⟨sv,h1,h2.ext x⟩
theorem zdB.rd {v:V} {b:Bok} (a:zdB N h v b):∃ cs,Rd h 3 v b.length cs:=by obtain ⟨cs,h1,_⟩:=a; exact ⟨cs,h1⟩
theorem zdz.rd {v:V} {rs:List (List (List Nat))} (a:zdz N h v rs):∃ vs,Rd h 1 v rs.length vs:=by obtain ⟨cs,h1,_⟩:=a; exact ⟨cs,h1⟩
theorem row_get {v:V} {r:List (List Nat)} (a:RowAt N h v r) {t e:TypeId} (ht:IsSl E t e) {z:List V} (he:El E e 1 z false) {i:Nat} {s:List Nat} (hs:r[i]? = some s):
  ∃ b o,(∀ (k:IntKind) (q:V→Prop),(Pu E).iaddr t v (.int k i) q↔q (.ptr b o))∧(∀ q:V→Prop,(Pu E).load h e (.ptr b o) q↔q (.str s)):=by
 obtain ⟨b,o,h1,h2,_⟩:=zde a.1 ht he (i:=i) (x:=.str s) (by rw [List.getElem?_map,hs]; rfl)
 exact ⟨b,o,h1,h2⟩
theorem zbU {v:V} {rs:List (List (List Nat))} (a:zdz N h v rs) {t e:TypeId} (ht:IsSl E t e) {z:List V} (he:El E e 1 z false) {i:Nat} {r:List (List Nat)} (hr:rs[i]? = some r):
  ∃ b o w,(∀ (k:IntKind) (q:V→Prop),(Pu E).iaddr t v (.int k i) q↔q (.ptr b o))∧(∀ q:V→Prop,(Pu E).load h e (.ptr b o) q↔q w)∧RowAt N h w r:=by
 obtain ⟨vs,h1,h2,h3⟩:=a
 obtain ⟨w,h4,h5⟩:=h3 i r hr
 obtain ⟨b,o,h6,h7,_⟩:=zde h1 ht he h4
 exact ⟨b,o,w,h6,h7,h5⟩
theorem zbu {v:V} {b:Bok} (a:zdB N h v b) {t e:TypeId} (ht:IsSl E t e) {z:List V} (he:El E e 3 z true) {i:Nat} {s:Sht} (hs:b[i]? = some s):
  ∃ b o rv,(∀ (k:IntKind) (q:V→Prop),(Pu E).iaddr t v (.int k i) q↔q (.ptr b o))∧(∀ q:V→Prop,(Pu E).load h e (.ptr b o) q↔q (.agg (shtC s rv)))∧zdz N h rv s.rows ∧
   ∃ vs f ro,h.t.get b=some (.cells vs f ro)∧∀ (k:Nat) (x:V),(shtC s rv)[k]? = some x→vs[o+k]? = some x:=by
 obtain ⟨cs,h1,h2,h3⟩:=a
 obtain ⟨rv,h4,h5⟩:=h3 i s hs
 obtain ⟨b,o,h6,h7,_,vs,f,ro,h8,_,h9⟩:=zfT h1 ht he (by omega) (List.getElem?_eq_some_iff.1 hs).1 h4
 exact ⟨b,o,rv,h6,h7,h5,vs,f,ro,h8,h9⟩
end
end
end Go.Proofs.YtbchdlelmkmagaaGreatDoor.VM
namespace Go.Proofs.YtbchdlelmkmagaaGreatDoor.VM
open Go
set_option linter.unusedVariables false
noncomputable section
structure Vl where
 k:Nat
 n:Int
 s:List Nat
 deriving DecidableEq
def vl0:Vl:=⟨0,0,[]⟩
def vlN (n:Int):Vl:=⟨1,n,[]⟩
def vlE (e:Nat):Vl:=⟨4,e,[]⟩
def vlB (b:Bool):Vl:=⟨3,if b then 1 else 0,[]⟩
def vlT (s:List Nat):Vl:=if s.length≤200 then ⟨2,0,s⟩ else vlE 1
def zar (z:Int):Prop:=-9223372036854775808≤z∧z≤9223372036854775807
instance (z:Int):Decidable (zar z):=by unfold zar; infer_instance
structure MayV (v:Vl):Prop where
 k:v.k≤4
 s:v.k ≠ 2→v.s=[]
 n:v.k ≠ 1→v.k ≠ 4→v.k ≠ 3→v.n=0
 b:v.k=3→v.n=0∨v.n=1
 e:v.k=4→1≤v.n∧v.n≤6
 f:zar v.n
 l:v.s.length≤200
 c:∀ x ∈ v.s,x < 256
def intV (v:Vl):Option Int:=if v.k≤1 then some v.n else none
def ziB (v:Vl):Option Bool:=if v.k≤1∨v.k=3 then some (decide (v.n ≠ 0)) else none
def digL (n:Int):List Nat:=(Lib.itoa n).map UInt8.toNat
def textV (v:Vl):List Nat:=
 if v.k=1 then digL v.n else if v.k=2 then v.s else if v.k=3 then (if v.n=1 then [84,82,85,69] else [70,65,76,83,69]) else []
def numS (z:Int):Vl:=if zar z then vlN z else vlE 2
def gtV (a b:Vl):Bool:=
 let ka:=if a.k=0 then b.k else a.k
 let kb:=if b.k=0 then a.k else b.k
 decide (kb < ka) || (decide (kb=ka) && (decide (b.n < a.n) || (decide (b.n=a.n) && slt b.s a.s)))
def twoS (k:Nat) (a b:Vl):Vl:=
 if a.k=4 then a else if b.k=4 then b
 else if k=15 then vlT (textV a++textV b)
 else if k=13 then vlB (gtV a b)
 else match intV a,intV b with
  | some x,some y=>if k=16 then numS (x+y) else if k=18 then numS (x * y) else if y=0 then vlE 3 else vlN (x.tdiv y)
  | _,_=>vlE 1
def addAll:List Vl→Vl→Vl
 | [],a=>a
 | v::l,a=>addAll l (if v.k=1 then twoS 16 a v else a)
def sumS (l:List Vl):Vl:=match l.find? fun v=>decide (v.k=4) with
 | some e=>e
 | none=>addAll l (vlN 0)
def ifS (c x y:Vl):Vl:=if c.k=4 then c else match ziB c with
 | none=>vlE 1
 | some true=>x
 | some false=>y
abbrev Grd:=List (List (List Vl))
def getG (g:Grd) (i r c:Nat):Vl:=(((((g[i]?).getD [])[r]?).getD [])[c]?).getD vl0
def setG (g:Grd) (i r c:Nat) (v:Vl):Grd:=g.modify i fun rows=>rows.modify r fun row=>row.set c v
structure Nk where
 k:Nat
 n:Int
 t:List Nat
 s:List Nat
 c:Nat
 r:Nat
 ab:Bool
 c1:Nat
 r1:Nat
 kids:List Nat
def zgx (t:List Nat):Vl:=match t with
 | []=>vl0
 | 39::r=>vlT r
 | [d]=>vlN (d - 48:Nat)
 | _=>vlE 1
end
end Go.Proofs.YtbchdlelmkmagaaGreatDoor.VM
namespace Go.Proofs.YtbchdlelmkmagaaGreatDoor
namespace VM
open Go Go.RowKit
set_option linter.unusedVariables false
set_option linter.unusedSectionVars false
set_option maxRecDepth 20000
noncomputable section
def txt (n:Nat):List Nat:=
 match n % 13 with
 | 0=>[]
 | 1=>[]
 | 2=>[]
 | 3=>[48+n / 13 % 9]
 | 4=>[48+n / 13 % 9]
 | 5=>[39,97+n / 13 % 5]
 | 6=>[61,65,49+n / 13 % 5]
 | 7=>[61,66,49+n / 13 % 4,43,49]
 | 8=>[61,83,85,77,40,65,49,58,66,49+n / 13 % 5,41]
 | 9=>[61,66,33,65+n / 13 % 4,50,42,50]
 | 10=>[61,73,70,40,36,65,36,49,62,50,44,67,49+n / 13 % 4,44,34,120,34,41]
 | 11=>[61,67,33,65,49,38,34,121,34]
 | _=>[61,49,47,48+n / 13 % 2]
def zh3:List Nat:=[0]++(List.range 9).map (fun i=>3+13 * i)++(List.range 5).map (fun i=>5+13 * i)++(List.range 5).map (fun i=>6+13 * i)++(List.range 4).map (fun i=>7+13 * i)++(List.range 5).map (fun i=>8+13 * i)++(List.range 4).map (fun i=>9+13 * i)++(List.range 4).map (fun i=>10+13 * i)++[11]++(List.range 2).map (fun i=>12+13 * i)
def zcR:List (List Nat):=zh3.map txt
def allR (n:Nat) (p:Nat→Bool):Bool:=Nat.rec (motive:=fun _=>Bool) true (fun k ih=>p k && ih) n
theorem zj3 {p:Nat→Bool}:∀ {n k:Nat},allR n p=true→k < n→p k=true
 | 0,_,_,hk=>by omega
 | n+1,k,h,hk=>by
  have h2:p n=true∧allR n p=true:=by
   have:(p n && allR n p)=true:=h
   simpa using this
  by_cases e:k=n
  ·subst e; exact h2.1
  ·exact zj3 h2.2 (by omega)
theorem txt_in':allR 256 (fun n=>zcR.any fun t=>seq t (txt n))=true:=by kernel_rfl
theorem txt_in {n:Nat} (h:n < 256):txt n ∈ zcR:=by
 have:=zj3 txt_in' h
 obtain ⟨t,h1,h2⟩:=List.any_eq_true.1 this
 rw [zci,decide_eq_true_iff] at h2
 rw [← h2]; exact h1
def txOK (n:Nat):Bool:=
 match look [] 400 (zax Ed (exec Ed 3000) 15 [.int .i64 (Int.ofNat n)] ⟨.leaf,0⟩) with
 | some (.str s,[])=>seq s (txt n)
 | _=>false
def allB (a n:Nat):Bool:=allR n fun k=>txOK (a+k)
theorem tx0:allB 0 64=true:=by kernel_rfl
theorem tx1:allB 64 64=true:=by kernel_rfl
theorem tx2:allB 128 64=true:=by kernel_rfl
theorem tx3:allB 192 64=true:=by kernel_rfl
theorem txOK_all {n:Nat} (h:n < 256):txOK n=true:=by
 rcases (by omega:n < 64∨(64≤n∧n < 128)∨(128≤n∧n < 192)∨192≤n) with k | k | k | k
 ·have:=zj3 tx0 k; rwa [Nat.zero_add] at this
 ·have:=zj3 tx1 (k:=n - 64) (by omega); rwa [show 64+(n - 64)=n by omega] at this
 ·have:=zj3 tx2 (k:=n - 128) (by omega); rwa [show 128+(n - 128)=n by omega] at this
 ·have:=zj3 tx3 (k:=n - 192) (by omega); rwa [show 192+(n - 192)=n by omega] at this
def txMemo (n:Nat):Memo:=⟨[.int .i64 (Int.ofNat n)],.str (txt n),[]⟩
def txM:List Memo:=(List.range 256).map txMemo
theorem txMemo_ok [Sy] (hg:zi7 Tryz.prog Sy.tab zlg) {n:Nat} (h:n < 256):ziy Tryz.prog 15 (txMemo n):=by
 have hr:=txOK_all h
 unfold txOK at hr
 split at hr
 ·rename_i s heq
  rw [zci,decide_eq_true_iff] at hr
  subst hr
  exact @zi9 _ Tryz.prog (Ed) (envD hg) (@idleD _) (@hooksD _) nameOK 15 3000 400 [] (txMemo n) (by unfold txMemo; rw [heq]; simp [V.ren]) rfl rfl (by decide)
 ·cases hr
theorem txM_ok [Sy] (hg:zi7 Tryz.prog Sy.tab zlg):∀ m ∈ txM,ziy Tryz.prog 15 m:=fun m hm=>by
 unfold txM at hm
 obtain ⟨n,h1,rfl⟩:=List.mem_map.1 hm
 exact txMemo_ok hg (List.mem_range.1 h1)
def nNum (n:Int):Nk:=⟨1,n,[],[],0,0,false,0,0,[]⟩
def nTxt (t:List Nat):Nk:=⟨2,0,t,[],0,0,false,0,0,[]⟩
def nRef (s:List Nat) (c r:Nat) (ab:Bool):Nk:=⟨5,0,[],s,c,r,ab,0,0,[]⟩
def nTwo (k a b:Nat):Nk:=⟨k,0,[],[],0,0,false,0,0,[a,b]⟩
def nksT (t:List Nat):Option (List Nk):=match t with
 | [61,65,d]=>some [nRef [] 0 (d - 49) false]
 | [61,66,d,43,49]=>some [nRef [] 1 (d - 49) false,nNum 1,nTwo 16 0 1]
 | [61,83,85,77,40,65,49,58,66,d,41]=>some [⟨6,0,[],[],0,0,false,1,d - 49,[]⟩,⟨7,0,[83,85,77],[],0,0,false,0,0,[0]⟩]
 | [61,66,33,d,50,42,50]=>some [nRef [66] (d - 65) 1 false,nNum 2,nTwo 18 0 1]
 | [61,73,70,40,36,65,36,49,62,50,44,67,d,44,34,120,34,41]=>some [nRef [] 0 0 true,nNum 2,nTwo 13 0 1,nRef [] 2 (d - 49) false,nTxt [120],⟨7,0,[73,70],[],0,0,false,0,0,[2,3,4]⟩]
 | [61,67,33,65,49,38,34,121,34]=>some [nRef [67] 0 0 false,nTxt [121],nTwo 15 0 1]
 | [61,49,47,d]=>some [nNum 1,nNum ((d - 48:Nat):Int),nTwo 19 0 1]
 | _=>none
def kidV (b:Nat) (d:Nk):V:=match d.kids with
 | []=>.nils
 | _::_=>bif Nat.beq d.k 7 then .slo b 0 d.kids.length d.kids.length 1 else .sl b 0 d.kids.length d.kids.length
def nkC (b:Nat) (d:Nk):List V:=[.int .i64 (.ofNat d.k),.int .i64 d.n,.str d.t,.str d.s,.int .i64 (.ofNat d.c),.int .i64 (.ofNat d.r),.bool d.ab,.bool d.ab,.str [],.int .i64 (.ofNat d.c1),.int .i64 (.ofNat d.r1),.bool false,.bool false,kidV b d]
def nxK (b:Nat) (d:Nk):Nat:=match d.kids with
 | []=>b
 | _::_=>b+1
def nkCs:Nat→List Nk→List V
 | _,[]=>[]
 | b,d::l=>nkC b d++nkCs (nxK b d) l
def zfo (l:List Nat):List V:=l.map fun n=>.int .i64 (.ofNat n)
def zkm (ro:Bool):List Nk→List Blk
 | []=>[]
 | d::l=>match d.kids with
  | []=>zkm ro l
  | _::_=>.cells (zfo d.kids) 3 ro::zkm ro l
def zft (t:List Nat):Memo:=match nksT t with
 | none=>⟨[.str t],.tup [.nils,.bool false],[]⟩
 | some l=>⟨[.str t],.tup [.slo 0 0 l.length l.length 14,.bool true],.cells (nkCs 1 l) 88 false::zkm false l⟩
def LkF (f c:Nat) (ρ:List Nat) (K:Nat):Prop:=look ρ K (zax Ed (exec Ed 3000) f [.str (txt c)] ⟨.leaf,0⟩)=some ((zft (txt c)).v.ren (rn ρ K),(zft (txt c)).bs.map (Blk.ren (rn ρ K)))
theorem memoOf_al (t:List Nat):(zft t).al=[.str t]:=by unfold zft; split <;> rfl
theorem kidBs_ro:∀ l:List Nk,(zkm false l).all Blk.noRo=true
 | []=>rfl
 | d::l=>by
  unfold zkm
  split
  ·exact kidBs_ro l
  ·rw [List.all_cons,kidBs_ro l]; rfl
theorem memoOf_ro (t:List Nat):(zft t).bs.all Blk.noRo=true:=by
 unfold zft
 split
 ·rfl
 ·rw [List.all_cons,kidBs_ro]; rfl
theorem zP [Sy] (hg:zi7 Tryz.prog Sy.tab zlg) {f c:Nat} {ρ:List Nat} {K:Nat} (h:LkF f c ρ K) (hn:ρ.Nodup):ziy Tryz.prog f (zft (txt c)):=
 @zi9 _ Tryz.prog (Ed) (envD hg) (@idleD _) (@hooksD _) nameOK f 3000 K ρ (zft (txt c)) (by rw [memoOf_al]; exact h) (by rw [memoOf_al]; rfl) (memoOf_ro _) hn
def mOK (t:List Nat):Bool:=match look [] 6000 (zax Ed (exec Ed 3000) 47 [.str t] ⟨.leaf,0⟩) with
 | some (.bool true,[])=>true
 | _=>false
def mOKs (a n:Nat):Bool:=((zh3.drop a).take n).all fun c=>mOK (txt c)
def plOK (f:Nat) (t:List Nat):Bool:=match look [] 6000 (zax Ed (exec Ed 3000) f [.str t] ⟨.leaf,0⟩) with
 | some (.agg [.int .i64 (.ofNat k),.int .i64 n,.str s],[])=>Nat.beq k (zgx t).k && ieq n (zgx t).n && seq s (zgx t).s
 | _=>false
end
end VM
end Go.Proofs.YtbchdlelmkmagaaGreatDoor
