/- DpAwake VmFr Mem Mem2 CRDig Itoa DpZ VmO DpErr VkL DpA DpTy DpB DpC DpD DpF DpA2 DpG DpH DpI DpA3 DpJ -/
import Derived.WalkKit
import Derived.Deep.Draws
import Derived.Deep.AppendLies
import Derived.Laws.IdiomStrings
import Derived.Maps.AppendAt
import Derived.Laws.BytesArg
import Derived.Test.YtbchdlelmkmagaaGreatDoorChecked
import Derived.Lib.Hide
import Derived.BigQuiet
import Derived.LoopN
import Derived.WalkSpells
import Derived.Lib.ItoaLen
import Derived.Shelf.Strconv.Itoa3
import Derived.Ground.NamesProg
import Derived.Below
import Derived.Lib.AppendIntMem
import Derived.LaidSub
import Derived.Lay
import Derived.Test.YtbchdlelmkmagaaGreatDoorRows
import Derived.Test.YtbchdlelmkmagaaGreatDoorMg6
import Derived.Test.YtbchdlelmkmagaaGreatDoorMg7
import Derived.Test.YtbchdlelmkmagaaGreatDoorMg8
namespace Go.Proofs.YtbchdlelmkmagaaGreatDoor
namespace VM
open Go
set_option linter.unusedSectionVars false
noncomputable section
def awakeMemo : Memo := ⟨[], .bool true, []⟩
variable [Sy]
theorem awakeMemo_run : look [] 1000000 (callOf E (exec E 3000) 5 awakeMemo.al ⟨.leaf, 0⟩) = some (awakeMemo.v.ren (rn [] 1000000), awakeMemo.bs.map (Blk.ren (rn [] 1000000))) := by kernel_rfl
set_option maxRecDepth 20000 in
theorem awakeMemo_ok : MemoOK Tryz.prog 5 awakeMemo :=
 @memoOK_of _ Tryz.prog E envOK (@idleOK _) (@hooksOK _) nameOK 5 3000 1000000 [] awakeMemo awakeMemo_run rfl rfl (by decide)
end
end VM
end Go.Proofs.YtbchdlelmkmagaaGreatDoor
namespace Go.Proofs.YtbchdlelmkmagaaGreatDoor.VM
open Go Go.RowKit
set_option linter.unusedVariables false
set_option linter.unusedSectionVars false
variable [Sy]
noncomputable section
mutual
theorem ren_id : ∀ v : V, v.ren id = v
 | .fn f a c => by rw [V.ren, renL_id a, renL_id c]
 | .iface t v => by rw [V.ren, ren_id v]
 | .agg l => by rw [V.ren, renL_id l]
 | .tup l => by rw [V.ren, renL_id l]
 | .ptr _ _ => by rw [V.ren]; rfl
 | .sl _ _ _ _ => by rw [V.ren]; rfl
 | .slo _ _ _ _ _ => by rw [V.ren]; rfl
 | .mp _ => by rw [V.ren]; rfl
 | .bool _ => by rw [V.ren]
 | .int _ _ => by rw [V.ren]
 | .str _ => by rw [V.ren]
 | .nilp => by rw [V.ren]
 | .nils => by rw [V.ren]
 | .emp => by rw [V.ren]
 | .nilm => by rw [V.ren]
 | .nilf => by rw [V.ren]
 | .nili => by rw [V.ren]
 | .any => by rw [V.ren]
 | .symI _ _ => by rw [V.ren]
 | .symS _ => by rw [V.ren]
 | .gptr _ _ => by rw [V.ren]
 | .aptr _ _ => by rw [V.ren]
 | .asl _ _ _ => by rw [V.ren]
theorem renL_id : ∀ l : List V, V.renL id l = l
 | [] => by rw [V.renL]
 | v :: l => by rw [V.renL, ren_id v, renL_id l]
end
def roB (bs : List (List V × Nat)) : List Blk := bs.map fun p => .cells p.1 p.2 true
def fragH (bs : List (List V × Nat)) : Hp := ⟨T.ofL ((roB bs).map some) 0 .leaf, bs.length⟩
structure FragAt (h : Hp) (ρ : List Nat) (bs : List (List V × Nat)) : Prop where
 len : ρ.length = bs.length
 nd : ρ.Nodup
 at_ : ∀ (i B : Nat) (p : List V × Nat), ρ[i]? = some B → bs[i]? = some p → ∃ rest ro, h.t.get B = some (.cells (V.renL (rn ρ h.n) p.1 ++ rest) p.2 ro)
theorem fragH_get {bs : List (List V × Nat)} {i : Nat} {p : List V × Nat} (h : bs[i]? = some p) : (fragH bs).t.get i = some (.cells p.1 p.2 true) := by
 have hi := (List.getElem?_eq_some_iff.1 h).1
 unfold fragH roB
 simp only
 rw [T.get_ofL, if_pos (by simp; omega), Nat.sub_zero, List.getElem?_map, List.getElem?_map, h]
 rfl
theorem FragAt.rel {N : Nat} {σ : Mp} {h : Hp} {w : World} {ρ : List Nat} {bs : List (List V × Nat)} (R : Rel N σ h w) (F : FragAt h ρ bs) : Rel w.heap.size (fun i => σ (rn ρ h.n i)) (fragH bs) w := by
 have hn : σ h.n = none := by
  cases e : σ h.n with
  | none => rfl
  | some p => have := (R.has h.n p.1 p.2 e).1; omega
 have hlt : ∀ i b n, σ (rn ρ h.n i) = some (b, n) → ∃ B p, ρ[i]? = some B ∧ bs[i]? = some p ∧ rn ρ h.n i = B := fun i b n e => by
  cases hc : ρ[i]? with
  | none =>
   have e2 : rn ρ h.n i = h.n := by unfold rn; rw [List.getD_eq_getElem?_getD, hc]; rfl
   rw [e2, hn] at e; cases e
  | some B =>
   have hi := (List.getElem?_eq_some_iff.1 hc).1
   rw [F.len] at hi
   exact ⟨B, bs[i], rfl, List.getElem?_eq_getElem hi, by unfold rn; rw [List.getD_eq_getElem?_getD, hc]; rfl⟩
 refine ⟨fun i b n e => ?_, fun i j b n m ei ej => ?_, fun i b n e _ => ?_, Nat.le_refl _, fun p hp => ⟨Nat.lt_of_lt_of_le (R.tab p hp).1 R.base, (R.tab p hp).2⟩⟩
 ·obtain ⟨B, p, h1, h2, h3⟩ := hlt i b n e
  have e' : σ (rn ρ h.n i) = some (b, n) := e
  rw [h3] at e'
  obtain ⟨g1, g2, k, g3, g4⟩ := R.has B b n e'
  refine ⟨(List.getElem?_eq_some_iff.1 h2).1, g2, _, fragH_get h2, fun o ho => ?_⟩
  obtain ⟨rest, ro, g5⟩ := F.at_ i B p h1 h2
  rw [g5] at g3
  cases g3
  obtain ⟨xs, ys, fz, q1, q2, q3, _⟩ := CellsAre.out (g4 o ho)
  obtain ⟨aS, cs, rfl, r1, r2⟩ := RepL.split q2
  refine ⟨aS, cs ++ ys, fz, by rw [q1, List.append_assoc], ?_, by rw [← q3, List.append_assoc], fun q => (by cases q)⟩
  have := RepL.ren (τ := fun i => σ (rn ρ h.n i)) (q := id) (fun _ => rfl) p.1 r1
  rwa [renL_id] at this
 ·obtain ⟨B, p, h1, h2, h3⟩ := hlt i b n ei
  obtain ⟨C, q, k1, k2, k3⟩ := hlt j b m ej
  have ei' : σ (rn ρ h.n i) = some (b, n) := ei
  have ej' : σ (rn ρ h.n j) = some (b, m) := ej
  rw [h3] at ei'
  rw [k3] at ej'
  obtain ⟨_, _, g5⟩ := F.at_ i B p h1 h2
  obtain ⟨_, _, g6⟩ := F.at_ j C q k1 k2
  rcases R.inj B C b n m ei' ej' with e | e | e
  ·subst e
   exact .inl ((List.getElem?_inj (List.getElem?_eq_some_iff.1 h1).1 F.nd).1 (h1.trans k1.symm))
  ·rw [g5] at e; cases e
  ·rw [g6] at e; cases e
 ·obtain ⟨B, p, h1, h2, h3⟩ := hlt i b n e
  exact .inl ⟨_, _, fragH_get h2⟩
theorem frag_ok {P : Program} {E : Env} (hE : EnvOK P E) (hI : IdleOK P E) (hH : HooksOK P E) (hname : NameOK P) {f n : Nat} {al : List V} {r : V} {bs : List (List V × Nat)}
  (hrun : (callOf E (exec E n) f al (fragH bs)).map (·.1) = some r) (hr : allStr [r] = true) {N : Nat} {σ : Mp} {h : Hp} {w : World} {xs : List Value} {ρ : List Nat} (R : Rel N σ h w) (F : FragAt h ρ bs) (ha : RepL σ (V.renL (rn ρ h.n) al) xs) :
  match (callFunc f xs.toArray).run P w with
  | .ok (.value x) w' => Does N σ h w r h x w'
  | .ok (.enter g ys) w' => Calls P g ys w' fun e w'' => ∃ x, e = .returned x ∧ Does N σ h w r h x w''
  | _ => False := by
 obtain ⟨⟨v, h1⟩, hc, hv⟩ := Option.map_eq_some_iff.1 hrun
 simp only at hv
 subst hv
 have ha' := RepL.ren (τ := fun i => σ (rn ρ h.n i)) (q := id) (fun _ => rfl) al ha
 rw [renL_id] at ha'
 have key := run_ok hE hI hH hname n w.heap.size f al (fragH bs) v h1 hc _ w xs (F.rel R) ha'
 have conv : ∀ {x : Value} {w' : World}, Does w.heap.size (fun i => σ (rn ρ h.n i)) (fragH bs) w v h1 x w' → Does N σ h w v h x w' := by
  rintro x w' ⟨σ', _, _, q1, _, q2⟩
  have q3 : RepL σ [v] [x] := RepL.closed hr (RepL.one q1)
  cases q3 with
  | cons _ _ _ _ q4 _ => exact Does.stay q4 (R.world q2) (q2.mono R.base) (Nat.le_refl _)
 split at key
 ·rename_i x w' e
  rw [e]
  exact conv key
 ·rename_i g ys w' e
  rw [e]
  exact key.mono fun e w'' ⟨x, h1, h2⟩ => ⟨x, h1, conv h2⟩
 ·exact key.elim
end
end Go.Proofs.YtbchdlelmkmagaaGreatDoor.VM
namespace Go.Proofs.YtbchdlelmkmagaaGreatDoor
open Go.RowKit
theorem block_of_add (a : Addr) (n : Nat) : (a.add n).block = a.block := by unfold Addr.add; split <;> rfl
theorem add_zero_ (a : Addr) : a.add 0 = a := by unfold Addr.add; simp
def At1 {α : Type} (f : α → Value) (w : World) (A : Option Addr) (l : List α) : Prop :=
 l.length ≤ 9223372036854775807 ∧ (0 < l.length → ∃ ad, A = some ad ∧ ∀ i x, l[i]? = some x → w.cell? (ad.add i) = some (f x))
abbrev vByte : UInt8 → Value := fun c => Value.int .u8 (c.toNat : Int)
section
variable {α : Type} {f : α → Value} {w w' : World} {A : Option Addr} {l : List α}
theorem At1.nil (f : α → Value) (w : World) (A : Option Addr) : At1 f w A [] := ⟨by simp, fun h => absurd h (by simp)⟩
end
theorem toList_inj {a b : ByteArray} (h : a.toList = b.toList) : a = b := by
 rw [ByteArray.toList_eq, ByteArray.toList_eq] at h
 cases a; cases b
 congr 1
 exact Array.toList_inj.1 h
theorem run_str1 {P : Program} {src dst e : TypeId} (hs : P.underlying src = some (.slice e)) (he : P.underlying e = some (.int .u8)) (hd : P.underlying dst = some .string) (w : World) (x : UInt8) (n : Int) (hn : n = (x.toNat : Int)) :
  (convert src dst (.slice (some ⟨w.heap.size, 0, none⟩) 1 1)).run P (w.alloc (.cells #[.int .u8 n] e)) = .ok (.string ⟨#[x]⟩) (w.alloc (.cells #[.int .u8 n] e)) := by
 subst hn
 refine run_convert_bytes_back (P := P) _ src dst e ⟨w.heap.size, 0, none⟩ 1 [x] hs he hd fun j hj => ?_
 have : j = 0 := by simpa using hj
 subst this
 rw [add_zero_, World.cell?_alloc_mark]
 rfl
section
variable {P : Program} {T e : TypeId} {z : Value} {size bytes : Nat}
end
end Go.Proofs.YtbchdlelmkmagaaGreatDoor
namespace Go.Proofs.YtbchdlelmkmagaaGreatDoor
open Go.RowKit
end Go.Proofs.YtbchdlelmkmagaaGreatDoor
namespace Go.Proofs.YtbchdlelmkmagaaGreatDoor
open Go.RowKit Go.Maps
def InR (n : Int) : Prop := -9223372036854775808 ≤ n ∧ n ≤ 9223372036854775807
theorem dec_num {k : Nat} (h : k < 10) : (48 + UInt8.ofNat k : UInt8).toNat = 48 + k := by
 rw [UInt8.toNat_add, UInt8.toNat_ofNat_of_lt' (by show k < 256; omega)]
 show (48 + k) % 256 = _
 omega
theorem dec_add (k : Nat) : UInt8.ofNat (48 + k) = 48 + UInt8.ofNat k := by rw [UInt8.ofNat_add]; rfl
theorem dec_one {k : Nat} (h : k < 10) : Lib.decDigits k = [48 + UInt8.ofNat k] := by rw [Lib.decDigits_one h, dec_add]
theorem dec_big {n : Nat} (h : ¬ n < 10) : Lib.decDigits n = Lib.decDigits (n / 10) ++ [48 + UInt8.ofNat (n % 10)] := by rw [Lib.decDigits, dif_neg h, dec_add]
theorem str1_cons (x : UInt8) (l : List UInt8) : (⟨#[x]⟩ ++ ⟨l.toArray⟩ : ByteArray) = ⟨(x :: l).toArray⟩ := by
 apply ByteArray.ext
 simp [ByteArray.data_append]
theorem dec_len {m : Nat} (h : m ≤ 9223372036854775808) : (Lib.decDigits m).length ≤ 21 := by
 by_cases h2 : m ≤ 9223372036854775807
 ·have := Lib.itoa_length_le (m : Int) (by omega) (by omega)
  rw [Lib.itoa_nonneg] at this
  omega
 ·have := Lib.itoa_length_le (-(m : Int)) (by omega) (by omega)
  rw [Lib.itoa_neg m (by omega), List.length_cons] at this
  omega
set_option maxRecDepth 100000 in
set_option maxHeartbeats 1000000 in
theorem rdig_pos (w : World) (m : Nat) (hm : m ≤ 9223372036854775807) :
  Calls Tryz.prog 38 #[.int .i64 m] w fun e w' => e = .returned (.string ⟨(Lib.itoa (m : Int)).toArray⟩) ∧ Below w.heap.size w w' := by
 have hw : IntKind.u64.wrap (m : Int) = m := by simp [IntKind.wrap, IntKind.signed, IntKind.bits]; omega
 have hlm := Lib.hid (dec_len (m := m) (by omega))
 have HR := Lib.hid (Lib.itoa_nonneg m)
 go_enter Tryz.func38, Tryz.ntmps38
 go_wp2
 go_loopw [3, 4] (fun u s wr => ∃ (k : Nat) (l : List UInt8), k ≤ m ∧ u = .int .u64 k ∧ s = .string ⟨l.toArray⟩ ∧ Hid (Lib.decDigits k ++ l = Lib.decDigits m) ∧ Below w.heap.size w wr) (fun u _ _ => (intOf u).toNat)
 case atStart => exact ⟨m, [], Nat.le_refl _, rfl, rfl, by simp [Hid], Below.refl _ _⟩
 case round =>
  obtain ⟨k, l, hk, rfl, rfl, hd, hb⟩ := hrel
  have hlen : l.length ≤ 21 := by have := congrArg List.length hd.out; rw [List.length_append] at this; have := hlm.out; omega
  by_cases h10 : k < 10
  ·have hnum : 48 + (k : Int) = ((48 + UInt8.ofNat k : UInt8).toNat : Int) := by rw [dec_num (by omega)]; omega
   have hcv := run_str1 (P := Tryz.prog) Tryz.underlying22 Tryz.underlying5 Tryz.underlying9 wr _ _ hnum
   have hsz := hb.size
   clear hnum
   go_wp2
   go_ret
   refine ⟨?_, hb.alloc hsz _⟩
   have hd := hd.out
   rw [dec_one h10] at hd
   rw [HR.out, ← hd]
   show Ending.returned (.string (⟨#[48 + UInt8.ofNat k]⟩ ++ ⟨l.toArray⟩)) = _
   rw [str1_cons]; rfl
  ·have hnum : 48 + (k : Int) % 10 = ((48 + UInt8.ofNat (k % 10) : UInt8).toNat : Int) := by rw [dec_num (by omega)]; omega
   have hcv := run_str1 (P := Tryz.prog) Tryz.underlying22 Tryz.underlying5 Tryz.underlying9 wr _ _ hnum
   have hsz := hb.size
   have hd2 : Hid (Lib.decDigits (k / 10) ++ ((48 + UInt8.ofNat (k % 10)) :: l) = Lib.decDigits m) := by rw [← hd.out, dec_big h10, List.append_assoc]; exact rfl
   clear hnum hd
   go_wp2
   go_roundw
   case rel => exact ⟨k / 10, (48 + UInt8.ofNat (k % 10)) :: l, by omega, by go_num, by rw [← str1_cons]; rfl, hd2, hb.alloc hsz _⟩
   case measure => first | (simp [intOf]; done) | (simp [intOf]; omega)
set_option maxRecDepth 100000 in
set_option maxHeartbeats 1000000 in
theorem rdig_neg (w : World) (m : Nat) (h1 : 1 ≤ m) (hm : m ≤ 9223372036854775808) :
  Calls Tryz.prog 38 #[.int .i64 (-(m : Int))] w fun e w' => e = .returned (.string ⟨(Lib.itoa (-(m : Int))).toArray⟩) ∧ Below w.heap.size w w' := by
 have hw : IntKind.u64.wrap (-(m : Int)) = 18446744073709551616 - m := by simp [IntKind.wrap, IntKind.signed, IntKind.bits]; omega
 have hw2 : IntKind.u64.wrap (-(18446744073709551616 - (m : Int))) = m := by simp [IntKind.wrap, IntKind.signed, IntKind.bits]; omega
 have hlm := Lib.hid (dec_len (m := m) (by omega))
 have HR := Lib.hid (Lib.itoa_neg m h1)
 have hneg : decide (-(m : Int) < 0) = true := decide_eq_true (by omega)
 go_enter Tryz.func38, Tryz.ntmps38
 go_wp2
 go_loopw [3, 4] (fun u s wr => ∃ (k : Nat) (l : List UInt8), k ≤ m ∧ u = .int .u64 k ∧ s = .string ⟨l.toArray⟩ ∧ Hid (Lib.decDigits k ++ l = Lib.decDigits m) ∧ Below w.heap.size w wr) (fun u _ _ => (intOf u).toNat)
 case atStart => exact ⟨m, [], Nat.le_refl _, by first | rfl | (rw [hw2]), rfl, by simp [Hid], Below.refl _ _⟩
 case round =>
  obtain ⟨k, l, hk, rfl, rfl, hd, hb⟩ := hrel
  have hlen : l.length ≤ 21 := by have := congrArg List.length hd.out; rw [List.length_append] at this; have := hlm.out; omega
  by_cases h10 : k < 10
  ·have hnum : 48 + (k : Int) = ((48 + UInt8.ofNat k : UInt8).toNat : Int) := by rw [dec_num (by omega)]; omega
   have hcv := run_str1 (P := Tryz.prog) Tryz.underlying22 Tryz.underlying5 Tryz.underlying9 wr _ _ hnum
   have hsz := hb.size
   clear hnum
   go_wp2
   go_ret
   refine ⟨?_, hb.alloc hsz _⟩
   have hd := hd.out
   rw [dec_one h10] at hd
   rw [HR.out, ← hd]
   show Ending.returned (.string (⟨#[45]⟩ ++ (⟨#[48 + UInt8.ofNat k]⟩ ++ ⟨l.toArray⟩))) = _
   rw [str1_cons, str1_cons]; rfl
  ·have hnum : 48 + (k : Int) % 10 = ((48 + UInt8.ofNat (k % 10) : UInt8).toNat : Int) := by rw [dec_num (by omega)]; omega
   have hcv := run_str1 (P := Tryz.prog) Tryz.underlying22 Tryz.underlying5 Tryz.underlying9 wr _ _ hnum
   have hsz := hb.size
   have hd2 : Hid (Lib.decDigits (k / 10) ++ ((48 + UInt8.ofNat (k % 10)) :: l) = Lib.decDigits m) := by rw [← hd.out, dec_big h10, List.append_assoc]; exact rfl
   clear hnum hd
   go_wp2
   go_roundw
   case rel => exact ⟨k / 10, (48 + UInt8.ofNat (k % 10)) :: l, by omega, by go_num, by rw [← str1_cons]; rfl, hd2, hb.alloc hsz _⟩
   case measure => first | (simp [intOf]; done) | (simp [intOf]; omega)
theorem rdig_any (w : World) (n : Int) (hn : InR n) : Calls Tryz.prog 38 #[.int .i64 n] w fun e w' => e = .returned (.string ⟨(Lib.itoa n).toArray⟩) ∧ Below w.heap.size w w' := by
 by_cases h : 0 ≤ n
 ·obtain ⟨m, rfl⟩ : ∃ m : Nat, n = m := ⟨n.toNat, by omega⟩
  exact rdig_pos w m (by have := hn.2; omega)
 ·obtain ⟨m, rfl⟩ : ∃ m : Nat, n = -(m : Int) := ⟨n.natAbs, by omega⟩
  exact rdig_neg w m (by omega) (by have := hn.1; omega)
end Go.Proofs.YtbchdlelmkmagaaGreatDoor
namespace Go.Proofs
open Go.Shelf
def Tryz.laysItoa_ren : Go.Shelf.Ren := ⟨fun | 171 => 43 | 243 => 74 | 246 => 114 | 283 => 172 | 284 => 173 | 285 => 174 | 286 => 175 | 129 => 204 | 317 => 242 | 318 => 243 | 319 => 244 | 320 => 245 | 337 => 272 | 338 => 273 | n => n, fun | 3 => 3 | 9 => 9 | 2 => 2 | 4 => 4 | 171 => 201 | 0 => 0 | 53 => 114 | 37 => 22 | 5 => 5 | 173 => 204 | 212 => 243 | 51 => 222 | 20 => 20 | 213 => 244 | 46 => 180 | 232 => 273 | 233 => 274 | n => n, fun | 17 => 2 | 18 => 3 | 19 => 4 | n => n⟩
theorem Tryz.laysItoa : Go.Proofs.LaysM.n171 Tryz.prog Tryz.laysItoa_ren := {
 mixed := by kernel_rfl
 f129 := Tryz.func204.trans (congrArg some (by kernel_rfl))
 f171 := Tryz.func43.trans (congrArg some (by kernel_rfl))
 f243 := Tryz.func74.trans (congrArg some (by kernel_rfl))
 f246 := Tryz.func114.trans (congrArg some (by kernel_rfl))
 f283 := Tryz.func172.trans (congrArg some (by kernel_rfl))
 f284 := Tryz.func173.trans (congrArg some (by kernel_rfl))
 f285 := Tryz.func174.trans (congrArg some (by kernel_rfl))
 f286 := Tryz.func175.trans (congrArg some (by kernel_rfl))
 f317 := Tryz.func242.trans (congrArg some (by kernel_rfl))
 f318 := Tryz.func243.trans (congrArg some (by kernel_rfl))
 f319 := Tryz.func244.trans (congrArg some (by kernel_rfl))
 f320 := Tryz.func245.trans (congrArg some (by kernel_rfl))
 f337 := Tryz.func272.trans (congrArg some (by kernel_rfl))
 f338 := Tryz.func273.trans (congrArg some (by kernel_rfl))
 t0 := Tryz.underlying0
 a0 := Tryz.isAgg0
 z0 := Tryz.sizeOf0
 v0 := Tryz.zeroValue0
 t2 := Tryz.underlying2
 a2 := Tryz.isAgg2
 z2 := Tryz.sizeOf2
 v2 := Tryz.zeroValue2
 t3 := Tryz.underlying3
 a3 := Tryz.isAgg3
 z3 := Tryz.sizeOf3
 v3 := Tryz.zeroValue3
 t4 := Tryz.underlying4
 a4 := Tryz.isAgg4
 z4 := Tryz.sizeOf4
 v4 := Tryz.zeroValue4
 t5 := Tryz.underlying5
 a5 := Tryz.isAgg5
 z5 := Tryz.sizeOf5
 v5 := Tryz.zeroValue5
 t9 := Tryz.underlying9
 a9 := Tryz.isAgg9
 z9 := Tryz.sizeOf9
 v9 := Tryz.zeroValue9
 t20 := Tryz.underlying20
 a20 := Tryz.isAgg20
 z20 := Tryz.sizeOf20
 v20 := Tryz.zeroValue20
 t37 := Tryz.underlying22
 a37 := Tryz.isAgg22
 z37 := Tryz.sizeOf22
 v37 := Tryz.zeroValue22
 t46 := Tryz.underlying180
 a46 := Tryz.isAgg180
 z46 := Tryz.sizeOf180
 v46 := Tryz.zeroValue180
 t51 := Tryz.underlying222
 a51 := Tryz.isAgg222
 z51 := Tryz.sizeOf222
 v51 := Tryz.zeroValue222
 t53 := Tryz.underlying114
 a53 := Tryz.isAgg114
 z53 := Tryz.sizeOf114
 v53 := Tryz.zeroValue114
 t171 := Tryz.underlying201
 a171 := Tryz.isAgg201
 z171 := Tryz.sizeOf201
 v171 := Tryz.zeroValue201
 t173 := Tryz.underlying204
 a173 := Tryz.isAgg204
 z173 := Tryz.sizeOf204
 v173 := Tryz.zeroValue204
 t212 := Tryz.underlying243
 a212 := Tryz.isAgg243
 z212 := Tryz.sizeOf243
 v212 := Tryz.zeroValue243
 t213 := Tryz.underlying244
 a213 := Tryz.isAgg244
 z213 := Tryz.sizeOf244
 t232 := Tryz.underlying273
 a232 := Tryz.isAgg273
 z232 := Tryz.sizeOf273
 v232 := Tryz.zeroValue273
 t233 := Tryz.underlying274
 a233 := Tryz.isAgg274
 z233 := Tryz.sizeOf274
 v233 := Tryz.zeroValue274
 g17 := by kernel_rfl
 g18 := by kernel_rfl
 g19 := by kernel_rfl
 i0 := by kernel_rfl
 i2 := by kernel_rfl
 i3 := by kernel_rfl
 i4 := by kernel_rfl
 i5 := by kernel_rfl
 i9 := by kernel_rfl
 i20 := by kernel_rfl
 i37 := by kernel_rfl
 i46 := by kernel_rfl
 i51 := by kernel_rfl
 i53 := by kernel_rfl
 i171 := by kernel_rfl
 i173 := by kernel_rfl
 i212 := by kernel_rfl
 i232 := by kernel_rfl
 i233 := by kernel_rfl
 m17 := by kernel_rfl
 m18 := by kernel_rfl
 m19 := by kernel_rfl }
theorem YtbchdlelmkmagaaGreatDoor.itoa_any (n : Int) (h0 : -9223372036854775808 ≤ n) (h1 : n ≤ 9223372036854775807) (w : World) (htab : Lib.TabIs Tryz.prog w "internal/strconv.uint64pow10" .u64 Lib.pow10Tab) :
  Calls Tryz.prog 43 #[.int .i64 n] w fun e w' => e = .returned (.string ⟨(Lib.itoa n).toArray⟩) ∧ ∃ k os, w' = Sort.grow (w.drewN k) os := Any.strconv_Itoa Tryz.laysItoa n h0 h1 w htab
end Go.Proofs
namespace Go.Proofs.YtbchdlelmkmagaaGreatDoor.VM
open Go Go.RowKit
set_option maxRecDepth 20000
set_option linter.unusedVariables false
set_option linter.unusedSectionVars false
noncomputable section
def inL (t : List Nat) : Bool := textL.any fun u => seq u t
theorem inL_iff {t : List Nat} : inL t = true ↔ t ∈ textL := by
 unfold inL
 rw [List.any_eq_true]
 constructor
 ·rintro ⟨u, h1, h2⟩
  rw [seq_dec, decide_eq_true_iff] at h2
  subst h2; exact h1
 ·intro h; exact ⟨t, h, by rw [seq_dec, decide_eq_true_iff]⟩
def txH (m : List Nat → Memo) : Hook := fun al h => match al with
 | [.str t] => bif inL t then memoH [m t] [.str t] h else none
 | _ => none
theorem txH_ok [Sy] {f : Nat} {m : List Nat → Memo} (hm : ∀ t ∈ textL, MemoOK Tryz.prog f (m t)) : HookOK f (txH m) := by
 intro N al h v h' hc σ w xs R hr
 unfold txH at hc
 split at hc
 ·rename_i t
  cases hb : inL t with
  | false => rw [hb] at hc; cases hc
  | true =>
   rw [hb] at hc
   exact memos_ok (ms := [m t]) (fun x hx => by rw [List.mem_singleton.1 hx]; exact hm t (inL_iff.1 hb)) N _ h v h' hc σ w xs R hr
 ·cases hc
theorem eqS_self (t : List Nat) : eqS [.str t] [.str t] = true := by
 have e : ∀ l : List Nat, eqN l l = true := fun l => by
  induction l with
  | nil => rfl
  | cons a l ih => simp [eqN, ih]
 simp [eqS, e]
theorem txH_at {m : List Nat → Memo} {t : List Nat} (h : t ∈ textL) (ha : (m t).al = [.str t]) (hp : Hp) : txH m [.str t] hp = some ((m t).v.ren fun i => hp.n + i, hp.app ((m t).bs.map (Blk.ren fun i => hp.n + i))) := by
 unfold txH
 simp only [inL_iff.2 h, cond_true, memoH, ha, eqS_self]
def mayM (t : List Nat) : Memo := ⟨[.str t], .bool true, []⟩
def vlC (v : Vl) : List V := [.int .i64 (v.k : Int), .int .i64 v.n, .str v.s]
def valV (v : Vl) : V := .agg (vlC v)
def plM (t : List Nat) : Memo := ⟨[.str t], valV (plainS t), []⟩
section
variable [Sy]
theorem all_codes {p : List Nat → Prop} (h : ∀ c ∈ codeL, p (txt c)) : ∀ t ∈ textL, p t := fun t ht => by
 unfold textL at ht
 obtain ⟨c, h1, rfl⟩ := List.mem_map.1 ht
 exact h c h1
theorem mayM_ok (hg : GlobOK Tryz.prog Sy.tab globs) : ∀ t ∈ textL, MemoOK Tryz.prog 47 (mayM t) := fun t ht => by
 have hk := List.all_eq_true.1 fM_all t ht
 unfold mOK at hk
 split at hk
 ·rename_i heq
  exact @memoOK_of _ Tryz.prog (Ed) (envD hg) (@idleD _) (@hooksD _) nameOK 47 3000 6000 [] (mayM t) (by unfold mayM; rw [heq]; simp [V.ren]) rfl rfl (by decide)
 ·cases hk
theorem plM_ok (hg : GlobOK Tryz.prog Sy.tab globs) {f : Nat} (hf : textL.all (plOK f) = true) : ∀ t ∈ textL, MemoOK Tryz.prog f (plM t) := fun t ht => by
 have hk := List.all_eq_true.1 hf t ht
 unfold plOK at hk
 split at hk
 ·rename_i k n s heq
  simp only [Bool.and_eq_true, seq_dec, decide_eq_true_iff, ieq_dec] at hk
  obtain ⟨⟨h1, h2⟩, h3⟩ := hk
  have h1 := Nat.eq_of_beq_eq_true h1
  exact @memoOK_of _ Tryz.prog (Ed) (envD hg) (@idleD _) (@hooksD _) nameOK f 3000 6000 [] (plM t) (by unfold plM valV vlC; rw [heq, h1, h2, h3]; simp [V.ren, V.renL]) rfl rfl (by decide)
 ·cases hk
end
def kidPs : List Nk → List (List V × Nat)
 | [] => []
 | d :: l => match d.kids with
  | [] => kidPs l
  | _ :: _ => (intsV d.kids, 3) :: kidPs l
def fragN (l : List Nk) : List (List V × Nat) := (nkCs 1 l, 88) :: kidPs l
def NodesB (h : Hp) (k : Nat) (l : List Nk) : Prop := FragAt h ((List.range (fragN l).length).map (k + ·)) (fragN l)
def nodesL : List (List Nk) := textL.filterMap nksT
def trRun (f : Nat) (l : List Nk) : Option V := (callOf Ed (exec Ed 3000) f [.slo 0 0 l.length l.length 14] (fragH (fragN l))).map (·.1)
def trOK (f : Nat) (l : List Nk) : Bool := match trRun f l with
 | some (.bool true) => true
 | _ => false
theorem trP_all : nodesL.all (trOK 36) = true := by kernel_rfl
theorem trR_all : nodesL.all (trOK 53) = true := by kernel_rfl
open Classical in
def treeH : Hook := fun al h => match al with
 | [v] => if ∃ l k, l ∈ nodesL ∧ v = .slo k 0 l.length l.length 14 ∧ NodesB h k l then some (.bool true, h) else none
 | _ => none
theorem treeH_at {h : Hp} {k : Nat} {l : List Nk} (hl : l ∈ nodesL) (hn : NodesB h k l) : treeH [.slo k 0 l.length l.length 14] h = some (.bool true, h) := by
 unfold treeH
 simp only
 rw [if_pos ⟨l, k, hl, rfl, hn⟩]
theorem treeH_ok [Sy] (hg : GlobOK Tryz.prog Sy.tab globs) {f : Nat} (hf : nodesL.all (trOK f) = true) : HookOK f treeH := by
 intro N al h v h' hc σ w xs R hr
 unfold treeH at hc
 split at hc
 ·rename_i u
  split at hc
  ·rename_i hex
   cases hc
   obtain ⟨l, k, hl, rfl, hn⟩ := hex
   have hk := List.all_eq_true.1 hf l hl
   unfold trOK at hk
   split at hk
   ·rename_i heq
    refine @frag_ok _ Tryz.prog (Ed) (envD hg) (@idleD _) (@hooksD _) nameOK f 3000 [.slo 0 0 l.length l.length 14] (.bool true) (fragN l) heq rfl N σ h w xs _ R hn ?_
    have e : rn ((List.range (fragN l).length).map (k + ·)) h.n 0 = k := by
     unfold rn fragN
     simp [List.range_succ_eq_map]
    simp only [V.renL, V.ren, e]
    exact hr
   ·cases hk
  ·cases hc
 ·cases hc
open Classical in
def dgH : Hook := fun al h => match al with
 | [.int .i64 n] => if Fit64 n then some (.str (digL n), h) else none
 | _ => none
theorem dig_str (n : Int) : (⟨(Lib.itoa n).toArray⟩ : ByteArray) = bytesOf (digL n) := by
 unfold bytesOf digL
 congr 1
 rw [List.map_map]
 have e : (Lib.itoa n).map (Nat.toUInt8 ∘ UInt8.toNat) = Lib.itoa n := (List.map_congr_left fun x _ => by simp).trans (List.map_id _)
 rw [e]
theorem dig_lt (n : Int) : ∀ x ∈ digL n, x < 256 := fun x hx => by
 unfold digL at hx
 obtain ⟨y, _, rfl⟩ := List.mem_map.1 hx
 exact y.toNat_lt
section
variable [Sy]
theorem dgH_ok {f : Nat} {fn : Func} (hf : Tryz.prog.funcs[f]? = some fn) (hb : fn.body.isNone = false) (hc0 : ∀ (w : World), (∀ p ∈ Sy.tab, w.heap[p.1]? = some p.2) → ∀ n : Int, Fit64 n → Calls Tryz.prog f #[.int .i64 n] w fun e w' => e = .returned (.string ⟨(Lib.itoa n).toArray⟩) ∧ Below w.heap.size w w') : HookOK f dgH := by
 intro N al h v h' hc σ w xs R hr
 unfold dgH at hc
 split at hc
 ·rename_i n
  split at hc
  ·rename_i hn
   cases hc
   cases hr with | cons _ x _ _ r1 r2 =>
   cases r2
   cases r1
   refine hook_of hf hb R (Rep.str _ (dig_lt n)) ?_
   rw [← dig_str]
   exact hc0 w (fun p hp => (R.tab p hp).2) n hn
  ·cases hc
 ·cases hc
end
def Tab (w : World) : Prop := Lib.TabIs Tryz.prog w "internal/strconv.uint64pow10" .u64 Lib.pow10Tab
def hkD : List (Nat × Hook) := (15, memoH txM) :: (5, memoH [awakeMemo]) :: (47, txH mayM) :: (20, txH memoOf) :: (11, txH memoOf) :: (17, txH plM) :: (13, txH plM) :: (36, treeH) :: (53, treeH) :: (43, dgH) :: (38, dgH) :: hkB
def EE : Env := Env.of Tryz.prog (hooksOf hkD) idles (soG globs)
theorem awake_ok (h : Hp) : Ans EE 5 [] h fun v h' => v = .bool true ∧ h' = h.app [] :=
 ⟨_, _, Cs.hook (g := memoH [awakeMemo]) (by kernel_rfl) rfl, rfl, rfl⟩
structure GlOK (tab : List (Nat × Obj)) : Prop where
 g : GlobOK Tryz.prog tab globs
 t : ∀ w : World, (∀ p ∈ tab, w.heap[p.1]? = some p.2) → Tab w
theorem hkD_ok [Sy] (hg : GlOK Sy.tab) : ∀ p ∈ hkD, HookOK p.1 p.2 := fun p hp => by
 simp only [hkD, List.mem_cons] at hp
 rcases hp with rfl | rfl | rfl | rfl | rfl | rfl | rfl | rfl | rfl | rfl | rfl | hp
 ·exact memos_ok (txM_ok hg.g)
 ·exact memos_ok fun m hm => by rw [List.mem_singleton.1 hm]; exact awakeMemo_ok
 ·exact txH_ok (mayM_ok hg.g)
 ·exact txH_ok (all_codes (fF_ok hg.g))
 ·exact txH_ok (all_codes (fR_ok hg.g))
 ·exact txH_ok (plM_ok hg.g fPlA)
 ·exact txH_ok (plM_ok hg.g fPlB)
 ·exact treeH_ok hg.g trP_all
 ·exact treeH_ok hg.g trR_all
 ·exact dgH_ok Tryz.func43 (by kernel_rfl) fun w hw n hn => (itoa_any n hn.1 hn.2 w (hg.t w hw)).mono fun e w' ⟨h1, k, os, h2⟩ => ⟨h1, by subst h2; exact Lib.below_grow w.heap.size w (Nat.le_refl _) k os⟩
 ·exact dgH_ok Tryz.func38 (by kernel_rfl) fun w _ n hn => rdig_any w n ⟨hn.1, hn.2⟩
 ·exact hkB_ok p hp
theorem hooksEE [Sy] (hg : GlOK Sy.tab) : HooksOK Tryz.prog EE := fun f g hf => hooksOf_ok (l := hkD) (hkD_ok hg) hf
theorem envEE [Sy] (hg : GlOK Sy.tab) : EnvOK Tryz.prog EE := soG_ok hg.g _ _
theorem idleEE [Sy] : IdleOK Tryz.prog EE := @idleOK _
theorem calls_of_ans [Sy] (hg : GlOK Sy.tab) {f : Nat} {fn : Func} (hf : Tryz.prog.funcs[f]? = some fn) (hb : fn.body.isNone = false) {al : List V} {h : Hp} {Q : V → Hp → Prop} (hc : Ans EE f al h Q) {N : Nat} {σ : Mp} {w : World} {xs : List Value} (R : Rel N σ h w) (hr : RepL σ al xs) :
  Calls Tryz.prog f xs.toArray w fun e w'' => ∃ v h' x, Q v h' ∧ e = .returned x ∧ Does N σ h w v h' x w'' := by
 obtain ⟨v, h', ⟨n, hn⟩, hq⟩ := hc
 refine (@runs _ Tryz.prog EE (envEE hg) (@idleEE _) (@hooksEE _ hg) nameOK f fn hf hb al h h' v n hn N σ w xs R hr).mono ?_
 rintro e w2 ⟨x, h1, h2⟩
 exact ⟨v, h', x, hq, h1, h2⟩
end
end Go.Proofs.YtbchdlelmkmagaaGreatDoor.VM
namespace Go.Proofs.YtbchdlelmkmagaaGreatDoor.VM
open Go Go.RowKit
set_option linter.unusedVariables false
set_option linter.unusedSectionVars false
variable [Sy]
noncomputable section
structure Told (v : V) (x : Value) : Prop where
 rep : ∀ σ, Rep σ v x
 int : ∀ k n, x = .int k n → v = .int k n
 str : ∀ s, x = .string s → v = .str (strOf s)
theorem exL {l : List Value} (hl : ∀ y ∈ l, ∃ v : V, Told v y) : ∃ vs : List V, (∀ σ, RepL σ vs l) ∧ ∀ (i : Nat) (x : Value), l[i]? = some x → ∃ v, vs[i]? = some v ∧ Told v x := by
 induction l with
 | nil => exact ⟨[], fun _ => .nil, fun i x h => by simp at h⟩
 | cons y l ih =>
  obtain ⟨v, hv⟩ := hl y (by simp)
  obtain ⟨vs, hvs, h2⟩ := ih fun z hz => hl z (by simp [hz])
  refine ⟨v :: vs, fun σ => .cons _ _ _ _ (hv.rep σ) (hvs σ), fun i x h => ?_⟩
  cases i with
  | zero => simp at h; subst h; exact ⟨v, rfl, hv⟩
  | succ i => simpa using h2 i x (by simpa using h)
theorem exV (y : Value) : ∃ v : V, Told v y := by
 obtain ⟨x, hx⟩ : ∃ x, x = y := ⟨_, rfl⟩
 rw [← hx]
 by_cases h : x.oneCell' = true
 ·by_cases hi : ∃ k n, x = .int k n
  ·obtain ⟨k, n, rfl⟩ := hi
   exact ⟨.int k n, fun _ => .int k n, fun _ _ e => (by cases e; rfl), fun _ e => (by cases e)⟩
  ·by_cases hs : ∃ s, x = .string s
   ·obtain ⟨s, rfl⟩ := hs
    refine ⟨.str (strOf s), fun σ => ?_, fun _ _ e => (by cases e), fun _ e => (by cases e; rfl)⟩
    have := Rep.str (σ := σ) (strOf s) (strOf_lt s)
    rwa [bytesOf_strOf] at this
   ·exact ⟨.any, fun _ => .any x h, fun k n e => absurd ⟨k, n, e⟩ hi, fun s e => absurd ⟨s, e⟩ hs⟩
 ·match x, hx, h with
  | .agg cs, hx, _ =>
   have hm : ∀ z ∈ cs.toList, ∃ v : V, Told v z := fun z hz => by
    have hz' : z ∈ cs := by simpa using hz
    have h1 := Array.sizeOf_lt_of_mem hz'
    have h2 : SizeOf.sizeOf z < SizeOf.sizeOf y := by rw [← hx]; simp; omega
    exact exV z
   obtain ⟨vs, hvs, _⟩ := exL hm
   exact ⟨.agg vs, fun σ => .agg vs cs.toList (hvs σ), fun _ _ e => (by cases e), fun _ e => (by cases e)⟩
  | .tuple cs, hx, _ =>
   have hm : ∀ z ∈ cs.toList, ∃ v : V, Told v z := fun z hz => by
    have hz' : z ∈ cs := by simpa using hz
    have h1 := Array.sizeOf_lt_of_mem hz'
    have h2 : SizeOf.sizeOf z < SizeOf.sizeOf y := by rw [← hx]; simp; omega
    exact exV z
   obtain ⟨vs, hvs, _⟩ := exL hm
   exact ⟨.tup vs, fun σ => .tup vs cs.toList (hvs σ), fun _ _ e => (by cases e), fun _ e => (by cases e)⟩
 termination_by SizeOf.sizeOf y
def RdO (h : Hp) (v : V) (len : Nat) (cs : List V) : Prop := (v = .emp ∧ len = 0) ∨ ∃ b off vs, rdCells h b = some vs ∧ sub vs off len = some cs ∧ ∃ cap, v = .sl b off len cap
def V.block? : V → Option Nat
 | .sl b _ _ _ => some b
 | _ => none
theorem Hp.n_new' (h : Hp) (b : Blk) : (h.new b).n = h.n + 1 := rfl
structure Opened (w : World) (bs : List Nat) (h : Hp) (σ : Mp) : Prop where
 rel : Rel w.heap.size σ h w
 n : h.n = bs.length
 at_ : ∀ (i b : Nat) (arr : Array Value) (e : TypeId) (fz : Nat × Nat), bs[i]? = some b → w.heap[b]? = some (.cells arr e fz) → σ i = some (b, arr.size) ∧ ∃ vs : List V, rdCells h i = some vs ∧ ∀ (j : Nat) (x : Value), arr[j]? = some x → ∃ v, vs[j]? = some v ∧ Told v x
 only : ∀ i b m, σ i = some (b, m) → bs[i]? = some b
theorem opened_nil (w : World) (ht : ∀ p ∈ Sy.tab, p.1 < w.heap.size ∧ w.heap[p.1]? = some p.2) : Opened w [] ⟨.leaf, 0⟩ (fun _ => none) := ⟨Rel.none w ht, rfl, fun i b _ _ _ h => (by simp at h), fun _ _ _ h => (by cases h)⟩
theorem opened_snoc {w : World} {bs : List Nat} {h : Hp} {σ : Mp} (O : Opened w bs h σ) {b : Nat} (hb : b ∉ bs) {arr : Array Value} {e : TypeId} {fz : Nat × Nat} (hw : w.heap[b]? = some (.cells arr e fz)) : ∃ h' σ', Opened w (bs ++ [b]) h' σ' := by
 obtain ⟨vs, hvs, hv2⟩ := exL (l := arr.toList) fun y _ => exV y
 have hbl := (Array.getElem?_eq_some_iff.1 hw).1
 have hfree : ∀ C m, σ C ≠ some (b, m) := fun C m hC => hb (List.mem_of_getElem? (O.only C b m hC))
 have hn := O.n
 have hnone : σ h.n = Option.none := O.rel.free
 have R := O.rel.more (.cells vs e true)
 have hle : Mp.le σ (σ.put h.n (b, arr.size)) := Mp.le_put hnone
 have key : ∀ C c m, (σ.put h.n (b, arr.size)) C = some (c, m) → (C = h.n ∧ c = b ∧ m = arr.size) ∨ σ C = some (c, m) := fun C c m hC => by
  unfold Mp.put at hC
  split at hC
  ·rename_i e; cases hC; exact .inl ⟨e, rfl, rfl⟩
  ·exact .inr hC
 have hnew : (h.new (.cells vs e true)).t.get h.n = some (.cells vs e true) := by rw [Hp.get_new, if_pos rfl]
 refine ⟨h.new (.cells vs e true), σ.put h.n (b, arr.size), ⟨⟨fun C c m hC => ?_, fun C D c m q hC hD => ?_, fun C c m hC hlt => ?_, O.rel.base, O.rel.tab⟩, by simp [Hp.n_new', hn], fun i b' arr' e' fz' hi hw' => ?_, fun C c m hC => ?_⟩⟩
 ·rcases key C c m hC with ⟨rfl, rfl, rfl⟩ | h1
  ·refine ⟨Nat.lt_succ_self _, hbl, _, hnew, fun o ho => ?_⟩
   rw [hw] at ho; cases ho
   exact ⟨arr.toList, [], fz, by simp, hvs _, by simp, fun h => by cases h⟩
  ·obtain ⟨h2, h3, k2, h4, h5⟩ := R.has C c m h1
   exact ⟨h2, h3, k2, h4, fun o ho => (h5 o ho).mono hle⟩
 ·rcases key C c m hC with ⟨rfl, rfl, rfl⟩ | h1 <;> rcases key D c q hD with ⟨e1, e2, e3⟩ | h2
  ·exact .inl e1.symm
  ·exact absurd h2 (hfree _ _)
  ·subst e2; exact absurd h1 (hfree _ _)
  ·exact R.inj C D c m q h1 h2
 ·rcases key C c m hC with ⟨rfl, rfl, rfl⟩ | h1
  ·exact .inl ⟨vs, e, hnew⟩
  ·exact R.old C c m h1 hlt
 ·by_cases hil : i < bs.length
  ·rw [List.getElem?_append_left hil] at hi
   obtain ⟨h1, us, h2, h3⟩ := O.at_ i b' arr' e' fz' hi hw'
   refine ⟨hle _ _ h1, us, ?_, h3⟩
   unfold rdCells at h2 ⊢
   rw [Hp.get_new, if_neg (by omega)]
   exact h2
  ·rw [List.getElem?_append_right (by omega)] at hi
   have h0 : i = bs.length := by
    have := (List.getElem?_eq_some_iff.1 hi).1
    simp at this; omega
   subst h0
   simp at hi
   subst hi
   rw [hw] at hw'; cases hw'
   rw [← hn]
   refine ⟨Mp.put_same _ _ _, vs, by unfold rdCells; rw [hnew], fun j x hx => hv2 j x (by simpa using hx)⟩
 ·rcases key C c m hC with ⟨rfl, rfl, rfl⟩ | h1
  ·rw [hn]; simp
  ·have := O.only C c m h1
   rw [List.getElem?_append_left (List.getElem?_eq_some_iff.1 this).1]
   exact this
theorem opened_all (w : World) (ht : ∀ p ∈ Sy.tab, p.1 < w.heap.size ∧ w.heap[p.1]? = some p.2) : ∀ (bs : List Nat), (∀ b ∈ bs, ∃ arr e fz, w.heap[b]? = some (.cells arr e fz)) → ∃ cs h σ, (∀ b ∈ bs, b ∈ cs) ∧ Opened w cs h σ
 | [], _ => ⟨[], _, _, fun _ h => h, opened_nil w ht⟩
 | b :: bs, hb => by
  obtain ⟨cs, h, σ, h1, O⟩ := opened_all w ht bs fun c hc => hb c (by simp [hc])
  by_cases hm : b ∈ cs
  ·refine ⟨cs, h, σ, fun c hc => ?_, O⟩
   rcases List.mem_cons.1 hc with rfl | hc
   ·exact hm
   ·exact h1 c hc
  ·obtain ⟨arr, e, fz, hw⟩ := hb b (by simp)
   obtain ⟨h', σ', O'⟩ := opened_snoc O hm hw
   refine ⟨cs ++ [b], h', σ', fun c hc => ?_, O'⟩
   rcases List.mem_cons.1 hc with rfl | hc
   ·simp
   ·simp [h1 c hc]
def blocksOf {α : Type} (A : Option Addr) (l : List α) : List Nat := match A, l with
 | some a, _ :: _ => [a.block]
 | _, _ => []
theorem blocks_ok {α : Type} {f : α → Value} {w : World} {A : Option Addr} {l : List α} (h : At1 f w A l) : ∀ b ∈ blocksOf A l, ∃ arr e fz, w.heap[b]? = some (.cells arr e fz) := by
 intro b hb
 unfold blocksOf at hb
 split at hb
 ·rename_i a x l'
  simp at hb; subst hb
  obtain ⟨ad, e, hc⟩ := h.2 (by simp)
  cases e
  have := hc 0 x rfl
  unfold World.cell? at this
  rw [block_of_add] at this
  split at this
  ·rename_i c t f hh; exact ⟨_, _, _, hh⟩
  ·cases this
 ·simp at hb
theorem opened_list {α : Type} {f : α → Value} {g : α → V} (hfg : ∀ x v, Told v (f x) → v = g x) {w : World} {cs : List Nat} {h : Hp} {σ : Mp} (O : Opened w cs h σ) {A : Option Addr} {l : List α} {c : Nat} (hA : At1 f w A l) (hb : ∀ b ∈ blocksOf A l, b ∈ cs) :
  ∃ v, Rep σ v (.slice A l.length c) ∧ RdO h v l.length (l.map g) ∧ ∀ b, v.block? = some b → b < h.n := by
 cases l with
 | nil => exact ⟨.emp, .emp _ _, .inl ⟨rfl, rfl⟩, fun b h => by cases h⟩
 | cons x l =>
  obtain ⟨ad, rfl, hc⟩ := hA.2 (by simp)
  obtain ⟨i, hi⟩ := List.mem_iff_getElem?.1 (hb ad.block (by simp [blocksOf]))
  have h0 := hc 0 x rfl
  have hsp : ad.spot = none ∧ ∃ arr e fz, w.heap[ad.block]? = some (.cells arr e fz) := by
   unfold World.cell? at h0
   rw [block_of_add] at h0
   split at h0
   ·rename_i arr e fz hh
    split at h0
    ·cases h0
    ·rename_i hs
     refine ⟨?_, arr, e, fz, hh⟩
     unfold Addr.add at hs
     split at hs <;> simp_all
   ·cases h0
  obtain ⟨hs, arr, e, fz, hw⟩ := hsp
  obtain ⟨b, o, s⟩ := ad
  simp only at hs hw hi
  subst hs
  obtain ⟨h1, vs, h2, h3⟩ := O.at_ i b arr e fz hi hw
  have hin := (List.getElem?_eq_some_iff.1 hi).1
  refine ⟨.sl i o (x :: l).length c, .sl _ _ _ _ _ _ h1, .inr ⟨i, o, vs, h2, ?_, _, rfl⟩, fun b' hb' => by cases hb'; rw [O.n]; exact hin⟩
  have key : (vs.drop o).take (x :: l).length = (x :: l).map g := by
   apply List.ext_getElem?
   intro j
   rw [List.getElem?_take, List.getElem?_map]
   split
   ·rename_i hj
    have hl : (x :: l)[j]? = some (x :: l)[j] := List.getElem?_eq_getElem hj
    have hcj := hc j _ hl
    rw [addr_add] at hcj
    simp only [World.cell?, hw, Option.isSome_none, Bool.false_eq_true, if_false] at hcj
    obtain ⟨v, g1, g2⟩ := h3 _ _ hcj
    rw [List.getElem?_drop, g1, hl, Option.map_some, hfg _ _ g2]
   ·rw [List.getElem?_eq_none (by omega)]; rfl
  unfold sub
  rw [key]
  simp
end
end Go.Proofs.YtbchdlelmkmagaaGreatDoor.VM
namespace Go.Proofs.YtbchdlelmkmagaaGreatDoor
open Go Go.RowKit VM
set_option linter.unusedVariables false
set_option maxRecDepth 20000
def Tabs (W : World) : Prop := Tab W ∧ ∃ u v ty fz, W.heap[0]? = some (.cells #[.iface u v] ty fz)
theorem iface_at (W : World) {s : String} {d : DataW Unit} (hL : laidMet Tryz.prog [("strconv.ErrSyntax", .iface s d)] W) : ∃ u v ty fz, W.heap[0]? = some (.cells #[.iface u v] ty fz) := by
 obtain ⟨ps, ⟨g, t, cs, fuel, p, q, h1, h2, h3, h4, _⟩, _⟩ := hL
 have e1 : Tryz.prog.globalNamed "strconv.ErrSyntax" = some 0 := by kernel_rfl
 have e2 : (Tryz.prog.globals[0]?).map (·.type) = some 116 := by kernel_rfl
 rw [e1] at h1
 cases h1
 rw [e2] at h2
 cases h2
 cases fuel with
 | zero => cases h4
 | succ fuel =>
  obtain ⟨ms, hu⟩ : ∃ ms, Tryz.prog.underlying 116 = some (.interface ms) := ⟨_, Tryz.underlying116⟩
  have key : ∃ u v, cs.toList = [.iface u v] := by
   generalize cs.toList = l at h4 ⊢
   unfold DataW.trod at h4
   simp only [hu] at h4
   rcases l with _ | ⟨x, _ | ⟨y, r⟩⟩
   ·cases h4
   ·cases x <;> first | exact ⟨_, _, rfl⟩ | (cases h4; done)
   ·cases x <;> (cases h4; done)
  obtain ⟨u, v, hcs⟩ := key
  obtain rfl : cs = #[.iface u v] := Array.toList_inj.1 (by rw [hcs])
  unfold World.var? at h3
  rw [e1] at h3
  simp only [Option.bind_some] at h3
  split at h3
  ·rename_i cs2 ty fz hh
   cases h3
   exact ⟨u, v, ty, fz, hh⟩
  ·cases h3
@[reducible] def syE (obj o2 : Obj) : Sy := ⟨fun _ => 0, fun _ => [], [(2, obj), (0, o2)], fun g => (g, 0)⟩
theorem glOK_of {W : World} (htabs : Tabs W) : ∃ obj o2, GlOK (syE obj o2).tab ∧ ∀ p ∈ (syE obj o2).tab, p.1 < W.heap.size ∧ W.heap[p.1]? = some p.2 := by
 obtain ⟨htab, u, v, ty, fz, he⟩ := htabs
 have hg : Tryz.prog.globalNamed "internal/strconv.uint64pow10" = some 2 := by kernel_rfl
 obtain ⟨obj, hobj⟩ : ∃ obj, W.heap[2]? = some obj := by
  cases hw : W.heap[2]? with
  | some o => exact ⟨o, rfl⟩
  | none =>
   exfalso
   unfold Tab Lib.TabIs World.var? at htab
   simp [hg, hw] at htab
 obtain ⟨o2, ho2⟩ : ∃ o2, o2 = Obj.cells #[.iface u v] ty fz := ⟨_, rfl⟩
 rw [← ho2] at he
 refine ⟨obj, o2, ⟨?_, fun w hw => ?_⟩, fun p hp => ?_⟩
 ·intro p hp w hw
  have hp2 := List.mem_singleton.1 hp
  subst hp2
  have h1 := hw (0, o2) (List.mem_cons_of_mem _ (List.mem_singleton.2 rfl))
  simp only [ho2] at h1
  refine ⟨.iface u v, ?_, rfl⟩
  have e3 : (isAgg 116).run Tryz.prog w = .ok false w := by
   letI := syE obj o2
   rw [run_isAgg Tryz.underlying116]
   rfl
  simp only [loadVar, Sem.run_bind, e3, Result.andThen_ok, Bool.false_eq_true, if_false]
  simp [World.cell?, h1]
 ·have h1 := hw (2, obj) List.mem_cons_self
  have h2 := htab
  unfold Tab Lib.TabIs World.var? at h2 ⊢
  simp only [hg, Option.bind_some, hobj] at h2 ⊢
  rw [h1]
  exact h2
 ·have hp : p ∈ [(2, obj), (0, o2)] := hp
  simp only [List.mem_cons, List.not_mem_nil, or_false] at hp
  rcases hp with rfl | rfl
  ·exact ⟨(Array.getElem?_eq_some_iff.1 hobj).1, hobj⟩
  ·exact ⟨(Array.getElem?_eq_some_iff.1 he).1, he⟩
theorem told_byte [Sy] (x : UInt8) (v : V) (t : VM.Told v (vByte x)) : v = .int .u8 (x.toNat : Int) := t.int _ _ rfl
theorem rd_of {h : Hp} {v : V} {l : List UInt8} (r : RdO h v l.length (l.map fun x => V.int .u8 (x.toNat : Int))) : Rd h 1 v (l.map UInt8.toNat).length ((l.map UInt8.toNat).map fun (n : Nat) => V.int .u8 (n : Int)) := by
 have e : ((l.map UInt8.toNat).map fun (n : Nat) => V.int .u8 (n : Int)) = l.map fun x => V.int .u8 (x.toNat : Int) := by rw [List.map_map]; rfl
 rcases r with ⟨rfl, h0⟩ | ⟨b, off, vs, h1, h2, c, rfl⟩
 ·exact ⟨by simp, .inl ⟨.inr rfl, by simpa using h0⟩⟩
 ·exact ⟨by simp, .inr ⟨b, off, vs, h1, by rw [List.length_map, Nat.mul_one]; exact h2.trans (by rw [← e]), .inl ⟨c, by rw [List.length_map]⟩⟩⟩
theorem in_of {n : Nat} {v : V} {h : Hp} {len : Nat} {cs : List V} (r : RdO h v len cs) (hv : ∀ b, v.block? = some b → b < n) : In n v := by
 intro b hb
 rcases r with ⟨rfl, _⟩ | ⟨b', off, vs, h1, h2, c, rfl⟩
 ·cases hb
 ·exact hv b hb
theorem u8_lt (l : List UInt8) : ∀ x ∈ l.map UInt8.toNat, x < 256 := fun x hx => by
 obtain ⟨y, _, rfl⟩ := List.mem_map.1 hx
 exact y.toNat_lt
end Go.Proofs.YtbchdlelmkmagaaGreatDoor
namespace Go.Proofs.YtbchdlelmkmagaaGreatDoor.VM
open Go
set_option linter.unusedVariables false
noncomputable section
abbrev LL := Nat → List V → Hp → Prop
abbrev QQ := V → Hp → Prop
structure Fl where
 fn : Func
 c : Code
 ls : List (List Bool × List Nat)
def pickS (s : Sl) (l : List Nat) : List V := List.rec (motive := fun _ => List V) [] (fun i _ ih => nth s i :: ih) l
def cutL : List (List Bool × List Nat) → List Bool → Bool
 | [], _ => false
 | a :: r, π => bif eqB a.1 π then true else cutL r π
def goL (l : LL) (s : Sl) (h : Hp) (π : List Bool) : List (List Bool × List Nat) → Nat → Prop
 | [], _ => False
 | a :: r, k => bif eqB a.1 π then l k (pickS s a.2) h else goL l s h π r (k + 1)
def XL (ls : List (List Bool × List Nat)) (l : LL) : Lb := fun π s h d => match d with
 | [] => goL l s h π ls 1
 | _ => False
def Fl.K (F : Fl) (p : Pr) (E : Env) (l : LL) (Q : QQ) (path : List Bool) (s : Sl) (h : Hp) : Prop := KAt p E (cutL F.ls) (XL F.ls l) F.c [] path (finK p F.fn Q) s h []
def Fl.L (F : Fl) (E : Env) (Q : QQ) : LL := fun k vs h => match F.ls[k - 1]? with
 | some a => ∀ s : List V, s.length = F.fn.ntmps → pickS s a.2 = vs → Lab E F.fn F.c Q a.1 s h []
 | none => False
theorem goL_out {F : Fl} {E : Env} {Q : QQ} {s : Sl} {h : Hp} {π : List Bool} (hl : s.length = F.fn.ntmps) : ∀ (r : List (List Bool × List Nat)) (k : Nat), 1 ≤ k → F.ls.drop (k - 1) = r → goL (F.L E Q) s h π r k → Lab E F.fn F.c Q π s h []
 | [], _, _, _, hx => hx.elim
 | a :: r, k, h1, hr, hx => by
  have hk : F.ls[k - 1]? = some a := by
   have : (F.ls.drop (k - 1))[0]? = some a := by rw [hr]; rfl
   rwa [List.getElem?_drop, Nat.add_zero] at this
  rw [goL] at hx
  cases he : eqB a.1 π with
  | true =>
   rw [he, cond_true] at hx
   simp only [Fl.L, hk] at hx
   rw [← eqB_eq he]
   exact hx s hl rfl
  | false =>
   rw [he, cond_false] at hx
   refine goL_out hl r (k + 1) (by omega) ?_ hx
   have := congrArg (List.drop 1) hr
   rw [List.drop_drop] at this
   rw [show k + 1 - 1 = k - 1 + 1 by omega]
   exact this
theorem oL (F : Fl) {E : Env} {Q : QQ} : ∀ π s h d, XL F.ls (F.L E Q) π s h d → s.length = F.fn.ntmps → Lab E F.fn F.c Q π s h d := by
 intro π s h d hx hl
 cases d with
 | cons _ _ => exact hx.elim
 | nil => exact goL_out hl F.ls 1 (by omega) rfl hx
theorem labR {F : Fl} {E : Env} {Q : QQ} {k : Nat} {a : List Bool × List Nat} (hk : F.ls[k - 1]? = some a) {vs : List V} {h : Hp} {path : List Bool} (hp : path.reverse = a.1) (H : ∀ s : Sl, pickS s a.2 = vs → F.K (Pu E) E (F.L E Q) Q path (nths s F.fn.ntmps 0) h) : F.L E Q k vs h := by
 simp only [Fl.L, hk]
 intro s hl hv
 have h1 := H s hv
 rw [← nth_all hl] at h1
 rw [← hp]
 exact lab_ofX (oL F) path h1
theorem ansL {F : Fl} {E : Env} {Q : QQ} {f : Nat} {al : List V} {h : Hp} (hk : E.hook f = none) (hf : E.fn.get f = some F.fn) (hb : F.fn.body = some F.c) (hl0 : Nat.ble al.length F.fn.ntmps = true) (H : F.K (Pu E) E (F.L E Q) Q [] (al ++ List.replicate (F.fn.ntmps - al.length) undefV) h) : Ans E f al h Q :=
 ans_of hk hf hb hl0 (lab_ofX (oL F) [] H)
end
end Go.Proofs.YtbchdlelmkmagaaGreatDoor.VM
namespace Go.Proofs.YtbchdlelmkmagaaGreatDoor.VM
open Go
set_option linter.unusedVariables false
set_option maxRecDepth 100000
noncomputable section
noncomputable def c_r7_AllSpots : Code := match Tryz.f50.body with | some c => c | none => .skip
noncomputable def c_r7_GetCell : Code := match Tryz.f12.body with | some c => c | none => .skip
noncomputable def F_r7_GetCell : Fl := ⟨Tryz.f12, c_r7_GetCell, []⟩
noncomputable def t_r7_GetCell_0 (p : Pr) (l : LL) (Q : QQ) (v0 v1 : V) (h : Hp) : Prop :=
 p.box h 26 v0 fun x1 h2 b3 =>
 p.box h2 42 v1 fun x4 h5 b6 =>
 p.load h5 26 x1 fun x7 =>
 p.faddr 42 x4 0 fun x8 =>
 p.load h5 9 x8 fun x9 =>
 p.call 24 [x7, x9] h5 fun x10 h11 =>
 p.bin .lss 3 false true x10 (.int .i64 0) fun x12 =>
 p.gval x12 false (fun k13 =>
  p.faddr 26 x1 0 fun x14 =>
  k13 x14) fun x15 =>
 p.gval x12 false (fun k16 =>
  p.load h11 24 x15 fun x17 =>
  k16 x17) fun x18 =>
 p.gval x12 false (fun k19 =>
  k19 x10) fun x20 =>
 p.gval x12 false (fun k21 =>
  p.iaddr 24 x18 x20 fun x22 =>
  k21 x22) fun x23 =>
 p.gval x12 false (fun k24 =>
  p.load h11 38 x23 fun x25 =>
  k24 x25) fun x26 =>
 p.gval x12 false (fun k27 =>
  p.faddr 42 x4 1 fun x28 =>
  k27 x28) fun x29 =>
 p.gval x12 false (fun k30 =>
  p.load h11 3 x29 fun x31 =>
  k30 x31) fun x32 =>
 p.gval x12 false (fun k33 =>
  p.faddr 42 x4 2 fun x34 =>
  k33 x34) fun x35 =>
 p.gval x12 false (fun k36 =>
  p.load h11 3 x35 fun x37 =>
  k36 x37) fun x38 =>
 p.geff x12 false (fun k39 =>
  p.call 33 [x26, x32, x38] h11 fun x40 h41 =>
  k39 x40 h41) h11 fun x42 h43 =>
 p.gval x12 false (fun k44 =>
  p.un .not x42 fun x45 =>
  k44 x45) fun x46 =>
 p.pick x12 (some (.bool true)) (some x46) fun x47 =>
 p.cond x47
 (fun _ =>
  Q (.str []) h43)
 (fun _ =>
  p.faddr 26 x1 0 fun x48 =>
  p.load h43 24 x48 fun x49 =>
  p.iaddr 24 x49 x10 fun x50 =>
  p.faddr 38 x50 2 fun x51 =>
  p.load h43 36 x51 fun x52 =>
  p.faddr 42 x4 1 fun x53 =>
  p.load h43 3 x53 fun x54 =>
  p.iaddr 36 x52 x54 fun x55 =>
  p.load h43 40 x55 fun x56 =>
  p.faddr 42 x4 2 fun x57 =>
  p.load h43 3 x57 fun x58 =>
  p.iaddr 40 x56 x58 fun x59 =>
  p.load h43 9 x59 fun x60 =>
  Q x60 h43)
theorem q_r7_GetCell_0 (p : Pr) (l : LL) (Q : QQ) (v0 v1 : V) (h : Hp) : t_r7_GetCell_0 p l Q v0 v1 h = F_r7_GetCell.K p EE l Q [] ([v0, v1] ++ List.replicate 37 undefV) h := by kernel_rfl
theorem a_r7_GetCell {Q : QQ} {v0 v1 : V} {h : Hp} (H : t_r7_GetCell_0 (Pu EE) (F_r7_GetCell.L EE Q) Q v0 v1 h) : Ans EE 12 [v0, v1] h Q :=
 ansL (F := F_r7_GetCell) (by kernel_rfl) (by kernel_rfl) (by kernel_rfl) (by kernel_rfl) (cast (q_r7_GetCell_0 _ _ _ v0 v1 h) H)
noncomputable def c_r7_Find : Code := match Tryz.f24.body with | some c => c | none => .skip
noncomputable def F_r7_Find : Fl := ⟨Tryz.f24, c_r7_Find, [([false, true, false, true], [1, 2, 5])]⟩
abbrev L_r7_Find_1 (Q : QQ) (v1 v2 v5 : V) (h : Hp) : Prop := F_r7_Find.L EE Q 1 [v1, v2, v5] h
noncomputable def t_r7_Find_0 (p : Pr) (l : LL) (Q : QQ) (v0 v1 : V) (h : Hp) : Prop :=
 p.box h 26 v0 fun x1 h2 b3 =>
 l 1 [v1, x1, (.int .i64 0)] h2
theorem q_r7_Find_0 (p : Pr) (l : LL) (Q : QQ) (v0 v1 : V) (h : Hp) : t_r7_Find_0 p l Q v0 v1 h = F_r7_Find.K p EE l Q [] ([v0, v1] ++ List.replicate 20 undefV) h := by kernel_rfl
theorem a_r7_Find {Q : QQ} {v0 v1 : V} {h : Hp} (H : t_r7_Find_0 (Pu EE) (F_r7_Find.L EE Q) Q v0 v1 h) : Ans EE 24 [v0, v1] h Q :=
 ansL (F := F_r7_Find) (by kernel_rfl) (by kernel_rfl) (by kernel_rfl) (by kernel_rfl) (cast (q_r7_Find_0 _ _ _ v0 v1 h) H)
noncomputable def t_r7_Find_1 (p : Pr) (l : LL) (Q : QQ) (v1 v2 v5 : V) (h : Hp) : Prop :=
 p.faddr 26 v2 0 fun x1 =>
 p.load h 24 x1 fun x2 =>
 p.lbui h #[24] .len [x2] fun x3 =>
 p.bin .lss 3 false false v5 x3 fun x4 =>
 p.cond x4
 (fun _ =>
  p.faddr 26 v2 0 fun x5 =>
  p.load h 24 x5 fun x6 =>
  p.iaddr 24 x6 v5 fun x7 =>
  p.faddr 38 x7 0 fun x8 =>
  p.load h 9 x8 fun x9 =>
  p.bin .eql 9 false false x9 v1 fun x10 =>
  p.cond x10
  (fun _ =>
  Q v5 h)
  (fun _ =>
  p.bin .add 3 false true v5 (.int .i64 1) fun x11 =>
  l 1 [v1, v2, x11] h))
 (fun _ =>
  Q (.int .i64 (-1)) h)
theorem q_r7_Find_1 (p : Pr) (l : LL) (Q : QQ) (s : List V) (h : Hp) : t_r7_Find_1 p l Q (nth s 1) (nth s 2) (nth s 5) h = F_r7_Find.K p EE l Q [true, false, true, false] (nths s 22 0) h := by kernel_rfl
theorem r_r7_Find_1 {Q : QQ} {v1 v2 v5 : V} {h : Hp} (H : t_r7_Find_1 (Pu EE) (F_r7_Find.L EE Q) Q v1 v2 v5 h) : L_r7_Find_1 Q v1 v2 v5 h :=
 labR (path := [true, false, true, false]) rfl rfl fun s e => by cases e; exact cast (q_r7_Find_1 _ _ _ s h) H
noncomputable def c_r7_inside : Code := match Tryz.f33.body with | some c => c | none => .skip
noncomputable def F_r7_inside : Fl := ⟨Tryz.f33, c_r7_inside, []⟩
noncomputable def t_r7_inside_0 (p : Pr) (l : LL) (Q : QQ) (v0 v1 v2 : V) (h : Hp) : Prop :=
 p.box h 38 v0 fun x1 h2 b3 =>
 p.bin .geq 3 false true v1 (.int .i64 0) fun x4 =>
 p.gval x4 true (fun k5 =>
  k5 v1) fun x6 =>
 p.gval x4 true (fun k7 =>
  p.faddr 38 x1 2 fun x8 =>
  k7 x8) fun x9 =>
 p.gval x4 true (fun k10 =>
  p.load h2 36 x9 fun x11 =>
  k10 x11) fun x12 =>
 p.gval x4 true (fun k13 =>
  p.lbui h2 #[36] .len [x12] fun x14 =>
  k13 x14) fun x15 =>
 p.gval x4 true (fun k16 =>
  p.bin .lss 3 false false x6 x15 fun x17 =>
  k16 x17) fun x18 =>
 p.pick x4 (some x18) (some (.bool false)) fun x19 =>
 p.gval x19 true (fun k20 =>
  k20 v2) fun x21 =>
 p.gval x19 true (fun k22 =>
  p.bin .geq 3 false true x21 (.int .i64 0) fun x23 =>
  k22 x23) fun x24 =>
 p.pick x19 (some x24) (some (.bool false)) fun x25 =>
 p.gval x25 true (fun k26 =>
  k26 v2) fun x27 =>
 p.gval x25 true (fun k28 =>
  p.faddr 38 x1 2 fun x29 =>
  k28 x29) fun x30 =>
 p.gval x25 true (fun k31 =>
  p.load h2 36 x30 fun x32 =>
  k31 x32) fun x33 =>
 p.gval x25 true (fun k34 =>
  k34 v1) fun x35 =>
 p.gval x25 true (fun k36 =>
  p.iaddr 36 x33 x35 fun x37 =>
  k36 x37) fun x38 =>
 p.gval x25 true (fun k39 =>
  p.load h2 40 x38 fun x40 =>
  k39 x40) fun x41 =>
 p.gval x25 true (fun k42 =>
  p.lbui h2 #[40] .len [x41] fun x43 =>
  k42 x43) fun x44 =>
 p.gval x25 true (fun k45 =>
  p.bin .lss 3 false false x27 x44 fun x46 =>
  k45 x46) fun x47 =>
 p.pick x25 (some x47) (some (.bool false)) fun x48 =>
 Q x48 h2
theorem q_r7_inside_0 (p : Pr) (l : LL) (Q : QQ) (v0 v1 v2 : V) (h : Hp) : t_r7_inside_0 p l Q v0 v1 v2 h = F_r7_inside.K p EE l Q [] ([v0, v1, v2] ++ List.replicate 27 undefV) h := by kernel_rfl
theorem a_r7_inside {Q : QQ} {v0 v1 v2 : V} {h : Hp} (H : t_r7_inside_0 (Pu EE) (F_r7_inside.L EE Q) Q v0 v1 v2 h) : Ans EE 33 [v0, v1, v2] h Q :=
 ansL (F := F_r7_inside) (by kernel_rfl) (by kernel_rfl) (by kernel_rfl) (by kernel_rfl) (cast (q_r7_inside_0 _ _ _ v0 v1 v2 h) H)
end
end Go.Proofs.YtbchdlelmkmagaaGreatDoor.VM
namespace Go.Proofs.YtbchdlelmkmagaaGreatDoor.VM
open Go
noncomputable section
theorem l_api_Book : El EE 26 1 [.nils] true := el_of (by kernel_rfl) rfl
theorem l_api_Sheet : El EE 38 3 [.str [], .int .i64 0, .nils] true := el_of (by kernel_rfl) rfl
theorem st_string : IsStr EE 9 := isStr_ (by kernel_rfl)
theorem l_string : El EE 9 1 [.str []] false := el_of (by kernel_rfl) rfl
theorem fa_api_Sheet_0 (b o : Nat) (q : V → Prop) : (Pu EE).faddr 38 (.ptr b o) 0 q ↔ q (.ptr b (o + 0)) := fa_of (by kernel_rfl) q
theorem i_int : IsInt EE 3 .i64 := isInt (by kernel_rfl)
theorem l_int : El EE 3 1 [.int .i64 0] false := el_of (by kernel_rfl) rfl
theorem fa_api_Sheet_1 (b o : Nat) (q : V → Prop) : (Pu EE).faddr 38 (.ptr b o) 1 q ↔ q (.ptr b (o + 1)) := fa_of (by kernel_rfl) q
theorem s_sl_string : IsSl EE 40 9 := isSl (by kernel_rfl)
theorem l_sl_string : El EE 40 1 [.nils] false := el_of (by kernel_rfl) rfl
theorem s_sl_sl_string : IsSl EE 36 40 := isSl (by kernel_rfl)
theorem l_sl_sl_string : El EE 36 1 [.nils] false := el_of (by kernel_rfl) rfl
theorem fa_api_Sheet_2 (b o : Nat) (q : V → Prop) : (Pu EE).faddr 38 (.ptr b o) 2 q ↔ q (.ptr b (o + 2)) := fa_of (by kernel_rfl) q
theorem so_api_Sheet : StructOf EE 38 [(0, 1), (1, 1), (2, 1)] [.str [], .int .i64 0, .nils] := structOf (by kernel_rfl)
theorem s_sl_api_Sheet : IsSl EE 24 38 := isSl (by kernel_rfl)
theorem l_sl_api_Sheet : El EE 24 1 [.nils] false := el_of (by kernel_rfl) rfl
theorem fa_api_Book_0 (b o : Nat) (q : V → Prop) : (Pu EE).faddr 26 (.ptr b o) 0 q ↔ q (.ptr b (o + 0)) := fa_of (by kernel_rfl) q
theorem l_api_Spot : El EE 42 3 [.str [], .int .i64 0, .int .i64 0] true := el_of (by kernel_rfl) rfl
theorem fa_api_Spot_0 (b o : Nat) (q : V → Prop) : (Pu EE).faddr 42 (.ptr b o) 0 q ↔ q (.ptr b (o + 0)) := fa_of (by kernel_rfl) q
theorem fa_api_Spot_1 (b o : Nat) (q : V → Prop) : (Pu EE).faddr 42 (.ptr b o) 1 q ↔ q (.ptr b (o + 1)) := fa_of (by kernel_rfl) q
theorem fa_api_Spot_2 (b o : Nat) (q : V → Prop) : (Pu EE).faddr 42 (.ptr b o) 2 q ↔ q (.ptr b (o + 2)) := fa_of (by kernel_rfl) q
theorem so_api_Spot : StructOf EE 42 [(0, 1), (1, 1), (2, 1)] [.str [], .int .i64 0, .int .i64 0] := structOf (by kernel_rfl)
theorem l_api_Node : El EE 88 14 [.int .i64 0, .int .i64 0, .str [], .str [], .int .i64 0, .int .i64 0, .bool false, .bool false, .str [], .int .i64 0, .int .i64 0, .bool false, .bool false, .nils] true := el_of (by kernel_rfl) rfl
theorem fa_api_Node_0 (b o : Nat) (q : V → Prop) : (Pu EE).faddr 88 (.ptr b o) 0 q ↔ q (.ptr b (o + 0)) := fa_of (by kernel_rfl) q
theorem fa_api_Node_1 (b o : Nat) (q : V → Prop) : (Pu EE).faddr 88 (.ptr b o) 1 q ↔ q (.ptr b (o + 1)) := fa_of (by kernel_rfl) q
theorem fa_api_Node_2 (b o : Nat) (q : V → Prop) : (Pu EE).faddr 88 (.ptr b o) 2 q ↔ q (.ptr b (o + 2)) := fa_of (by kernel_rfl) q
theorem l_api_Ref : El EE 85 5 [.str [], .int .i64 0, .int .i64 0, .bool false, .bool false] true := el_of (by kernel_rfl) rfl
theorem fa_api_Ref_0 (b o : Nat) (q : V → Prop) : (Pu EE).faddr 85 (.ptr b o) 0 q ↔ q (.ptr b (o + 0)) := fa_of (by kernel_rfl) q
theorem fa_api_Ref_1 (b o : Nat) (q : V → Prop) : (Pu EE).faddr 85 (.ptr b o) 1 q ↔ q (.ptr b (o + 1)) := fa_of (by kernel_rfl) q
theorem fa_api_Ref_2 (b o : Nat) (q : V → Prop) : (Pu EE).faddr 85 (.ptr b o) 2 q ↔ q (.ptr b (o + 2)) := fa_of (by kernel_rfl) q
theorem l_bool : El EE 4 1 [.bool false] false := el_of (by kernel_rfl) rfl
theorem fa_api_Node_3 (b o : Nat) (q : V → Prop) : (Pu EE).faddr 88 (.ptr b o) 3 q ↔ q (.ptr b (o + 3)) := fa_of (by kernel_rfl) q
theorem fa_api_Node_4 (b o : Nat) (q : V → Prop) : (Pu EE).faddr 88 (.ptr b o) 4 q ↔ q (.ptr b (o + 8)) := fa_of (by kernel_rfl) q
theorem s_sl_int : IsSl EE 86 3 := isSl (by kernel_rfl)
theorem l_sl_int : El EE 86 1 [.nils] false := el_of (by kernel_rfl) rfl
theorem fa_api_Node_5 (b o : Nat) (q : V → Prop) : (Pu EE).faddr 88 (.ptr b o) 5 q ↔ q (.ptr b (o + 13)) := fa_of (by kernel_rfl) q
theorem s_sl_api_Spot : IsSl EE 32 42 := isSl (by kernel_rfl)
theorem s_sl_api_Node : IsSl EE 43 88 := isSl (by kernel_rfl)
theorem l_sl_api_Node : El EE 43 1 [.nils] false := el_of (by kernel_rfl) rfl
theorem i_uint8 : IsInt EE 5 .u8 := isInt (by kernel_rfl)
theorem l_uint8 : El EE 5 1 [.int .u8 0] false := el_of (by kernel_rfl) rfl
theorem s_sl_uint8 : IsSl EE 22 5 := isSl (by kernel_rfl)
end
end Go.Proofs.YtbchdlelmkmagaaGreatDoor.VM
namespace Go.Proofs.YtbchdlelmkmagaaGreatDoor.VM
open Go
set_option linter.unusedVariables false
set_option linter.unusedSimpArgs false
set_option maxRecDepth 20000
noncomputable section
attribute [local instance] syZ
theorem w64 (n : Nat) (h : n < 9223372036854775808) : IntKind.i64.wrap (n : Int) = (n : Int) := by
 unfold IntKind.wrap
 simp [IntKind.bits, IntKind.signed]
 omega
theorem pu_inc (t : Nat) (cx cy : Bool) (n : Nat) (h : n < 9223372036854775807) (q : V → Prop) : (Pu EE).bin .add t cx cy (.int .i64 n) (.int .i64 1) q ↔ q (.int .i64 ((n + 1 : Nat) : Int)) := by
 rw [pu_add]
 have : IntKind.i64.wrap ((n : Int) + 1) = ((n + 1 : Nat) : Int) := by
  rw [show (n : Int) + 1 = ((n + 1 : Nat) : Int) by omega]
  exact w64 _ (by omega)
 rw [this]
theorem pu_lssN (t : Nat) (cx cy : Bool) (a b : Nat) (q : V → Prop) : (Pu EE).bin .lss t cx cy (.int .i64 a) (.int .i64 b) q ↔ q (.bool (decide (a < b))) := by
 rw [pu_lss]
 have : decide ((a : Int) < (b : Int)) = decide (a < b) := by rw [decide_eq_decide]; omega
 rw [this]
theorem keySpt : KeyOf EE 42 spV := keyOf3 Spt.s Spt.r Spt.c (fun _ => rfl) (fun a b => by obtain ⟨x, y, z⟩ := a; obtain ⟨u, v, w⟩ := b; simp) (by kernel_rfl)
theorem aeq_spt : ∃ i, EE.ty.get 42 = some i ∧ ∀ a b : Spt, veq EE i (spV a) (spV b) = some (decide (a = b)) := by
 obtain ⟨j, h1, h2⟩ := keySpt
 refine ⟨j, h1, fun a b => ?_⟩
 have h3 := h2 a b
 have hk : ∃ fs, j.k = .struct fs := by
  have e : (EE.ty.get 42).map (fun j => (match j.k with | .struct _ => true | _ => false)) = some true := by kernel_rfl
  rw [h1] at e
  simp only [Option.map_some, Option.some.injEq] at e
  split at e
  ·rename_i fs h; exact ⟨fs, h⟩
  ·cases e
 obtain ⟨fs, hk⟩ := hk
 unfold veqK at h3
 unfold veq
 rw [hk] at h3 ⊢
 exact h3
theorem pu_speq (cx cy : Bool) (a b : Spt) (q : V → Prop) : (Pu EE).bin .eql 42 cx cy (spV a) (spV b) q ↔ q (.bool (decide (a = b))) := by
 obtain ⟨i, h1, h2⟩ := aeq_spt
 show (∃ v, vbinB EE .eql 42 cx cy (spV a) (spV b) = some v ∧ q v) ↔ _
 have : vbinB EE .eql 42 cx cy (spV a) (spV b) = some (.bool (decide (a = b))) := by
  show eqOp .eql ((EE.ty.get 42).bind fun i => veq EE i (spV a) (spV b)) = _
  rw [h1, Option.bind_some, h2]
  rfl
 rw [this, ex_some]
theorem drop_cons {α : Type} {l : List α} {i : Nat} (h : i < l.length) : l.drop i = l[i] :: l.drop (i + 1) := by rw [List.drop_eq_getElem_cons h]
def atI (l : List Spt) (s : Spt) : Int := match atR l s 0 with
 | some j => j
 | none => -1
def findN : Bok → List Nat → Nat → Option Nat
 | [], _, _ => none
 | s :: b, nm, i => if s.name = nm then some i else findN b nm (i + 1)
def findZ (b : Bok) (nm : List Nat) : Int := match findN b nm 0 with
 | some j => j
 | none => -1
theorem findN_some {nm : List Nat} : ∀ {b : Bok} {i j : Nat}, findN b nm i = some j → i ≤ j ∧ ∃ s, b[j - i]? = some s ∧ s.name = nm ∧ findR b nm = some s
 | [], i, j, h => by cases h
 | s :: b, i, j, h => by
  rw [findN] at h
  by_cases e : s.name = nm
  ·rw [if_pos e] at h
   cases h
   refine ⟨Nat.le_refl _, s, by simp, e, ?_⟩
   unfold findR
   rw [List.find?_cons]
   simp [e]
  ·rw [if_neg e] at h
   obtain ⟨h1, t, h2, h3, h4⟩ := findN_some h
   refine ⟨by omega, t, ?_, h3, ?_⟩
   ·rw [show j - i = (j - (i + 1)) + 1 by omega]; exact h2
   ·unfold findR at h4 ⊢
    rw [List.find?_cons]
    simp [e, h4]
theorem findN_none {nm : List Nat} : ∀ {b : Bok} {i : Nat}, findN b nm i = none → findR b nm = none
 | [], i, h => rfl
 | s :: b, i, h => by
  rw [findN] at h
  by_cases e : s.name = nm
  ·rw [if_pos e] at h; cases h
  ·rw [if_neg e] at h
   have := findN_none h
   unfold findR at this ⊢
   rw [List.find?_cons]
   simp [e, this]
theorem find_loop (Q : V → Hp → Prop) (N : Nat) (h : Hp) (sv : V) (bk : Bok) (nm : List Nat) (b : Nat) (hv : ShsAt N h sv bk) (hs : h.t.get b = some (.cells [sv] 26 false)) (hb : bk.length < 1000000) : ∀ (k i : Nat), bk.length - i = k → i ≤ bk.length →
  (∀ z : Int, z = (match findN (bk.drop i) nm i with | some j => (j : Int) | none => -1) → Q (.int .i64 z) h) → L_r7_Find_1 Q (.str nm) (.ptr b 0) (.int .i64 i) h := by
 obtain ⟨cs, hrd⟩ := hv.rd
 intro k
 induction k with
 | zero =>
  intro i hk hi hq
  apply r_r7_Find_1
  unfold t_r7_Find_1
  rw [fa_api_Book_0, pu_load1 l_sl_api_Sheet hs rfl, pu_len hrd s_sl_api_Sheet, pu_lssN, pu_cond_d]
  refine ⟨fun h1 => absurd h1 (by omega), fun _ => hq (-1) ?_⟩
  rw [List.drop_eq_nil_of_le (by omega)]
  rfl
 | succ k ih =>
  intro i hk hi hq
  apply r_r7_Find_1
  unfold t_r7_Find_1
  rw [fa_api_Book_0, pu_load1 l_sl_api_Sheet hs rfl, pu_len hrd s_sl_api_Sheet, pu_lssN, pu_cond_d]
  refine ⟨fun h1 => ?_, fun h1 => absurd (by omega) h1⟩
  obtain ⟨b1, o1, rv, g1, g2, g3, vs, f, ro, g4, g5⟩ := sht_get hv s_sl_api_Sheet l_api_Sheet (List.getElem?_eq_getElem h1)
  rw [fa_api_Book_0, pu_load1 l_sl_api_Sheet hs rfl, g1, fa_api_Sheet_0, pu_load1 l_string g4 (g5 0 _ rfl), pu_seql, pu_cond_d]
  rw [drop_cons h1] at hq
  simp only [findN] at hq
  refine ⟨fun h3 => hq i ?_, fun h3 => ?_⟩
  ·rw [if_pos h3]
  ·rw [if_neg h3] at hq
   rw [pu_inc _ _ _ _ (by omega)]
   exact ih (i + 1) (by omega) (by omega) hq
theorem rfind_ok (N : Nat) (h : Hp) (v : V) (bk : Bok) (nm : List Nat) (hv : BokAt N h v bk) (hN : N ≤ h.n) (hb : bk.length < 1000000) : Ans EE 24 [v, .str nm] h fun x h' => x = .int .i64 (findZ bk nm) ∧ Ext h.n h h' := by
 obtain ⟨sv, rfl, hs⟩ := hv
 apply a_r7_Find
 unfold t_r7_Find_0
 obtain ⟨cs, hrd⟩ := hs.rd
 refine pu_boxX (cs := [sv]) (by have := hrd.c1; simp [allCells, this.2]) fun h1 b w => ?_
 have hx := w.ext (Nat.le_refl _)
 refine find_loop _ N h1 sv bk nm b (hs.ext (hx.mono hN)) w.at_ hb bk.length 0 (by omega) (by omega) fun z e => ⟨?_, hx⟩
 rw [e]; rfl
def insideB (s : Sht) (r c : Nat) : Bool := match s.rows[r]? with
 | some row => decide (c < row.length)
 | none => false
theorem inside_ok (N : Nat) (h : Hp) (s : Sht) (rv : V) (r c : Nat) (hv : RowsAt N h rv s.rows) (hN : N ≤ h.n) (hC : C1 rv) : Ans EE 33 [.agg (shtC s rv), .int .i64 r, .int .i64 c] h fun x h' => x = .bool (insideB s r c) ∧ Ext h.n h h' := by
 apply a_r7_inside
 unfold t_r7_inside_0
 have hcl : allCells (shtC s rv) = true := by
  show (bif rv.isCell then allCells [] else false) = true
  rw [hC.2]; rfl
 refine pu_boxX (cs := shtC s rv) hcl fun h1 b w => ?_
 have hx := w.ext (Nat.le_refl _)
 have hv1 := hv.ext (hx.mono hN)
 obtain ⟨vs, hrd⟩ := hv1.rd
 have p0 : ∀ n : Nat, decide ((0 : Int) ≤ (n : Int)) = true := fun n => decide_eq_true (by omega)
 rw [pu_geq, p0]
 simp only [pu_gval_y, pu_pick_t]
 rw [fa_api_Sheet_2, pu_load1 l_sl_sl_string w.at_ rfl, pu_len hrd s_sl_sl_string, pu_lssN]
 unfold insideB
 by_cases hr : r < s.rows.length
 ·rw [decide_eq_true hr]
  simp only [pu_gval_y, pu_pick_t]
  obtain ⟨b2, o2, w2, g1, g2, g3⟩ := rows_get hv1 s_sl_sl_string l_sl_string (List.getElem?_eq_getElem hr)
  rw [pu_geq, p0]
  simp only [pu_gval_y, pu_pick_t]
  rw [fa_api_Sheet_2, pu_load1 l_sl_sl_string w.at_ rfl, g1, g2, pu_len g3.1 s_sl_string, pu_lssN, List.getElem?_eq_getElem hr]
  exact ⟨rfl, hx⟩
 ·rw [decide_eq_false hr]
  simp only [pu_gval_ft, pu_pick_f]
  rw [List.getElem?_eq_none (by omega)]
  exact ⟨rfl, hx⟩
def getC (bk : Bok) (s : Spt) : List Nat := match findR bk s.s with
 | none => []
 | some t => match t.rows[s.r]? with
  | none => []
  | some row => (row[s.c]?).getD []
theorem rget_ok (N : Nat) (h : Hp) (v : V) (bk : Bok) (s : Spt) (hv : BokAt N h v bk) (hN : N ≤ h.n) (hb : bk.length < 1000000) : Ans EE 12 [v, spV s] h fun x h' => x = .str (getC bk s) ∧ Ext h.n h h' := by
 have hv0 := hv
 obtain ⟨sv, rfl, hs⟩ := hv
 obtain ⟨cs, hrd⟩ := hs.rd
 have hcell : allCells [sv] = true := by have := hrd.c1; simp [allCells, this.2]
 apply a_r7_GetCell
 unfold t_r7_GetCell_0
 refine pu_boxX (cs := [sv]) hcell fun h1 b1 w1 => ?_
 refine pu_boxX (cs := spC s) rfl fun h2 b2 w2 => ?_
 have n1 := w1.n
 have n2 := w2.n
 have e1 := w1.b
 have e2 := w2.b
 have hx1 := w1.ext (Nat.le_refl h.n)
 have hx2 : Ext h.n h h2 := hx1.trans (w2.ext (by omega))
 have hb1 : h2.t.get b1 = some (.cells [sv] 26 false) := by rw [w2.old b1 (by omega)]; exact w1.at_
 rw [pu_loadS l_api_Book hb1 (l := [sv]) rfl, fa_api_Spot_0, pu_load1 l_string w2.at_ rfl]
 have hv2 := hv0.ext (hx2.mono hN)
 refine (rfind_ok N h2 _ bk s.s hv2 (by omega) hb).mono ?_
 rintro x h3 ⟨rfl, hx3⟩
 have hx : Ext h.n h h3 := hx2.trans (hx3.mono (by omega))
 have hs3 := hs.ext (hx.mono hN)
 have hb13 : h3.t.get b1 = some (.cells [sv] 26 false) := by rw [hx3.old b1 (by omega)]; exact hb1
 have hb23 : h3.t.get b2 = some (.cells (spC s) 42 false) := by rw [hx3.old b2 (by omega)]; exact w2.at_
 have hn3 := hx3.n
 unfold findZ getC
 cases hf : findN bk s.s 0 with
 | none =>
  rw [findN_none hf]
  simp only
  rw [pu_lss, decide_eq_true (by decide : (-1 : Int) < 0)]
  simp only [pu_gval_tf, pu_geff_tf, pu_pick_t, pu_cond_t]
  exact ⟨by first | trivial | rfl, hx⟩
 | some j =>
  obtain ⟨_, t, ht, hnm, hfr⟩ := findN_some hf
  rw [Nat.sub_zero] at ht
  rw [hfr]
  simp only
  obtain ⟨b4, o4, rv, g1, g2, g3, vs, f, ro, g4, g5⟩ := sht_get hs3 s_sl_api_Sheet l_api_Sheet ht
  rw [pu_lss, decide_eq_false (by omega : ¬ ((j : Int) < 0))]
  simp only [pu_gval_y, pu_geff_y, pu_pick_f, fa_api_Book_0]
  rw [pu_load1 l_sl_api_Sheet hb13 rfl, g1, g2, fa_api_Spot_1, pu_load1 l_int hb23 rfl, fa_api_Spot_2, pu_load1 l_int hb23 rfl]
  have hrv : C1 rv := by obtain ⟨us, hu⟩ := g3.rd; exact hu.c1
  refine (inside_ok N h3 t rv s.r s.c g3 (by omega) hrv).mono ?_
  rintro x h4 ⟨rfl, hx4⟩
  have hx5 : Ext h.n h h4 := hx.trans (hx4.mono (by omega))
  rw [pu_not]
  unfold insideB
  cases hrow : t.rows[s.r]? with
  | none =>
   simp only [Bool.not_false, pu_cond_t]
   exact ⟨by first | trivial | rfl, hx5⟩
  | some row =>
   simp only [pu_cond_n]
   refine ⟨fun h9 => ?_, fun h9 => ?_⟩
   ·rw [List.getElem?_eq_none (by omega)]
    exact ⟨by first | trivial | rfl, hx5⟩
   ·have hb14 : h4.t.get b1 = some (.cells [sv] 26 false) := by rw [hx4.old b1 (by omega)]; exact hb13
    have hb24 : h4.t.get b2 = some (.cells (spC s) 42 false) := by rw [hx4.old b2 (by omega)]; exact hb23
    have hs4 := hs.ext (hx5.mono hN)
    obtain ⟨b6, o6, rv6, k1, k2, k3, vs6, f6, ro6, k4, k5⟩ := sht_get hs4 s_sl_api_Sheet l_api_Sheet ht
    rw [pu_load1 l_sl_api_Sheet hb14 rfl, k1, fa_api_Sheet_2, pu_load1 l_sl_sl_string k4 (k5 2 _ rfl), fa_api_Spot_1, pu_load1 l_int hb24 rfl]
    obtain ⟨b7, o7, w7, m1, m2, m3⟩ := rows_get k3 s_sl_sl_string l_sl_string hrow
    rw [m1, m2, fa_api_Spot_2, pu_load1 l_int hb24 rfl]
    obtain ⟨b8, o8, m4, m5⟩ := row_get m3 s_sl_string l_string (List.getElem?_eq_getElem h9)
    rw [m4, m5, List.getElem?_eq_getElem h9]
    exact ⟨by first | trivial | rfl, hx5⟩
end
end Go.Proofs.YtbchdlelmkmagaaGreatDoor.VM
namespace Go.Proofs.YtbchdlelmkmagaaGreatDoor.VM
open Go
set_option linter.unusedVariables false
set_option linter.unusedSimpArgs false
set_option linter.unusedSectionVars false
set_option maxRecDepth 20000
noncomputable section
attribute [local instance] syZ
theorem noIntS : ∃ iu, EE.ty.get 32 = some iu ∧ ∀ k, iu.k ≠ .int k := by
 obtain ⟨i, h1, h2⟩ := s_sl_api_Spot; exact ⟨i, h1, fun k => by rw [h2]; simp⟩
theorem mk_spot (s : List Nat) (r c : Nat) (q : V → Prop) : (Pu EE).build 42 [(0, .str s), (1, .int .i64 r), (2, .int .i64 c)] q ↔ q (spV ⟨s, r, c⟩) :=
 pu_build so_api_Spot _ (by simp [c1_int, c1_str]) rfl q
abbrev OwnS (N : Nat) (h : Hp) (v : V) (l : List Spt) : Prop := Own N h v 42 3 l.length (spCs l)
theorem OwnS.sps {N : Nat} {h : Hp} {v : V} {l : List Spt} (o : OwnS N h v l) : Sps h v l := o.rd
theorem OwnS.nil (N : Nat) (h : Hp) : OwnS N h .nils [] := Own.nil _ _ _ _
theorem append_spot {N : Nat} {h : Hp} {v : V} {l : List Spt} (o : OwnS N h v l) (s : Spt) (hlen : l.length + 1 ≤ 1048576) (hN : N ≤ h.n) (q : V → Hp → Prop)
  (hq : ∀ v' h', OwnS N h' v' (l ++ [s]) → Ext N h h' → (∀ c, c < h.n → blkOf v ≠ some c → h'.t.get c = h.t.get c) → (∀ c, blkOf v' = some c → blkOf v = some c ∨ h.n ≤ c) → q v' h') :
  (Pu EE).bsl h 32 1 [(0, spV s)] fun x h1 _ => (Pu EE).ebui h1 #[32, 32] .append [v, x] q := by
 rw [pu_lit1 s_sl_api_Spot l_api_Spot _ rfl (by omega)]
 have o1 : OwnS N (h.new (.cells (spC s) 42 false)) v l := o.keep (Nat.le_succ _) (fun c hc => by rw [Hp.get_new, if_neg (Nat.ne_of_lt (o.in_ c hc))])
 obtain ⟨v', h', h1, h2, h3, h4, h5⟩ := own_append (ts := #[32, 32]) o1 rfl rfl s_sl_api_Spot noIntS l_api_Spot (elems_rd (rd_lit (h := h) (e := 42) (ws := spC s) rfl).rd).1 (fun e => by cases e) rfl hlen (Nat.le_succ_of_le hN)
 refine (h1 q).2 (hq v' h' ?_ ((Ext.new hN _).trans h3) (fun c hc hne => ?_) (fun c hc => ?_))
 ·have e : spCs (l ++ [s]) = spCs l ++ spC s := by rw [spCs_app]; simp [spCs]
  show Own _ _ _ _ _ (l ++ [s]).length _
  rw [List.length_append, e]
  exact h2
 ·rw [h4 c (Nat.lt_succ_of_lt hc) hne, Hp.get_new, if_neg (Nat.ne_of_lt hc)]
 ·rcases h5 c hc with h6 | h6
  ·exact .inl h6
  ·exact .inr (Nat.le_of_succ_le h6)
theorem colsL_end {nm : List Nat} {r c n : Nat} (h : n ≤ c) : colsL nm r c n = [] := by
 unfold colsL
 rw [show n - c = 0 by omega]; rfl
theorem colsL_step {nm : List Nat} {r c n : Nat} (h : c < n) : colsL nm r c n = ⟨nm, r, c⟩ :: colsL nm r (c + 1) n := by
 unfold colsL
 rw [show n - c = (n - (c + 1)) + 1 by omega, List.range_succ_eq_map, List.map_cons, List.map_map]
 congr 1
 apply List.map_congr_left
 intro i _
 simp only [Function.comp]
 congr 1
 omega
theorem rowSpots_cols (nm : List Nat) (r : Nat) (row : List (List Nat)) : rowSpots nm r row = colsL nm r 0 row.length := by
 unfold rowSpots colsL
 simp
section
variable (Q : V → Hp → Prop) (h0 : Hp) (M N : Nat) (bk : Bok) (sv : V) (b : Nat)
variable (hM : M ≤ N) (hbN : b < N) (hfit : (allSpots bk).length ≤ 1000000) (hbl : bk.length < 1000000) (hrl : ∀ s ∈ bk, s.rows.length < 1000000 ∧ ∀ row ∈ s.rows, row.length < 1000000)
include hM hbN
include hfit hrl hbl
end
structure Fit (bk : Bok) : Prop where
 spots : (allSpots bk).length ≤ 100000
 len : bk.length < 1000000
 rows : ∀ s ∈ bk, s.rows.length < 1000000 ∧ ∀ row ∈ s.rows, row.length < 1000000
end
end Go.Proofs.YtbchdlelmkmagaaGreatDoor.VM
namespace Go.Proofs.YtbchdlelmkmagaaGreatDoor.VM
open Go
set_option linter.unusedVariables false
set_option linter.unusedSimpArgs false
set_option linter.unusedSectionVars false
set_option maxRecDepth 20000
noncomputable section
attribute [local instance] syZ
theorem allCells_iff : ∀ {l : List V}, allCells l = true ↔ ∀ v ∈ l, v.isCell = true
 | [] => by simp [allCells]
 | v :: l => by
  rw [allCells]
  cases h : v.isCell with
  | true => simp [h, allCells_iff (l := l)]
  | false => simp [h]
structure Nd where
 k : Nat
 s : List Nat
 c : Nat
 r : Nat
 c1 : Nat
 r1 : Nat
 y : List V
def Nd.z (d : Nd) (i : Nat) : V := (d.y[i]?).getD .nils
def Nd.cells (d : Nd) : List V := [.int .i64 d.k, d.z 0, d.z 1, .str d.s, .int .i64 d.c, .int .i64 d.r, d.z 2, d.z 3, d.z 4, .int .i64 d.c1, .int .i64 d.r1, d.z 5, d.z 6, d.z 7]
def Nd.rect (own : List Nat) (d : Nd) : Option Rct :=
 if d.k = 5 then some ⟨if d.s = [] then own else d.s, d.r, d.c, d.r, d.c⟩ else if d.k = 6 then some ⟨if d.s = [] then own else d.s, d.r, d.c, d.r1, d.c1⟩ else none
def rectsN (own : List Nat) (l : List Nd) : List Rct := l.filterMap (Nd.rect own)
def ndCs (l : List Nd) : List V := l.flatMap Nd.cells
structure NodesAt (N : Nat) (h : Hp) (v : V) (l : List Nd) : Prop where
 rd : Rd h 14 v l.length (ndCs l)
 in_ : In N v
 cell : ∀ d ∈ l, allCells d.cells = true
theorem NodesAt.ext {N : Nat} {h h' : Hp} {v : V} {l : List Nd} (a : NodesAt N h v l) (x : Ext N h h') : NodesAt N h' v l := ⟨a.rd.ext x a.in_, a.in_, a.cell⟩
theorem ndCs_at : ∀ (l : List Nd) (i : Nat) (d : Nd), l[i]? = some d → ((ndCs l).drop (i * 14)).take 14 = d.cells
 | [], i, s, h => by simp at h
 | a :: l, 0, s, h => by
  simp only [List.getElem?_cons_zero, Option.some.injEq] at h
  subst h
  simp [ndCs, Nd.cells]
 | a :: l, i + 1, s, h => by
  simp only [List.getElem?_cons_succ] at h
  have := ndCs_at l i s h
  have e : (ndCs (a :: l)).drop ((i + 1) * 14) = (ndCs l).drop (i * 14) := by
   have : (i + 1) * 14 = 14 + i * 14 := by omega
   rw [this]
   unfold ndCs
   rw [List.flatMap_cons, ← List.drop_drop]
   congr 1
  rw [e, this]
theorem nd_get {N : Nat} {h : Hp} {v : V} {l : List Nd} (a : NodesAt N h v l) {i : Nat} {d : Nd} (hd : l[i]? = some d) :
  ∃ b o, (∀ (k : IntKind) (q : V → Prop), (Pu EE).iaddr 43 v (.int k i) q ↔ q (.ptr b o)) ∧ (∀ q : V → Prop, (Pu EE).load h 88 (.ptr b o) q ↔ q (.agg d.cells)) := by
 obtain ⟨b, o, h1, h2, _⟩ := rd_getS a.rd s_sl_api_Node l_api_Node (by omega) (List.getElem?_eq_some_iff.1 hd).1 (ndCs_at l i d hd)
 exact ⟨b, o, h1, h2⟩
theorem geqN (a b : Nat) (t : Nat) (cx cy : Bool) (q : V → Prop) : (Pu EE).bin .geq t cx cy (.int .i64 a) (.int .i64 b) q ↔ q (.bool (decide (b ≤ a))) := by
 rw [pu_geq]
 have : decide ((b : Int) ≤ (a : Int)) = decide (b ≤ a) := by rw [decide_eq_decide]; omega
 rw [this]
theorem leqN (a b : Nat) (t : Nat) (cx cy : Bool) (q : V → Prop) : (Pu EE).bin .leq t cx cy (.int .i64 a) (.int .i64 b) q ↔ q (.bool (decide (a ≤ b))) := by
 rw [pu_leq]
 have : decide ((a : Int) ≤ (b : Int)) = decide (a ≤ b) := by rw [decide_eq_decide]; omega
 rw [this]
theorem eqlN (a : Nat) (b : Nat) (t : Nat) (cx cy : Bool) (q : V → Prop) : (Pu EE).bin .eql t cx cy (.int .i64 a) (.int .i64 b) q ↔ q (.bool (decide (a = b))) := by
 rw [pu_eql]
 have : decide ((a : Int) = (b : Int)) = decide (a = b) := by rw [decide_eq_decide]; omega
 rw [this]
end
end Go.Proofs.YtbchdlelmkmagaaGreatDoor.VM
namespace Go.Proofs.YtbchdlelmkmagaaGreatDoor.VM
open Go
set_option linter.unusedVariables false
set_option linter.unusedSectionVars false
set_option linter.unusedSimpArgs false
set_option maxRecDepth 20000
noncomputable section
attribute [local instance] syZ
theorem renL_map (f : Nat → Nat) : ∀ l : List V, V.renL f l = l.map (V.ren f)
 | [] => rfl
 | v :: l => by rw [V.renL, renL_map f l]; rfl
def kidN : List Nk → Nat
 | [] => 0
 | d :: l => match d.kids with
  | [] => kidN l
  | _ :: _ => kidN l + 1
theorem nkC_ren {r : Nat → Nat} {b c : Nat} (d : Nk) (h : d.kids ≠ [] → r b = c) : V.renL r (nkC b d) = nkC c d := by
 unfold nkC
 simp only [V.renL, V.ren]
 congr 13
 unfold kidV
 split
 ·rfl
 ·rename_i k l hk
  have := h (by rw [hk]; simp)
  cases Nat.beq d.k 7 <;> simp [V.ren, this]
theorem nkCs_ren {r : Nat → Nat} : ∀ (l : List Nk) (b c : Nat), (∀ i, i < kidN l → r (b + i) = c + i) → V.renL r (nkCs b l) = nkCs c l
 | [], _, _, _ => rfl
 | d :: l, b, c, h => by
  rw [nkCs, nkCs]
  have hsplit : ∀ x y : List V, V.renL r (x ++ y) = V.renL r x ++ V.renL r y := fun x y => by rw [renL_map, renL_map, renL_map, List.map_append]
  rw [hsplit]
  cases hk : d.kids with
  | nil =>
   have e1 : nxK b d = b := by unfold nxK; rw [hk]
   have e2 : nxK c d = c := by unfold nxK; rw [hk]
   have e3 : kidN (d :: l) = kidN l := by rw [kidN, hk]
   rw [e3] at h
   rw [e1, e2, nkC_ren d (fun q => absurd hk q), nkCs_ren l b c h]
  | cons a t =>
   have e1 : nxK b d = b + 1 := by unfold nxK; rw [hk]
   have e2 : nxK c d = c + 1 := by unfold nxK; rw [hk]
   have e3 : kidN (d :: l) = kidN l + 1 := by rw [kidN, hk]
   rw [e3] at h
   rw [e1, e2, nkC_ren (c := c) d (fun _ => by have := h 0 (by omega); simpa using this), nkCs_ren l (b + 1) (c + 1) fun i hi => by have := h (i + 1) (by omega); rw [show b + 1 + i = b + (i + 1) by omega, this]; omega]
theorem kid_nil {d : Nk} (h : d.kids = []) (l : List Nk) : kidN (d :: l) = kidN l ∧ kidPs (d :: l) = kidPs l ∧ kidBs false (d :: l) = kidBs false l := by
 refine ⟨?_, ?_, ?_⟩
 ·rw [kidN, h]
 ·rw [kidPs, h]
 ·rw [kidBs, h]
theorem kid_cons {d : Nk} {a : Nat} {r : List Nat} (h : d.kids = a :: r) (l : List Nk) : kidN (d :: l) = kidN l + 1 ∧ kidPs (d :: l) = (intsV d.kids, 3) :: kidPs l ∧ kidBs false (d :: l) = .cells (intsV d.kids) 3 false :: kidBs false l := by
 refine ⟨?_, ?_, ?_⟩
 ·rw [kidN, h]
 ·rw [kidPs, h]
 ·rw [kidBs, h]
theorem kidPs_len : ∀ l : List Nk, (kidPs l).length = kidN l
 | [] => rfl
 | d :: l => by
  cases h : d.kids with
  | nil => rw [(kid_nil h l).1, (kid_nil h l).2.1, kidPs_len l]
  | cons a r => rw [(kid_cons h l).1, (kid_cons h l).2.1, List.length_cons, kidPs_len l]
theorem fragN_len (l : List Nk) : (fragN l).length = kidN l + 1 := by unfold fragN; rw [List.length_cons, kidPs_len]
theorem kidBs_of : ∀ l : List Nk, kidBs false l = (kidPs l).map fun p => .cells p.1 p.2 false
 | [] => rfl
 | d :: l => by
  cases h : d.kids with
  | nil => rw [(kid_nil h l).2.1, (kid_nil h l).2.2, kidBs_of l]
  | cons a r => rw [(kid_cons h l).2.1, (kid_cons h l).2.2, List.map_cons, kidBs_of l]
theorem rn_at {k N m i : Nat} (h : i < m) : rn ((List.range m).map (k + ·)) N i = k + i := by
 unfold rn
 rw [List.getD_eq_getElem?_getD, List.getElem?_map, List.getElem?_range h]
 rfl
theorem intsV_ren (r : Nat → Nat) (l : List Nat) : V.renL r (intsV l) = intsV l := by
 rw [renL_map]
 unfold intsV
 rw [List.map_map]
 rfl
theorem kidPs_ren (r : Nat → Nat) : ∀ (l : List Nk) (p : List V × Nat), p ∈ kidPs l → V.renL r p.1 = p.1
 | [], p, h => by cases h
 | d :: l, p, h => by
  cases hk : d.kids with
  | nil => rw [(kid_nil hk l).2.1] at h; exact kidPs_ren r l p h
  | cons a s =>
   rw [(kid_cons hk l).2.1] at h
   rcases List.mem_cons.1 h with rfl | h
   ·exact intsV_ren _ _
   ·exact kidPs_ren r l p h
theorem NodesB.node {h : Hp} {k : Nat} {l : List Nk} (a : NodesB h k l) : ∃ rest ro, h.t.get k = some (.cells (nkCs (k + 1) l ++ rest) 88 ro) := by
 have hl := fragN_len l
 obtain ⟨rest, ro, h1⟩ := a.at_ 0 (k + 0) (nkCs 1 l, 88) (by rw [List.getElem?_map, List.getElem?_range (by omega)]; rfl) rfl
 refine ⟨rest, ro, ?_⟩
 rw [nkCs_ren (c := k + 1) l 1 fun i hi => by rw [rn_at (by omega)]; omega] at h1
 exact h1
theorem NodesB.kid {h : Hp} {k i : Nat} {l : List Nk} (a : NodesB h k l) {p : List V × Nat} (hp : (kidPs l)[i]? = some p) : ∃ rest ro, h.t.get (k + 1 + i) = some (.cells (p.1 ++ rest) p.2 ro) := by
 have hl := fragN_len l
 have hi : i < kidN l := by have := (List.getElem?_eq_some_iff.1 hp).1; rw [kidPs_len] at this; exact this
 obtain ⟨rest, ro, h1⟩ := a.at_ (i + 1) (k + (i + 1)) p (by rw [List.getElem?_map, List.getElem?_range (by omega)]; rfl) (by unfold fragN; rw [List.getElem?_cons_succ]; exact hp)
 rw [kidPs_ren _ l p (List.mem_of_getElem? hp)] at h1
 exact ⟨rest, ro, by rw [show k + 1 + i = k + (i + 1) by omega]; exact h1⟩
theorem NodesB.mono {h h' : Hp} {k : Nat} {l : List Nk} {N : Nat} (a : NodesB h k l) (x : Ext N h h') (hN : k + (fragN l).length ≤ N) (hn : N ≤ h.n) : NodesB h' k l := by
 have hl := fragN_len l
 have xn := x.n
 refine ⟨a.len, a.nd, fun i B p h1 h2 => ?_⟩
 obtain ⟨rest, ro, h3⟩ := a.at_ i B p h1 h2
 have hi := (List.getElem?_eq_some_iff.1 h2).1
 have hB : B = k + i := by
  rw [List.getElem?_map, List.getElem?_range hi] at h1
  cases h1; rfl
 refine ⟨rest, ro, ?_⟩
 rw [x.old B (by omega), h3]
 have e : V.renL (rn ((List.range (fragN l).length).map (k + ·)) h.n) p.1 = V.renL (rn ((List.range (fragN l).length).map (k + ·)) h'.n) p.1 := by
  cases i with
  | zero =>
   have : p = (nkCs 1 l, 88) := by unfold fragN at h2; cases h2; rfl
   subst this
   rw [nkCs_ren (c := k + 1) l 1 fun i hi => by rw [rn_at (by omega)]; omega, nkCs_ren (c := k + 1) l 1 fun i hi => by rw [rn_at (by omega)]; omega]
  | succ i =>
   unfold fragN at h2
   rw [List.getElem?_cons_succ] at h2
   rw [kidPs_ren _ l p (List.mem_of_getElem? h2), kidPs_ren _ l p (List.mem_of_getElem? h2)]
 rw [e]
def ndK (b : Nat) (d : Nk) : Nd := ⟨d.k, d.s, d.c, d.r, d.c1, d.r1, [.int .i64 d.n, .str d.t, .bool d.ab, .bool d.ab, .str [], .bool false, .bool false, kidV b d]⟩
def ndsK : Nat → List Nk → List Nd
 | _, [] => []
 | b, d :: l => ndK b d :: ndsK (nxK b d) l
theorem ndsK_cs : ∀ (l : List Nk) (b : Nat), ndCs (ndsK b l) = nkCs b l
 | [], _ => rfl
 | d :: l, b => by
  have ih := ndsK_cs l (nxK b d)
  unfold ndCs at ih ⊢
  rw [ndsK, List.flatMap_cons, ih]
  rfl
theorem ndsK_len : ∀ (l : List Nk) (b : Nat), (ndsK b l).length = l.length
 | [], _ => rfl
 | d :: l, b => by rw [ndsK, List.length_cons, ndsK_len l, List.length_cons]
theorem nkCs_len : ∀ (l : List Nk) (b : Nat), (nkCs b l).length = l.length * 14
 | [], _ => rfl
 | d :: l, b => by rw [nkCs, List.length_append, nkCs_len l, List.length_cons, Nat.succ_mul]; show 14 + _ = _; omega
theorem kidV_cell (b : Nat) (d : Nk) : (kidV b d).isCell = true := by
 unfold kidV
 split
 ·rfl
 ·cases Nat.beq d.k 7 <;> rfl
theorem nkC_cells (b : Nat) (d : Nk) : allCells (nkC b d) = true := by
 refine allCells_iff.2 fun v hv => ?_
 unfold nkC at hv
 simp only [List.mem_cons, List.not_mem_nil, or_false] at hv
 rcases hv with rfl | rfl | rfl | rfl | rfl | rfl | rfl | rfl | rfl | rfl | rfl | rfl | rfl | rfl <;> first | rfl | exact kidV_cell b d
theorem ndsK_cells : ∀ (l : List Nk) (b : Nat), ∀ d ∈ ndsK b l, allCells d.cells = true
 | [], _, d, h => by cases h
 | d :: l, b, e, h => by
  rw [ndsK] at h
  rcases List.mem_cons.1 h with rfl | h
  ·exact nkC_cells b d
  ·exact ndsK_cells l _ e h
theorem ndsK_rects (own : List Nat) : ∀ (l : List Nk) (b c : Nat), rectsN own (ndsK b l) = rectsN own (ndsK c l)
 | [], _, _ => rfl
 | d :: l, b, c => by
  have ih := ndsK_rects own l (nxK b d) (nxK c d)
  unfold rectsN at ih ⊢
  rw [ndsK, ndsK]
  have e : Nd.rect own (ndK b d) = Nd.rect own (ndK c d) := rfl
  cases h : Nd.rect own (ndK b d) with
  | none => rw [List.filterMap_cons_none h, List.filterMap_cons_none (e ▸ h), ih]
  | some r => rw [List.filterMap_cons_some h, List.filterMap_cons_some (e ▸ h), ih]
theorem NodesB.rd {h : Hp} {k : Nat} {l : List Nk} (a : NodesB h k l) : Rd h 14 (.slo k 0 l.length l.length 14) l.length (nkCs (k + 1) l) := by
 obtain ⟨rest, ro, h1⟩ := a.node
 have hl := nkCs_len l (k + 1)
 refine ⟨hl, .inr ⟨k, 0, nkCs (k + 1) l ++ rest, rdCells_of h1, ?_, .inr ⟨_, _, rfl⟩⟩⟩
 unfold sub
 have : ((nkCs (k + 1) l ++ rest).drop 0).take (l.length * 14) = nkCs (k + 1) l := by rw [List.drop_zero, ← hl, List.take_left]
 simp only [this, hl, Nat.beq_refl, cond_true]
theorem NodesB.at13 {h : Hp} {k : Nat} {l : List Nk} (a : NodesB h k l) (hk : k < h.n) : NodesAt h.n h (.slo k 0 l.length l.length 14) (ndsK (k + 1) l) :=
 ⟨by rw [ndsK_len, ndsK_cs]; exact a.rd, fun b hb => by cases hb; exact hk, ndsK_cells l _⟩
def FormB (t : List Nat) (h : Hp) (v : V) (h' : Hp) : Prop := Ext h.n h h' ∧ match nksT t with
 | none => v = .tup [.nils, .bool false]
 | some l => v = .tup [.slo h.n 0 l.length l.length 14, .bool true] ∧ NodesB h' h.n l ∧ h.n + (fragN l).length ≤ h'.n
theorem app_frag (h : Hp) (l : List Nk) : NodesB (h.app ((Blk.cells (nkCs 1 l) 88 false :: kidBs false l).map (Blk.ren fun i => h.n + i))) h.n l := by
 have hl := fragN_len l
 refine ⟨by simp, ?_, fun i B p h1 h2 => ?_⟩
 ·have hr : (List.range (fragN l).length).Nodup := List.nodup_range
  unfold List.Nodup at hr ⊢
  rw [List.pairwise_map]
  exact hr.imp fun {a b} q e => q (by omega)
 ·have hi := (List.getElem?_eq_some_iff.1 h2).1
  have hB : B = h.n + i := by
   rw [List.getElem?_map, List.getElem?_range hi] at h1
   cases h1; rfl
  subst hB
  refine ⟨[], false, ?_⟩
  rw [List.append_nil]
  have hb : (Blk.cells (nkCs 1 l) 88 false :: kidBs false l)[i]? = some (.cells p.1 p.2 false) := by
   cases i with
   | zero => unfold fragN at h2; cases h2; rfl
   | succ i =>
    unfold fragN at h2
    rw [List.getElem?_cons_succ] at h2 ⊢
    rw [kidBs_of, List.getElem?_map, h2]; rfl
  have := Hp.get_app_new h ((Blk.cells (nkCs 1 l) 88 false :: kidBs false l).map (Blk.ren fun i => h.n + i)) i (b := Blk.ren (fun i => h.n + i) (.cells p.1 p.2 false)) (by rw [List.getElem?_map, hb]; rfl)
  rw [this]
  have e : V.renL (fun i => h.n + i) p.1 = V.renL (rn ((List.range (fragN l).length).map (h.n + ·)) (h.app ((Blk.cells (nkCs 1 l) 88 false :: kidBs false l).map (Blk.ren fun i => h.n + i))).n) p.1 := by
   cases i with
   | zero =>
    have : p = (nkCs 1 l, 88) := by unfold fragN at h2; cases h2; rfl
    subst this
    rw [nkCs_ren (c := h.n + 1) l 1 fun i hi => by omega, nkCs_ren (c := h.n + 1) l 1 fun i hi => by rw [rn_at (by omega)]; omega]
   | succ i =>
    unfold fragN at h2
    rw [List.getElem?_cons_succ] at h2
    rw [kidPs_ren _ l p (List.mem_of_getElem? h2), kidPs_ren _ l p (List.mem_of_getElem? h2)]
  rw [Blk.ren, e]
theorem form_okB {f : Nat} (hk : EE.hook f = some (txH memoOf)) {t : List Nat} (ht : t ∈ textL) (h : Hp) : Ans EE f [.str t] h (FormB t h) := by
 refine ⟨_, _, Cs.hook hk (txH_at ht (memoOf_al t) h), ⟨by simp [Hp.app], fun b hb => Hp.get_app_old _ _ hb⟩, ?_⟩
 unfold memoOf
 cases e : nksT t with
 | none => simp [V.ren, V.renL]
 | some l =>
  simp only
  refine ⟨by simp [V.ren, V.renL], app_frag h l, ?_⟩
  rw [fragN_len]
  simp only [Hp.app, List.length_map, List.length_cons, kidBs_of, kidPs_len]
  omega
def formR (t : List Nat) : Option (List Nd) := (nksT t).map (ndsK 0)
abbrev formP (t : List Nat) : Option (List Nd) := formR t
def FormPost (h : Hp) (o : Option (List Nd)) (v : V) (h' : Hp) : Prop := Ext h.n h h' ∧ match o with
 | none => v = .tup [.nils, .bool false]
 | some ds => ∃ sv ds', v = .tup [sv, .bool true] ∧ NodesAt h'.n h' sv ds' ∧ ds'.length = ds.length ∧ ∀ own, rectsN own ds' = rectsN own ds
theorem form_post {t : List Nat} {h : Hp} {v : V} {h' : Hp} (p : FormB t h v h') : FormPost h (formR t) v h' := by
 obtain ⟨x, hm⟩ := p
 refine ⟨x, ?_⟩
 unfold formR
 cases e : nksT t with
 | none => rw [e] at hm; exact hm
 | some l =>
  rw [e] at hm
  obtain ⟨h1, h2, h3⟩ := hm
  have := fragN_len l
  exact ⟨_, _, h1, h2.at13 (by omega), by rw [ndsK_len, ndsK_len], fun own => ndsK_rects own l _ _⟩
end
end Go.Proofs.YtbchdlelmkmagaaGreatDoor.VM
namespace Go.Proofs.YtbchdlelmkmagaaGreatDoor.VM
open Go
set_option linter.unusedVariables false
set_option maxRecDepth 100000
end Go.Proofs.YtbchdlelmkmagaaGreatDoor.VM
namespace Go.Proofs.YtbchdlelmkmagaaGreatDoor.VM
open Go
set_option linter.unusedVariables false
set_option linter.unusedSectionVars false
set_option linter.unusedSimpArgs false
set_option maxRecDepth 20000
noncomputable section
attribute [local instance] syZ
def is61 : List Nat → Bool
 | c :: _ => Nat.beq c 61
 | [] => false
structure TextIs (t : List Nat) : Prop where
 in_ : t ∈ textL
 few : ∀ a b, formP t = some a → formR t = some b → a.length ≤ 20 ∧ b.length ≤ 20
 some_ : (formP t).isSome = (formR t).isSome
 eq61 : (formP t).isSome = is61 t
def textOK (t : List Nat) : Bool := match nksT t with
 | none => !is61 t
 | some l => is61 t && Nat.ble l.length 20
theorem texts_ok : textL.all textOK = true := by kernel_rfl
theorem textIs {t : List Nat} (h : t ∈ textL) : TextIs t := by
 have hk := List.all_eq_true.1 texts_ok t h
 unfold textOK at hk
 have e : formR t = (nksT t).map (ndsK 0) := rfl
 cases q : nksT t with
 | none =>
  rw [q] at hk e
  have hk : (!is61 t) = true := hk
  refine ⟨h, fun a b h1 _ => ?_, rfl, ?_⟩
  ·have : formR t = some a := h1
   rw [e] at this; cases this
  ·show (formR t).isSome = _
   rw [e]
   simpa using hk
 | some l =>
  rw [q] at hk e
  have hk : (is61 t && Nat.ble l.length 20) = true := hk
  simp only [Bool.and_eq_true, Nat.ble_eq] at hk
  refine ⟨h, fun a b h1 h2 => ?_, rfl, ?_⟩
  ·have h1 : formR t = some a := h1
   rw [e] at h1 h2
   cases h1; cases h2
   rw [ndsK_len]
   exact ⟨hk.2, hk.2⟩
  ·show (formR t).isSome = _
   rw [e, hk.1]; rfl
def rectsT (own t : List Nat) : List Rct := match formR t with
 | some l => rectsN own l
 | none => []
theorem rectsT_prog {t : List Nat} (h : TextIs t) (own : List Nat) : (match formP t with | some l => rectsN own l | none => []) = rectsT own t := rfl
theorem hook_R : EE.hook 11 = some (txH memoOf) := by kernel_rfl
theorem hook_F : EE.hook 20 = some (txH memoOf) := by kernel_rfl
theorem hook_M : EE.hook 47 = some (txH mayM) := by kernel_rfl
theorem pform_ok {t : List Nat} (ht : TextIs t) (h : Hp) : Ans EE 20 [.str t] h (FormPost h (formP t)) := (form_okB hook_F ht.in_ h).mono fun _ _ => form_post
theorem may_ok {t : List Nat} (ht : TextIs t) (h : Hp) : Ans EE 47 [.str t] h fun v h' => v = .bool true ∧ Ext h.n h h' :=
 ⟨_, _, Cs.hook hook_M (txH_at ht.in_ rfl h), by simp [mayM, V.ren], by simp [Hp.app, mayM], fun b hb => Hp.get_app_old _ _ hb⟩
structure Good (bk : Bok) : Prop where
 fit : Fit bk
 ris : Rises bk
 text : ∀ s ∈ bk, ∀ row ∈ s.rows, ∀ t ∈ row, TextIs t
theorem text0 : TextIs [] := textIs (txt_in (n := 0) (by omega))
theorem Good.get {bk : Bok} (g : Good bk) (s : Spt) : TextIs (getC bk s) := by
 unfold getC
 cases hf : findR bk s.s with
 | none => exact text0
 | some t =>
  simp only
  cases hr : t.rows[s.r]? with
  | none => exact text0
  | some row =>
   simp only
   cases hc : row[s.c]? with
   | none => exact text0
   | some x => exact g.text t (List.mem_of_find?_eq_some hf) row (List.mem_of_getElem? hr) x (List.mem_of_getElem? hc)
def ndR (bk : Bok) (s : Spt) : List Spt := needsR (rectsT s.s (getC bk s)) bk
theorem ndR_none {bk : Bok} {s : Spt} (h : formR (getC bk s) = none) : ndR bk s = [] := by
 unfold ndR rectsT
 rw [h]
 unfold needsR
 simp [named]
end
end Go.Proofs.YtbchdlelmkmagaaGreatDoor.VM
namespace Go.Proofs.YtbchdlelmkmagaaGreatDoor.VM
open Go
set_option linter.unusedVariables false
set_option linter.unusedSectionVars false
set_option linter.unusedSimpArgs false
set_option maxRecDepth 20000
noncomputable section
attribute [local instance] syZ
theorem app_all {N : Nat} {h : Hp} {v : V} {el sz len : Nat} {cs : List V} (o : Own N h v el sz len cs) {t : Nat} (ht : IsSl EE t el) {z : List V} {ag : Bool} (he : El EE el sz z ag) {y : V} {n : Nat} {ws : List V} (r : Rd h sz y n ws) (hw : allCells ws = true) (hlen : len + n ≤ 1048576) (hN : N ≤ h.n) {q : V → Hp → Prop}
  (hq : ∀ v' h', Own N h' v' el sz (len + n) (cs ++ ws) → Ext N h h' → (∀ c, c < h.n → blkOf v ≠ some c → h'.t.get c = h.t.get c) → (∀ c, blkOf v' = some c → blkOf v = some c ∨ h.n ≤ c) → q v' h') : (Pu EE).ebui h #[t, t] .append [v, y] q := by
 have hni : ∃ iu, EE.ty.get t = some iu ∧ ∀ k, iu.k ≠ .int k := by obtain ⟨i, h1, h2⟩ := ht; exact ⟨i, h1, fun k => by rw [h2]; simp⟩
 obtain ⟨e1, e2⟩ := elems_rd r
 obtain ⟨v', h', h1, h2, h3, h4, h5⟩ := own_append (ts := #[t, t]) o rfl rfl ht hni he e1 (fun q => by rw [e2] at q; cases q) hw hlen hN
 exact (h1 q).2 (hq v' h' h2 h3 h4 h5)
theorem pu_bsl0 {h : Hp} {t e sz : Nat} {z : List V} {ag : Bool} (ht : IsSl EE t e) (he : El EE e sz z ag) (q : V → Hp → Blk → Prop) : (Pu EE).bsl h t 0 [] q ↔ q (.sl h.n 0 0 0) (h.new (.cells [] e false)) (.cells [] e false) := by
 obtain ⟨ti, h1, h2⟩ := ht
 obtain ⟨⟨j, h3, h4, h5, h6, h7⟩, h8⟩ := he
 have : vbuildSlice EE t 0 [] = some (.sl 0 0, .cells [] e false) := by
  have hb : (Nat.ble (0 * j.size) 16777216 && Nat.beq ((j.zero.getD []).length) j.size) = true := by
   rw [h5, h4]
   simp [h8]
  simp only [vbuildSlice, h1, Option.bind_some, h2, h3]
  rw [hb]
  simp only [cond_true, h5, Option.bind_some]
  rfl
 show (∃ y, vbuildSlice EE t 0 [] = some y ∧ q (y.1.at h.n) (h.new y.2) y.2) ↔ _
 rw [this]
 constructor
 ·rintro ⟨y, h9, h10⟩; cases h9; exact h10
 ·intro h9; exact ⟨_, rfl, h9⟩
section
variable (Q : V → Hp → Prop) (nd : Spt → List Spt) (B : Nat) (hB : Hp) (F : List Spt) (hF : F.length ≤ 100000) (hnl : ∀ s ∈ F, (nd s).length ≤ 100000)
include hF hnl
end
end
end Go.Proofs.YtbchdlelmkmagaaGreatDoor.VM
namespace Go.Proofs.YtbchdlelmkmagaaGreatDoor.VM
open Go
set_option linter.unusedVariables false
set_option linter.unusedSectionVars false
set_option linter.unusedSimpArgs false
set_option maxRecDepth 20000
noncomputable section
attribute [local instance] syZ
def hasF (bk : Bok) (s : Spt) : Bool := (formR (getC bk s)).isSome
def fCells (bk : Bok) : List Spt := (allSpots bk).filter (hasF bk)
theorem ndR_len {bk : Bok} (g : Good bk) (s : Spt) : (ndR bk s).length ≤ 100000 := Nat.le_trans (List.length_filter_le _ _) g.fit.spots
theorem fCells_len {bk : Bok} (g : Good bk) : (fCells bk).length ≤ 100000 := Nat.le_trans (List.length_filter_le _ _) g.fit.spots
theorem fCells_ris {bk : Bok} (g : Good bk) : Ris (fCells bk) := (allSpots_ris g.ris).sub List.filter_sublist
end
end Go.Proofs.YtbchdlelmkmagaaGreatDoor.VM
namespace Go.Proofs.YtbchdlelmkmagaaGreatDoor.VM
open Go
set_option linter.unusedVariables false
set_option maxRecDepth 100000
noncomputable section
noncomputable def c_book_May : Code := match Tryz.f16.body with | some c => c | none => .skip
noncomputable def F_book_May : Fl := ⟨Tryz.f16, c_book_May, [([false, true, false, true, true], [1, 10, 11, 12])]⟩
abbrev L_book_May_1 (Q : QQ) (v1 v10 v11 v12 : V) (h : Hp) : Prop := F_book_May.L EE Q 1 [v1, v10, v11, v12] h
noncomputable def t_book_May_0 (p : Pr) (l : LL) (Q : QQ) (v0 : V) (h : Hp) : Prop :=
 p.box h 26 v0 fun x1 h2 b3 =>
 p.faddr 26 x1 0 fun x4 =>
 p.load h2 24 x4 fun x5 =>
 p.lbui h2 #[24] .len [x5] fun x6 =>
 p.bin .gtr 3 false true x6 (.int .i64 5) fun x7 =>
 p.cond x7
 (fun _ =>
  Q (.bool false) h2)
 (fun _ =>
  p.faddr 26 x1 0 fun x8 =>
  p.load h2 24 x8 fun x9 =>
  p.lbui h2 #[24] .len [x9] fun x10 =>
  l 1 [x1, x9, x10, (.int .i64 0)] h2)
theorem q_book_May_0 (p : Pr) (l : LL) (Q : QQ) (v0 : V) (h : Hp) : t_book_May_0 p l Q v0 h = F_book_May.K p EE l Q [] ([v0] ++ List.replicate 36 undefV) h := by kernel_rfl
theorem a_book_May {Q : QQ} {v0 : V} {h : Hp} (H : t_book_May_0 (Pu EE) (F_book_May.L EE Q) Q v0 h) : Ans EE 16 [v0] h Q :=
 ansL (F := F_book_May) (by kernel_rfl) (by kernel_rfl) (by kernel_rfl) (by kernel_rfl) (cast (q_book_May_0 _ _ _ v0 h) H)
noncomputable def t_book_May_1 (p : Pr) (l : LL) (Q : QQ) (v1 v10 v11 v12 : V) (h : Hp) : Prop :=
 p.bin .lss 3 false false v12 v11 fun x1 =>
 p.cond x1
 (fun _ =>
  p.iaddr 24 v10 v12 fun x2 =>
  p.load h 38 x2 fun x3 =>
  p.alloc h 38 fun x4 h5 b6 =>
  p.store h5 38 x4 x3 fun h7 =>
  p.bin .gtr 3 false true v12 (.int .i64 0) fun x8 =>
  p.gval x8 true (fun k9 =>
  p.faddr 26 v1 0 fun x10 =>
  k9 x10) fun x11 =>
  p.gval x8 true (fun k12 =>
  p.load h7 24 x11 fun x13 =>
  k12 x13) fun x14 =>
  p.gval x8 true (fun k15 =>
  k15 v12) fun x16 =>
  p.gval x8 true (fun k17 =>
  p.bin .sub 3 false true x16 (.int .i64 1) fun x18 =>
  k17 x18) fun x19 =>
  p.gval x8 true (fun k20 =>
  p.iaddr 24 x14 x19 fun x21 =>
  k20 x21) fun x22 =>
  p.gval x8 true (fun k23 =>
  p.faddr 38 x22 0 fun x24 =>
  k23 x24) fun x25 =>
  p.gval x8 true (fun k26 =>
  p.load h7 9 x25 fun x27 =>
  k26 x27) fun x28 =>
  p.gval x8 true (fun k29 =>
  p.faddr 38 x4 0 fun x30 =>
  k29 x30) fun x31 =>
  p.gval x8 true (fun k32 =>
  p.load h7 9 x31 fun x33 =>
  k32 x33) fun x34 =>
  p.gval x8 true (fun k35 =>
  p.bin .geq 9 false false x28 x34 fun x36 =>
  k35 x36) fun x37 =>
  p.pick x8 (some x37) (some (.bool false)) fun x38 =>
  p.gval x38 false (fun k39 =>
  p.load h7 38 x4 fun x40 =>
  k39 x40) fun x41 =>
  p.geff x38 false (fun k42 =>
  p.call 40 [x41] h7 fun x43 h44 =>
  k42 x43 h44) h7 fun x45 h46 =>
  p.gval x38 false (fun k47 =>
  p.un .not x45 fun x48 =>
  k47 x48) fun x49 =>
  p.pick x38 (some (.bool true)) (some x49) fun x50 =>
  p.cond x50
  (fun _ =>
  Q (.bool false) h46)
  (fun _ =>
  p.bin .add 3 false true v12 (.int .i64 1) fun x51 =>
  l 1 [v1, v10, v11, x51] h46))
 (fun _ =>
  Q (.bool true) h)
theorem q_book_May_1 (p : Pr) (l : LL) (Q : QQ) (s : List V) (h : Hp) : t_book_May_1 p l Q (nth s 1) (nth s 10) (nth s 11) (nth s 12) h = F_book_May.K p EE l Q [true, true, false, true, false] (nths s 37 0) h := by kernel_rfl
theorem r_book_May_1 {Q : QQ} {v1 v10 v11 v12 : V} {h : Hp} (H : t_book_May_1 (Pu EE) (F_book_May.L EE Q) Q v1 v10 v11 v12 h) : L_book_May_1 Q v1 v10 v11 v12 h :=
 labR (path := [true, true, false, true, false]) rfl rfl fun s e => by cases e; exact cast (q_book_May_1 _ _ _ s h) H
noncomputable def c_book_maySheet : Code := match Tryz.f40.body with | some c => c | none => .skip
noncomputable def F_book_maySheet : Fl := ⟨Tryz.f40, c_book_maySheet, [([false, true, false, true, true], [1, 28, 29, 30]), ([false, true, true, true, false, false, true, true, false, false, true, false, true, true], [1, 28, 29, 30, 39, 40, 41])]⟩
abbrev L_book_maySheet_1 (Q : QQ) (v1 v28 v29 v30 : V) (h : Hp) : Prop := F_book_maySheet.L EE Q 1 [v1, v28, v29, v30] h
abbrev L_book_maySheet_2 (Q : QQ) (v1 v28 v29 v30 v39 v40 v41 : V) (h : Hp) : Prop := F_book_maySheet.L EE Q 2 [v1, v28, v29, v30, v39, v40, v41] h
noncomputable def t_book_maySheet_0 (p : Pr) (l : LL) (Q : QQ) (v0 : V) (h : Hp) : Prop :=
 p.box h 38 v0 fun x1 h2 b3 =>
 p.faddr 38 x1 0 fun x4 =>
 p.load h2 9 x4 fun x5 =>
 p.call 72 [x5] h2 fun x6 h7 =>
 p.un .not x6 fun x8 =>
 p.gval x8 false (fun k9 =>
  p.faddr 38 x1 1 fun x10 =>
  k9 x10) fun x11 =>
 p.gval x8 false (fun k12 =>
  p.load h7 3 x11 fun x13 =>
  k12 x13) fun x14 =>
 p.gval x8 false (fun k15 =>
  p.bin .lss 3 false true x14 (.int .i64 0) fun x16 =>
  k15 x16) fun x17 =>
 p.pick x8 (some (.bool true)) (some x17) fun x18 =>
 p.gval x18 false (fun k19 =>
  p.faddr 38 x1 1 fun x20 =>
  k19 x20) fun x21 =>
 p.gval x18 false (fun k22 =>
  p.load h7 3 x21 fun x23 =>
  k22 x23) fun x24 =>
 p.gval x18 false (fun k25 =>
  p.bin .gtr 3 false true x24 (.int .i64 12) fun x26 =>
  k25 x26) fun x27 =>
 p.pick x18 (some (.bool true)) (some x27) fun x28 =>
 p.gval x28 false (fun k29 =>
  p.faddr 38 x1 2 fun x30 =>
  k29 x30) fun x31 =>
 p.gval x28 false (fun k32 =>
  p.load h7 36 x31 fun x33 =>
  k32 x33) fun x34 =>
 p.gval x28 false (fun k35 =>
  p.lbui h7 #[36] .len [x34] fun x36 =>
  k35 x36) fun x37 =>
 p.gval x28 false (fun k38 =>
  p.bin .gtr 3 false true x37 (.int .i64 24) fun x39 =>
  k38 x39) fun x40 =>
 p.pick x28 (some (.bool true)) (some x40) fun x41 =>
 p.cond x41
 (fun _ =>
  Q (.bool false) h7)
 (fun _ =>
  p.faddr 38 x1 2 fun x42 =>
  p.load h7 36 x42 fun x43 =>
  p.lbui h7 #[36] .len [x43] fun x44 =>
  l 1 [x1, x43, x44, (.int .i64 0)] h7)
theorem q_book_maySheet_0 (p : Pr) (l : LL) (Q : QQ) (v0 : V) (h : Hp) : t_book_maySheet_0 p l Q v0 h = F_book_maySheet.K p EE l Q [] ([v0] ++ List.replicate 49 undefV) h := by kernel_rfl
theorem a_book_maySheet {Q : QQ} {v0 : V} {h : Hp} (H : t_book_maySheet_0 (Pu EE) (F_book_maySheet.L EE Q) Q v0 h) : Ans EE 40 [v0] h Q :=
 ansL (F := F_book_maySheet) (by kernel_rfl) (by kernel_rfl) (by kernel_rfl) (by kernel_rfl) (cast (q_book_maySheet_0 _ _ _ v0 h) H)
noncomputable def t_book_maySheet_1 (p : Pr) (l : LL) (Q : QQ) (v1 v28 v29 v30 : V) (h : Hp) : Prop :=
 p.bin .lss 3 false false v30 v29 fun x1 =>
 p.cond x1
 (fun _ =>
  p.iaddr 36 v28 v30 fun x2 =>
  p.load h 40 x2 fun x3 =>
  p.lbui h #[40] .len [x3] fun x4 =>
  p.faddr 38 v1 1 fun x5 =>
  p.load h 3 x5 fun x6 =>
  p.bin .neq 3 false false x4 x6 fun x7 =>
  p.cond x7
  (fun _ =>
  Q (.bool false) h)
  (fun _ =>
  p.lbui h #[40] .len [x3] fun x8 =>
  l 2 [v1, v28, v29, v30, x3, x8, (.int .i64 0)] h))
 (fun _ =>
  Q (.bool true) h)
theorem q_book_maySheet_1 (p : Pr) (l : LL) (Q : QQ) (s : List V) (h : Hp) : t_book_maySheet_1 p l Q (nth s 1) (nth s 28) (nth s 29) (nth s 30) h = F_book_maySheet.K p EE l Q [true, true, false, true, false] (nths s 50 0) h := by kernel_rfl
theorem r_book_maySheet_1 {Q : QQ} {v1 v28 v29 v30 : V} {h : Hp} (H : t_book_maySheet_1 (Pu EE) (F_book_maySheet.L EE Q) Q v1 v28 v29 v30 h) : L_book_maySheet_1 Q v1 v28 v29 v30 h :=
 labR (path := [true, true, false, true, false]) rfl rfl fun s e => by cases e; exact cast (q_book_maySheet_1 _ _ _ s h) H
noncomputable def t_book_maySheet_2 (p : Pr) (l : LL) (Q : QQ) (v1 v28 v29 v30 v39 v40 v41 : V) (h : Hp) : Prop :=
 p.bin .lss 3 false false v41 v40 fun x1 =>
 p.cond x1
 (fun _ =>
  p.iaddr 40 v39 v41 fun x2 =>
  p.load h 9 x2 fun x3 =>
  p.call 47 [x3] h fun x4 h5 =>
  p.un .not x4 fun x6 =>
  p.cond x6
  (fun _ =>
  Q (.bool false) h5)
  (fun _ =>
  p.bin .add 3 false true v41 (.int .i64 1) fun x7 =>
  l 2 [v1, v28, v29, v30, v39, v40, x7] h5))
 (fun _ =>
  p.bin .add 3 false true v30 (.int .i64 1) fun x8 =>
  l 1 [v1, v28, v29, x8] h)
theorem q_book_maySheet_2 (p : Pr) (l : LL) (Q : QQ) (s : List V) (h : Hp) : t_book_maySheet_2 p l Q (nth s 1) (nth s 28) (nth s 29) (nth s 30) (nth s 39) (nth s 40) (nth s 41) h = F_book_maySheet.K p EE l Q [true, true, false, true, false, false, true, true, false, false, true, true, true, false] (nths s 50 0) h := by kernel_rfl
theorem r_book_maySheet_2 {Q : QQ} {v1 v28 v29 v30 v39 v40 v41 : V} {h : Hp} (H : t_book_maySheet_2 (Pu EE) (F_book_maySheet.L EE Q) Q v1 v28 v29 v30 v39 v40 v41 h) : L_book_maySheet_2 Q v1 v28 v29 v30 v39 v40 v41 h :=
 labR (path := [true, true, false, true, false, false, true, true, false, false, true, true, true, false]) rfl rfl fun s e => by cases e; exact cast (q_book_maySheet_2 _ _ _ s h) H
noncomputable def c_book_Get : Code := match Tryz.f21.body with | some c => c | none => .skip
noncomputable def F_book_Get : Fl := ⟨Tryz.f21, c_book_Get, []⟩
noncomputable def t_book_Get_0 (p : Pr) (l : LL) (Q : QQ) (v0 v1 : V) (h : Hp) : Prop :=
 p.box h 26 v0 fun x1 h2 b3 =>
 p.box h2 42 v1 fun x4 h5 b6 =>
 p.load h5 26 x1 fun x7 =>
 p.load h5 42 x4 fun x8 =>
 p.call 49 [x7, x8] h5 fun x9 h10 =>
 p.extr x9 0 fun x11 =>
 p.extr x9 1 fun x12 =>
 p.un .not x12 fun x13 =>
 p.cond x13
 (fun _ =>
  Q (.str []) h10)
 (fun _ =>
  p.faddr 26 x1 0 fun x14 =>
  p.load h10 24 x14 fun x15 =>
  p.iaddr 24 x15 x11 fun x16 =>
  p.faddr 38 x16 2 fun x17 =>
  p.load h10 36 x17 fun x18 =>
  p.faddr 42 x4 1 fun x19 =>
  p.load h10 3 x19 fun x20 =>
  p.iaddr 36 x18 x20 fun x21 =>
  p.load h10 40 x21 fun x22 =>
  p.faddr 42 x4 2 fun x23 =>
  p.load h10 3 x23 fun x24 =>
  p.iaddr 40 x22 x24 fun x25 =>
  p.load h10 9 x25 fun x26 =>
  Q x26 h10)
theorem q_book_Get_0 (p : Pr) (l : LL) (Q : QQ) (v0 v1 : V) (h : Hp) : t_book_Get_0 p l Q v0 v1 h = F_book_Get.K p EE l Q [] ([v0, v1] ++ List.replicate 27 undefV) h := by kernel_rfl
theorem a_book_Get {Q : QQ} {v0 v1 : V} {h : Hp} (H : t_book_Get_0 (Pu EE) (F_book_Get.L EE Q) Q v0 v1 h) : Ans EE 21 [v0, v1] h Q :=
 ansL (F := F_book_Get) (by kernel_rfl) (by kernel_rfl) (by kernel_rfl) (by kernel_rfl) (cast (q_book_Get_0 _ _ _ v0 v1 h) H)
noncomputable def c_book_Has : Code := match Tryz.f49.body with | some c => c | none => .skip
noncomputable def F_book_Has : Fl := ⟨Tryz.f49, c_book_Has, []⟩
noncomputable def t_book_Has_0 (p : Pr) (l : LL) (Q : QQ) (v0 v1 : V) (h : Hp) : Prop :=
 p.box h 26 v0 fun x1 h2 b3 =>
 p.box h2 42 v1 fun x4 h5 b6 =>
 p.load h5 26 x1 fun x7 =>
 p.faddr 42 x4 0 fun x8 =>
 p.load h5 9 x8 fun x9 =>
 p.call 19 [x7, x9] h5 fun x10 h11 =>
 p.bin .lss 3 false true x10 (.int .i64 0) fun x12 =>
 p.gval x12 false (fun k13 =>
  p.faddr 42 x4 1 fun x14 =>
  k13 x14) fun x15 =>
 p.gval x12 false (fun k16 =>
  p.load h11 3 x15 fun x17 =>
  k16 x17) fun x18 =>
 p.gval x12 false (fun k19 =>
  p.bin .lss 3 false true x18 (.int .i64 0) fun x20 =>
  k19 x20) fun x21 =>
 p.pick x12 (some (.bool true)) (some x21) fun x22 =>
 p.gval x22 false (fun k23 =>
  p.faddr 42 x4 1 fun x24 =>
  k23 x24) fun x25 =>
 p.gval x22 false (fun k26 =>
  p.load h11 3 x25 fun x27 =>
  k26 x27) fun x28 =>
 p.gval x22 false (fun k29 =>
  p.faddr 26 x1 0 fun x30 =>
  k29 x30) fun x31 =>
 p.gval x22 false (fun k32 =>
  p.load h11 24 x31 fun x33 =>
  k32 x33) fun x34 =>
 p.gval x22 false (fun k35 =>
  k35 x10) fun x36 =>
 p.gval x22 false (fun k37 =>
  p.iaddr 24 x34 x36 fun x38 =>
  k37 x38) fun x39 =>
 p.gval x22 false (fun k40 =>
  p.faddr 38 x39 2 fun x41 =>
  k40 x41) fun x42 =>
 p.gval x22 false (fun k43 =>
  p.load h11 36 x42 fun x44 =>
  k43 x44) fun x45 =>
 p.gval x22 false (fun k46 =>
  p.lbui h11 #[36] .len [x45] fun x47 =>
  k46 x47) fun x48 =>
 p.gval x22 false (fun k49 =>
  p.bin .geq 3 false false x28 x48 fun x50 =>
  k49 x50) fun x51 =>
 p.pick x22 (some (.bool true)) (some x51) fun x52 =>
 p.cond x52
 (fun _ =>
  Q (.tup [x10, (.bool false)]) h11)
 (fun _ =>
  p.faddr 42 x4 2 fun x53 =>
  p.load h11 3 x53 fun x54 =>
  p.bin .geq 3 false true x54 (.int .i64 0) fun x55 =>
  p.gval x55 true (fun k56 =>
  p.faddr 42 x4 2 fun x57 =>
  k56 x57) fun x58 =>
  p.gval x55 true (fun k59 =>
  p.load h11 3 x58 fun x60 =>
  k59 x60) fun x61 =>
  p.gval x55 true (fun k62 =>
  p.faddr 26 x1 0 fun x63 =>
  k62 x63) fun x64 =>
  p.gval x55 true (fun k65 =>
  p.load h11 24 x64 fun x66 =>
  k65 x66) fun x67 =>
  p.gval x55 true (fun k68 =>
  k68 x10) fun x69 =>
  p.gval x55 true (fun k70 =>
  p.iaddr 24 x67 x69 fun x71 =>
  k70 x71) fun x72 =>
  p.gval x55 true (fun k73 =>
  p.faddr 38 x72 2 fun x74 =>
  k73 x74) fun x75 =>
  p.gval x55 true (fun k76 =>
  p.load h11 36 x75 fun x77 =>
  k76 x77) fun x78 =>
  p.gval x55 true (fun k79 =>
  p.faddr 42 x4 1 fun x80 =>
  k79 x80) fun x81 =>
  p.gval x55 true (fun k82 =>
  p.load h11 3 x81 fun x83 =>
  k82 x83) fun x84 =>
  p.gval x55 true (fun k85 =>
  p.iaddr 36 x78 x84 fun x86 =>
  k85 x86) fun x87 =>
  p.gval x55 true (fun k88 =>
  p.load h11 40 x87 fun x89 =>
  k88 x89) fun x90 =>
  p.gval x55 true (fun k91 =>
  p.lbui h11 #[40] .len [x90] fun x92 =>
  k91 x92) fun x93 =>
  p.gval x55 true (fun k94 =>
  p.bin .lss 3 false false x61 x93 fun x95 =>
  k94 x95) fun x96 =>
  p.pick x55 (some x96) (some (.bool false)) fun x97 =>
  p.gchk x55 true (fun k98 =>
  p.lbui h11 #[40] .len [x90] fun x99 =>
  p.same x99 x93 (
  k98)) (
  p.gchk x55 true (fun k100 =>
  p.load h11 40 x87 fun x101 =>
  p.same x101 x90 (
  k100)) (
  p.gchk x55 true (fun k102 =>
  p.load h11 3 x81 fun x103 =>
  p.same x103 x84 (
  k102)) (
  p.gchk x55 true (fun k104 =>
  p.load h11 36 x75 fun x105 =>
  p.same x105 x78 (
  k104)) (
  p.gchk x55 true (fun k106 =>
  p.load h11 24 x64 fun x107 =>
  p.same x107 x67 (
  k106)) (
  p.gchk x55 true (fun k108 =>
  p.load h11 3 x58 fun x109 =>
  p.same x109 x61 (
  k108)) (
  Q (.tup [x10, x97]) h11)))))))
theorem q_book_Has_0 (p : Pr) (l : LL) (Q : QQ) (v0 v1 : V) (h : Hp) : t_book_Has_0 p l Q v0 v1 h = F_book_Has.K p EE l Q [] ([v0, v1] ++ List.replicate 49 undefV) h := by kernel_rfl
theorem a_book_Has {Q : QQ} {v0 v1 : V} {h : Hp} (H : t_book_Has_0 (Pu EE) (F_book_Has.L EE Q) Q v0 v1 h) : Ans EE 49 [v0, v1] h Q :=
 ansL (F := F_book_Has) (by kernel_rfl) (by kernel_rfl) (by kernel_rfl) (by kernel_rfl) (cast (q_book_Has_0 _ _ _ v0 v1 h) H)
noncomputable def c_book_Find : Code := match Tryz.f19.body with | some c => c | none => .skip
noncomputable def F_book_Find : Fl := ⟨Tryz.f19, c_book_Find, []⟩
noncomputable def t_book_Find_0 (p : Pr) (l : LL) (Q : QQ) (v0 v1 : V) (h : Hp) : Prop :=
 p.box h 26 v0 fun x1 h2 b3 =>
 p.box h2 9 v1 fun x4 h5 b6 =>
 p.faddr 26 x1 0 fun x7 =>
 p.load h5 24 x7 fun x8 =>
 p.call 45 [x8, (.fn (.func 46) [] [x4])] h5 fun x9 h10 =>
 Q x9 h10
theorem q_book_Find_0 (p : Pr) (l : LL) (Q : QQ) (v0 v1 : V) (h : Hp) : t_book_Find_0 p l Q v0 v1 h = F_book_Find.K p EE l Q [] ([v0, v1] ++ List.replicate 7 undefV) h := by kernel_rfl
theorem a_book_Find {Q : QQ} {v0 v1 : V} {h : Hp} (H : t_book_Find_0 (Pu EE) (F_book_Find.L EE Q) Q v0 v1 h) : Ans EE 19 [v0, v1] h Q :=
 ansL (F := F_book_Find) (by kernel_rfl) (by kernel_rfl) (by kernel_rfl) (by kernel_rfl) (cast (q_book_Find_0 _ _ _ v0 v1 h) H)
noncomputable def c_book_Find_1 : Code := match Tryz.f46.body with | some c => c | none => .skip
noncomputable def F_book_Find_1 : Fl := ⟨Tryz.f46, c_book_Find_1, []⟩
noncomputable def t_book_Find_1_0 (p : Pr) (l : LL) (Q : QQ) (v0 v1 : V) (h : Hp) : Prop :=
 p.box h 38 v0 fun x1 h2 b3 =>
 p.faddr 38 x1 0 fun x4 =>
 p.load h2 9 x4 fun x5 =>
 p.load h2 9 v1 fun x6 =>
 p.bin .eql 9 false false x5 x6 fun x7 =>
 Q x7 h2
theorem q_book_Find_1_0 (p : Pr) (l : LL) (Q : QQ) (v0 v1 : V) (h : Hp) : t_book_Find_1_0 p l Q v0 v1 h = F_book_Find_1.K p EE l Q [] ([v0, v1] ++ List.replicate 6 undefV) h := by kernel_rfl
theorem a_book_Find_1 {Q : QQ} {v0 v1 : V} {h : Hp} (H : t_book_Find_1_0 (Pu EE) (F_book_Find_1.L EE Q) Q v0 v1 h) : Ans EE 46 [v0, v1] h Q :=
 ansL (F := F_book_Find_1) (by kernel_rfl) (by kernel_rfl) (by kernel_rfl) (by kernel_rfl) (cast (q_book_Find_1_0 _ _ _ v0 v1 h) H)
noncomputable def c_slices_IndexFunc_api_Sheet_api_Sheet : Code := match Tryz.f45.body with | some c => c | none => .skip
noncomputable def F_slices_IndexFunc_api_Sheet_api_Sheet : Fl := ⟨Tryz.f45, c_slices_IndexFunc_api_Sheet_api_Sheet, [([false, true, false, true], [0, 1, 7, 8])]⟩
abbrev L_slices_IndexFunc_api_Sheet_api_Sheet_1 (Q : QQ) (v0 v1 v7 v8 : V) (h : Hp) : Prop := F_slices_IndexFunc_api_Sheet_api_Sheet.L EE Q 1 [v0, v1, v7, v8] h
noncomputable def t_slices_IndexFunc_api_Sheet_api_Sheet_0 (p : Pr) (l : LL) (Q : QQ) (v0 v1 : V) (h : Hp) : Prop :=
 p.lbui h #[24] .len [v0] fun x1 =>
 l 1 [v0, v1, x1, (.int .i64 0)] h
theorem q_slices_IndexFunc_api_Sheet_api_Sheet_0 (p : Pr) (l : LL) (Q : QQ) (v0 v1 : V) (h : Hp) : t_slices_IndexFunc_api_Sheet_api_Sheet_0 p l Q v0 v1 h = F_slices_IndexFunc_api_Sheet_api_Sheet.K p EE l Q [] ([v0, v1] ++ List.replicate 17 undefV) h := by kernel_rfl
theorem a_slices_IndexFunc_api_Sheet_api_Sheet {Q : QQ} {v0 v1 : V} {h : Hp} (H : t_slices_IndexFunc_api_Sheet_api_Sheet_0 (Pu EE) (F_slices_IndexFunc_api_Sheet_api_Sheet.L EE Q) Q v0 v1 h) : Ans EE 45 [v0, v1] h Q :=
 ansL (F := F_slices_IndexFunc_api_Sheet_api_Sheet) (by kernel_rfl) (by kernel_rfl) (by kernel_rfl) (by kernel_rfl) (cast (q_slices_IndexFunc_api_Sheet_api_Sheet_0 _ _ _ v0 v1 h) H)
noncomputable def t_slices_IndexFunc_api_Sheet_api_Sheet_1 (p : Pr) (l : LL) (Q : QQ) (v0 v1 v7 v8 : V) (h : Hp) : Prop :=
 p.bin .lss 3 false false v8 v7 fun x1 =>
 p.cond x1
 (fun _ =>
  p.iaddr 24 v0 v8 fun x2 =>
  p.load h 38 x2 fun x3 =>
  p.callv v1 [x3] h fun x4 h5 =>
  p.cond x4
  (fun _ =>
  Q v8 h5)
  (fun _ =>
  p.bin .add 3 false true v8 (.int .i64 1) fun x6 =>
  l 1 [v0, v1, v7, x6] h5))
 (fun _ =>
  Q (.int .i64 (-1)) h)
theorem q_slices_IndexFunc_api_Sheet_api_Sheet_1 (p : Pr) (l : LL) (Q : QQ) (s : List V) (h : Hp) : t_slices_IndexFunc_api_Sheet_api_Sheet_1 p l Q (nth s 0) (nth s 1) (nth s 7) (nth s 8) h = F_slices_IndexFunc_api_Sheet_api_Sheet.K p EE l Q [true, false, true, false] (nths s 19 0) h := by kernel_rfl
theorem r_slices_IndexFunc_api_Sheet_api_Sheet_1 {Q : QQ} {v0 v1 v7 v8 : V} {h : Hp} (H : t_slices_IndexFunc_api_Sheet_api_Sheet_1 (Pu EE) (F_slices_IndexFunc_api_Sheet_api_Sheet.L EE Q) Q v0 v1 v7 v8 h) : L_slices_IndexFunc_api_Sheet_api_Sheet_1 Q v0 v1 v7 v8 h :=
 labR (path := [true, false, true, false]) rfl rfl fun s e => by cases e; exact cast (q_slices_IndexFunc_api_Sheet_api_Sheet_1 _ _ _ s h) H
end
end Go.Proofs.YtbchdlelmkmagaaGreatDoor.VM
namespace Go.Proofs.YtbchdlelmkmagaaGreatDoor.VM
open Go
set_option linter.unusedVariables false
set_option linter.unusedSectionVars false
set_option linter.unusedSimpArgs false
set_option maxRecDepth 20000
noncomputable section
attribute [local instance] syZ
theorem pu_gchk_y (w : Bool) (f : Prop → Prop) (k : Prop) : (Pu EE).gchk (.bool w) w f k ↔ f k := by
 show (∃ c, wantV (.bool w) w = some c ∧ (c = true → f k) ∧ (c = false → k)) ↔ _
 simp [wantV]
theorem pu_gchk_ft (f : Prop → Prop) (k : Prop) : (Pu EE).gchk (.bool false) true f k ↔ k := by
 show (∃ c, wantV (.bool false) true = some c ∧ (c = true → f k) ∧ (c = false → k)) ↔ _
 simp [wantV]
theorem same_int (kd : IntKind) (n : Int) (k : Prop) : (Pu EE).same (.int kd n) (.int kd n) k ↔ k := by
 show (sameV _ _ = true ∧ k) ↔ k
 have : sameV (.int kd n) (.int kd n) = true := by simp [sameV, same1, keq_refl, ieq_dec]
 simp [this]
theorem same_rd {h : Hp} {sz len : Nat} {v : V} {cs : List V} (r : Rd h sz v len cs) (k : Prop) : (Pu EE).same v v k ↔ k := by
 show (sameV _ _ = true ∧ k) ↔ k
 have : sameV v v = true := by
  rcases r.at_ with ⟨rfl | rfl, _⟩ | ⟨b, off, vs, _, _, ⟨c, rfl⟩ | ⟨lo, z, rfl⟩⟩ <;> simp [sameV, same1]
 simp [this]
theorem find1_ok (N : Nat) (h : Hp) (s : Sht) (rv : V) (nm : List Nat) (b : Nat) (hC : C1 rv) (hb : b < h.n) (hs : h.t.get b = some (.cells [.str nm] 9 false)) : Ans EE 46 [.agg (shtC s rv), .ptr b 0] h fun x h' => x = .bool (decide (s.name = nm)) ∧ Ext h.n h h' := by
 apply a_book_Find_1
 unfold t_book_Find_1_0
 have hcl : allCells (shtC s rv) = true := by
  show (bif rv.isCell then allCells [] else false) = true
  rw [hC.2]; rfl
 refine pu_boxX (cs := shtC s rv) hcl fun h1 b1 w => ?_
 rw [fa_api_Sheet_0, pu_load1 l_string w.at_ rfl, pu_load1 l_string (by rw [w.old b hb]; exact hs) rfl, pu_seql]
 exact ⟨rfl, w.ext (Nat.le_refl _)⟩
theorem indexF_loop (Q : V → Hp → Prop) (M : Nat) (h0 : Hp) (sv : V) (bk : Bok) (nm : List Nat) (b : Nat) (hM : M ≤ h0.n) (hb : b < h0.n) (hs : h0.t.get b = some (.cells [.str nm] 9 false)) (hv : ShsAt M h0 sv bk) (hbl : bk.length < 1000000) :
  ∀ (k i : Nat), bk.length - i = k → i ≤ bk.length → ∀ h : Hp, Ext h0.n h0 h → (∀ (z : Int) (h' : Hp), z = (match findN (bk.drop i) nm i with | some j => (j : Int) | none => -1) → Ext h0.n h0 h' → Q (.int .i64 z) h') →
   L_slices_IndexFunc_api_Sheet_api_Sheet_1 Q sv (.fn (.func 46) [] [.ptr b 0]) (.int .i64 bk.length) (.int .i64 i) h := by
 intro k
 induction k with
 | zero =>
  intro i hk hi h x hq
  apply r_slices_IndexFunc_api_Sheet_api_Sheet_1
  unfold t_slices_IndexFunc_api_Sheet_api_Sheet_1
  rw [pu_lssN, pu_cond_d]
  refine ⟨fun h1 => absurd h1 (by omega), fun _ => hq (-1) h ?_ x⟩
  rw [List.drop_eq_nil_of_le (by omega)]
  rfl
 | succ k ih =>
  intro i hk hi h x hq
  apply r_slices_IndexFunc_api_Sheet_api_Sheet_1
  unfold t_slices_IndexFunc_api_Sheet_api_Sheet_1
  rw [pu_lssN, pu_cond_d]
  refine ⟨fun h1 => ?_, fun h1 => absurd (by omega) h1⟩
  have hv1 := hv.ext (x.mono hM)
  obtain ⟨b1, o1, rv, g1, g2, g3, _⟩ := sht_get hv1 s_sl_api_Sheet l_api_Sheet (List.getElem?_eq_getElem h1)
  have hC : C1 rv := by obtain ⟨us, hu⟩ := g3.rd; exact hu.c1
  have hxn := x.n
  rw [g1, g2]
  refine ⟨(46, [.agg (shtC bk[i] rv), .ptr b 0]), rfl, ?_⟩
  refine (find1_ok M h bk[i] rv nm b hC (by omega) (by rw [x.old b hb]; exact hs)).mono ?_
  rintro y h2 ⟨rfl, hx2⟩
  have x2 := x.trans (hx2.mono hxn)
  rw [drop_cons h1] at hq
  simp only [findN] at hq
  rw [pu_cond_d]
  refine ⟨fun e => hq i h2 (by rw [if_pos e]) x2, fun e => ?_⟩
  rw [if_neg e] at hq
  rw [pu_inc _ _ _ _ (by omega)]
  exact ih (i + 1) (by omega) (by omega) h2 x2 hq
theorem pfind_ok (M : Nat) (h : Hp) (v : V) (bk : Bok) (nm : List Nat) (hv : BokAt M h v bk) (hM : M ≤ h.n) (hb : bk.length < 1000000) : Ans EE 19 [v, .str nm] h fun x h' => x = .int .i64 (findZ bk nm) ∧ Ext h.n h h' := by
 obtain ⟨sv, rfl, hs⟩ := hv
 apply a_book_Find
 unfold t_book_Find_0
 obtain ⟨cs, hrd⟩ := hs.rd
 refine pu_boxX (cs := [sv]) (by have := hrd.c1; simp [allCells, this.2]) fun h1 b1 w1 => ?_
 refine (pu_box (x := .str nm) (e := 9) rfl h1 _).2 ?_
 have w2 := New.mk' h1 (.cells [.str nm] 9 false)
 show (Pu EE).faddr _ _ _ _
 obtain ⟨h2, hh2⟩ : ∃ h2, h2 = h1.new (.cells (V.str nm).cells 9 false) := ⟨_, rfl⟩
 rw [← hh2]
 have w2 : New h1 h2 h1.n (.cells [.str nm] 9 false) := by rw [hh2]; exact w2
 have n1 := w1.n
 have n2 := w2.n
 have e1 := w1.b
 have x2 : Ext h.n h h2 := (w1.ext (Nat.le_refl _)).trans (w2.ext (by omega))
 have hb1 : h2.t.get b1 = some (.cells [sv] 26 false) := by rw [w2.old b1 (by omega)]; exact w1.at_
 rw [fa_api_Book_0, pu_load1 l_sl_api_Sheet hb1 rfl]
 have hs2 := hs.ext (x2.mono hM)
 obtain ⟨cs2, hrd2⟩ := hs2.rd
 refine Ans.mono (Q := fun x h' => x = .int .i64 (findZ bk nm) ∧ Ext h2.n h2 h') ?_ (fun x h' q => ⟨q.1, x2.trans (q.2.mono (by omega))⟩)
 apply a_slices_IndexFunc_api_Sheet_api_Sheet
 unfold t_slices_IndexFunc_api_Sheet_api_Sheet_0
 rw [pu_len hrd2 s_sl_api_Sheet]
 exact indexF_loop _ M h2 sv bk nm h1.n (by omega) (by omega) w2.at_ hs2 hb _ 0 rfl (by omega) h2 (Ext.refl _ _) fun z h' e x => ⟨by rw [e]; rfl, x⟩
def hasC (bk : Bok) (s : Spt) : Bool := match findR bk s.s with
 | none => false
 | some t => insideB t s.r s.c
theorem has_ok (M : Nat) (h : Hp) (v : V) (bk : Bok) (s : Spt) (hv : BokAt M h v bk) (hM : M ≤ h.n) (hb : bk.length < 1000000) : Ans EE 49 [v, spV s] h fun x h' => x = .tup [.int .i64 (findZ bk s.s), .bool (hasC bk s)] ∧ Ext h.n h h' := by
 have hv0 := hv
 obtain ⟨sv, rfl, hs⟩ := hv
 obtain ⟨cs, hrd⟩ := hs.rd
 have hcell : allCells [sv] = true := by have := hrd.c1; simp [allCells, this.2]
 apply a_book_Has
 unfold t_book_Has_0
 refine pu_boxX (cs := [sv]) hcell fun h1 b1 w1 => ?_
 refine pu_boxX (cs := spC s) rfl fun h2 b2 w2 => ?_
 have n1 := w1.n
 have n2 := w2.n
 have e1 := w1.b
 have e2 := w2.b
 have hx2 : Ext h.n h h2 := (w1.ext (Nat.le_refl h.n)).trans (w2.ext (by omega))
 have hb1 : h2.t.get b1 = some (.cells [sv] 26 false) := by rw [w2.old b1 (by omega)]; exact w1.at_
 rw [pu_loadS l_api_Book hb1 (l := [sv]) rfl, fa_api_Spot_0, pu_load1 l_string w2.at_ rfl]
 refine (pfind_ok M h2 _ bk s.s (hv0.ext (hx2.mono hM)) (by omega) hb).mono ?_
 rintro x h3 ⟨rfl, hx3⟩
 have hx : Ext h.n h h3 := hx2.trans (hx3.mono (by omega))
 have hs3 := hs.ext (hx.mono hM)
 have hb13 : h3.t.get b1 = some (.cells [sv] 26 false) := by rw [hx3.old b1 (by omega)]; exact hb1
 have hb23 : h3.t.get b2 = some (.cells (spC s) 42 false) := by rw [hx3.old b2 (by omega)]; exact w2.at_
 have z0 : ∀ n : Nat, decide ((n : Int) < 0) = false := fun n => decide_eq_false (by omega)
 have g0 : ∀ n : Nat, decide ((0 : Int) ≤ (n : Int)) = true := fun n => decide_eq_true (by omega)
 unfold findZ hasC
 cases hf : findN bk s.s 0 with
 | none =>
  rw [findN_none hf]
  simp only
  rw [pu_lss, decide_eq_true (by decide : (-1 : Int) < 0)]
  simp only [pu_gval_tf, pu_pick_t, pu_cond_t]
  exact ⟨by first | trivial | rfl, hx⟩
 | some j =>
  obtain ⟨_, t, ht, hnm, hfr⟩ := findN_some hf
  rw [Nat.sub_zero] at ht
  rw [hfr]
  simp only
  obtain ⟨b4, o4, rv, g1, g2, g3, vs, f, ro, g4, g5⟩ := sht_get hs3 s_sl_api_Sheet l_api_Sheet ht
  obtain ⟨us, hu⟩ := g3.rd
  rw [pu_lss, z0]
  simp only [pu_gval_y, pu_pick_f, fa_api_Spot_1]
  rw [pu_load1 l_int hb23 rfl, pu_lss, z0]
  simp only [pu_gval_y, pu_pick_f, fa_api_Spot_1, fa_api_Book_0]
  rw [pu_load1 l_int hb23 rfl, pu_load1 l_sl_api_Sheet hb13 rfl, g1, fa_api_Sheet_2, pu_load1 l_sl_sl_string g4 (g5 2 _ rfl), pu_len hu s_sl_sl_string, geqN, pu_cond_d]
  unfold insideB
  refine ⟨fun h9 => ?_, fun h9 => ?_⟩
  ·rw [List.getElem?_eq_none (by omega)]
   exact ⟨by first | trivial | rfl, hx⟩
  ·obtain ⟨b7, o7, w7, m1, m2, m3⟩ := rows_get g3 s_sl_sl_string l_sl_string (List.getElem?_eq_getElem (by omega : s.r < t.rows.length))
   rw [fa_api_Spot_2, pu_load1 l_int hb23 rfl, pu_geq, g0]
   simp only [pu_gval_y, pu_gchk_y, pu_pick_t, fa_api_Spot_2]
   rw [pu_load1 l_int hb23 rfl, pu_load1 l_sl_api_Sheet hb13 rfl, g1, fa_api_Sheet_2, pu_load1 l_sl_sl_string g4 (g5 2 _ rfl), pu_load1 l_int hb23 rfl, m1, m2, pu_len m3.1 s_sl_string, pu_lssN]
   rw [pu_len m3.1 s_sl_string, same_int, m2, same_rd m3.1, pu_load1 l_int hb23 rfl, same_int, pu_load1 l_sl_sl_string g4 (g5 2 _ rfl), same_rd hu, pu_load1 l_sl_api_Sheet hb13 rfl, same_rd (hs3.rd.choose_spec), pu_load1 l_int hb23 rfl, same_int]
   rw [List.getElem?_eq_getElem (by omega : s.r < t.rows.length)]
   exact ⟨by first | trivial | rfl, hx⟩
theorem pget_ok (M : Nat) (h : Hp) (v : V) (bk : Bok) (s : Spt) (hv : BokAt M h v bk) (hM : M ≤ h.n) (hb : bk.length < 1000000) : Ans EE 21 [v, spV s] h fun x h' => x = .str (getC bk s) ∧ Ext h.n h h' := by
 have hv0 := hv
 obtain ⟨sv, rfl, hs⟩ := hv
 obtain ⟨cs, hrd⟩ := hs.rd
 have hcell : allCells [sv] = true := by have := hrd.c1; simp [allCells, this.2]
 apply a_book_Get
 unfold t_book_Get_0
 refine pu_boxX (cs := [sv]) hcell fun h1 b1 w1 => ?_
 refine pu_boxX (cs := spC s) rfl fun h2 b2 w2 => ?_
 have n1 := w1.n
 have n2 := w2.n
 have e1 := w1.b
 have e2 := w2.b
 have hx2 : Ext h.n h h2 := (w1.ext (Nat.le_refl h.n)).trans (w2.ext (by omega))
 have hb1 : h2.t.get b1 = some (.cells [sv] 26 false) := by rw [w2.old b1 (by omega)]; exact w1.at_
 rw [pu_loadS l_api_Book hb1 (l := [sv]) rfl, pu_loadS l_api_Spot w2.at_ (l := spC s) rfl]
 refine (has_ok M h2 _ bk s (hv0.ext (hx2.mono hM)) (by omega) hb).mono ?_
 rintro x h3 ⟨rfl, hx3⟩
 have hx : Ext h.n h h3 := hx2.trans (hx3.mono (by omega))
 have hs3 := hs.ext (hx.mono hM)
 have hb13 : h3.t.get b1 = some (.cells [sv] 26 false) := by rw [hx3.old b1 (by omega)]; exact hb1
 have hb23 : h3.t.get b2 = some (.cells (spC s) 42 false) := by rw [hx3.old b2 (by omega)]; exact w2.at_
 rw [pu_extr0, pu_extr1, pu_not]
 unfold findZ hasC getC
 cases hf : findN bk s.s 0 with
 | none =>
  rw [findN_none hf]
  simp only [Bool.not_false, pu_cond_t]
  exact ⟨by first | trivial | rfl, hx⟩
 | some j =>
  obtain ⟨_, t, ht, hnm, hfr⟩ := findN_some hf
  rw [Nat.sub_zero] at ht
  rw [hfr]
  simp only
  unfold insideB
  cases hrow : t.rows[s.r]? with
  | none =>
   simp only [Bool.not_false, pu_cond_t]
   exact ⟨by first | trivial | rfl, hx⟩
  | some row =>
   simp only [pu_cond_n]
   refine ⟨fun h9 => ?_, fun h9 => ?_⟩
   ·rw [List.getElem?_eq_none (by omega)]
    exact ⟨by first | trivial | rfl, hx⟩
   ·obtain ⟨b4, o4, rv, g1, g2, g3, vs, f, ro, g4, g5⟩ := sht_get hs3 s_sl_api_Sheet l_api_Sheet ht
    obtain ⟨b7, o7, w7, m1, m2, m3⟩ := rows_get g3 s_sl_sl_string l_sl_string hrow
    obtain ⟨b8, o8, m4, m5⟩ := row_get m3 s_sl_string l_string (List.getElem?_eq_getElem h9)
    rw [fa_api_Book_0, pu_load1 l_sl_api_Sheet hb13 rfl, g1, fa_api_Sheet_2, pu_load1 l_sl_sl_string g4 (g5 2 _ rfl), fa_api_Spot_1, pu_load1 l_int hb23 rfl, m1, m2, fa_api_Spot_2, pu_load1 l_int hb23 rfl, m4, m5, List.getElem?_eq_getElem h9]
    exact ⟨by first | trivial | rfl, hx⟩
end
end Go.Proofs.YtbchdlelmkmagaaGreatDoor.VM
