/- Digits of a linear sum; the place of a byte in a text of such bytes. -/
import Derived.Test.YtehbfpcfbpbllaaGreatDoorSyN
import Derived.Test.YtehbfpcfbpbllaaGreatDoorVmZ
import Derived.Lib.ItoaNum
namespace Go.Proofs.YtehbfpcfbpbllaaGreatDoor.VM
open Go Go.RowKit
set_option linter.unusedVariables false
set_option linter.unusedSectionVars false
set_option linter.unusedSimpArgs false
section
variable {xs : List Int} {bs : Bs} {tab : List (Nat × Obj)}
def dcodeS (s : List Int) : Option Nat := bif okL s && Nat.ble s.length 40 then some (encL s) else none
def dcode (l : List Int) : Option Nat := dcodeS (lstrip (ladd [48] l))
def digL (bs : Bs) : Nat → List Int → Option (List Nat)
  | 0, _ => none
  | f + 1, l =>
    bif !ilt (llo l ((1, 1) :: bs)) 0 && ilt (lhi l ((1, 1) :: bs)) 10 then (dcode l).bind fun e => some [e]
    else bif !ilt (llo l ((1, 1) :: bs)) 10 then (divB bs 10 l).bind fun p => (digL bs f (lstrip p.1)).bind fun r => (dcode p.2).bind fun e => some (r ++ [e])
    else none
theorem dcode_ok {l : List Int} {e : Nat} (h : dcode l = some e) : nval xs e = 48 + lval l (1 :: xs) := by
  letI : Sy := syNo
  unfold dcode dcodeS at h
  generalize hs : lstrip (ladd [48] l) = s at h
  cases hq : (okL s && Nat.ble s.length 40) with
  | false => rw [hq] at h; cases h
  | true =>
    rw [hq] at h
    have he := Option.some.inj h
    simp only [Bool.and_eq_true, Nat.ble_eq] at hq
    rw [← he, nval, dec_enc s 40 hq.2 hq.1, ← hs, lval_strip, lval_add, lone_val]
theorem digL_ok (hb : inB bs xs) : ∀ {f : Nat} {l : List Int} {r : List Nat}, digL bs f l = some r → 0 ≤ lval l (1 :: xs) ∧ (Lib.decDigits (lval l (1 :: xs)).toNat).map UInt8.toNat = tval xs r
  | 0, _, _, h => by cases h
  | f + 1, l, r, h => by
    letI : Sy := syNo
    obtain ⟨h1, h2⟩ := l_in l _ _ (in1 hb)
    rw [digL] at h
    cases hq : (!ilt (llo l ((1, 1) :: bs)) 0 && ilt (lhi l ((1, 1) :: bs)) 10) with
    | true =>
      rw [hq] at h
      simp only [cond_true, Option.bind_eq_some_iff, Option.some.injEq] at h
      obtain ⟨e, h3, rfl⟩ := h
      simp only [Bool.and_eq_true, Bool.not_eq_true', ilt_eq, decide_eq_false_iff_not, decide_eq_true_iff, Int.not_lt] at hq
      refine ⟨by omega, ?_⟩
      rw [Lib.decDigits, dif_pos (by omega)]
      rw [tval_cons, dcode_ok h3]
      simp only [List.map_cons, List.map_nil, tval, List.cons.injEq, and_true]
      show (48 + (lval l (1 :: xs)).toNat) % 256 = _
      omega
    | false =>
      rw [hq] at h
      simp only [cond_false] at h
      cases hq2 : (!ilt (llo l ((1, 1) :: bs)) 10) with
      | false => rw [hq2] at h; cases h
      | true =>
        rw [hq2] at h
        simp only [cond_true, Option.bind_eq_some_iff, Option.some.injEq] at h
        obtain ⟨p, h3, r', h4, e, h5, rfl⟩ := h
        simp only [Bool.not_eq_true', ilt_eq, decide_eq_false_iff_not, Int.not_lt] at hq2
        obtain ⟨_, e1, e2⟩ := divB_ok hb h3
        obtain ⟨h6, h7⟩ := digL_ok hb h4
        rw [lval_strip] at h6 h7
        refine ⟨by omega, ?_⟩
        rw [Lib.decDigits, dif_neg (by omega)]
        have e3 : (lval l (1 :: xs)).toNat / 10 = (lval p.1 (1 :: xs)).toNat := by
          rw [← e1, Int.tdiv_eq_ediv_of_nonneg (by omega)]; omega
        have e4 : ((lval l (1 :: xs)).toNat % 10 : Nat) = (lval p.2 (1 :: xs)).toNat := by
          rw [← e2, Int.tmod_eq_emod_of_nonneg (by omega)]; omega
        have e5 : 0 ≤ lval p.2 (1 :: xs) := by
          rw [← e2, Int.tmod_eq_emod_of_nonneg (by omega)]; omega
        have e6 : (lval l (1 :: xs)).toNat % 10 < 10 := Nat.mod_lt _ (by omega)
        rw [e3, e4, List.map_append, h7]
        have : tval xs (r' ++ [e]) = tval xs r' ++ [(nval xs e).toNat] := by simp [tval]
        rw [this, dcode_ok h5]
        congr 1
        simp only [List.map_cons, List.map_nil, List.cons.injEq, and_true]
        show (48 + (lval p.2 (1 :: xs)).toNat) % 256 = _
        omega
theorem itoa_dig (hb : inB bs xs) {f : Nat} {l : List Int} {r : List Nat} (h : digL bs f l = some r) : (⟨(Lib.itoa (lval l (1 :: xs))).toArray⟩ : ByteArray) = bytesOf (tval xs r) := by
  obtain ⟨h1, h2⟩ := digL_ok hb h
  unfold Lib.itoa bytesOf
  rw [if_neg (by omega), ← h2, List.map_map]
  congr 2
  conv => lhs; rw [← List.map_id (Lib.decDigits _)]
  apply List.map_congr_left
  intro a _
  simp [Nat.toUInt8]
/-- a number's text -/
def digS (bs : Bs) (al : List V) (h : Hp) : Option (V × Hp) :=
  match al with
  | [v] => match linOf v with
    | some (.i64, l) => bif ilt (lhi l ((1, 1) :: bs)) 9223372036854775808 then (digL bs 20 l).bind fun r => (mkT r).bind fun t => some (t, h) else none
    | _ => none
  | _ => none
def fnd (bs : Bs) (c : Nat) : List Nat → Nat → Option Int
  | [], _ => some (-1)
  | e :: r, i => match eqE bs e (codeB c) with
    | some true => some (.ofNat i)
    | some false => fnd bs c r (i + 1)
    | none => none
theorem fnd_ok (hb : inB bs xs) {c : Nat} (hc : c < 256) : ∀ {l : List Nat} {i : Nat} {z : Int}, fnd bs c l i = some z → idxB (tval xs l) c i = z
  | [], i, z, h => by cases h; rfl
  | e :: r, i, z, h => by
    rw [fnd] at h
    rw [tval_cons, idxB]
    have key : ∀ b, eqE bs e (codeB c) = some b → Nat.beq (nval xs e).toNat c = b := fun b hb' => by
      have := eqE_ok hb hb'
      rw [const_val (codeB_const hc)] at this
      rw [Bool.eq_iff_iff, Nat.beq_eq, ← this]
      simp
    split at h
    · rename_i h1
      cases h
      rw [key _ h1]
      rfl
    · rename_i h1
      rw [key _ h1]
      exact fnd_ok hb hc h
    · cases h
def idxS (bs : Bs) (al : List V) (h : Hp) : Option (V × Hp) :=
  match al with
  | [.symS j, .int .u8 (.ofNat c)] => bif Nat.blt c 256 then (fnd bs c (decT 4096 j) 0).bind fun z => some (mkInt .i64 z, h) else none
  | al => idxH al h
end
end Go.Proofs.YtehbfpcfbpbllaaGreatDoor.VM
