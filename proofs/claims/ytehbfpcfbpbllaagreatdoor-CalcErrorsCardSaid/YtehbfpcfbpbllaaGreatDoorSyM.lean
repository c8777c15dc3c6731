/- What stands for numbers and texts, reckoned with: E.so of linear sums, and why it is so. No program in sight. -/
import Derived.Test.YtehbfpcfbpbllaaGreatDoorSyL
namespace Go.Proofs.YtehbfpcfbpbllaaGreatDoor.VM
open Go Go.RowKit
set_option linter.unusedVariables false
set_option linter.unusedSectionVars false
set_option linter.unusedSimpArgs false
def kLo : IntKind → Int
  | .i8 => -128 | .i16 => -32768 | .i32 => -2147483648 | .i64 => -9223372036854775808 | _ => 0
def kHi : IntKind → Int
  | .i8 => 127 | .i16 => 32767 | .i32 => 2147483647 | .i64 => 9223372036854775807
  | .u8 => 255 | .u16 => 65535 | .u32 => 4294967295 | .u64 => 18446744073709551615
theorem wrap_k (k : IntKind) (n : Int) (h1 : kLo k ≤ n) (h2 : n ≤ kHi k) : k.wrap n = n := by
  cases k <;> simp only [kLo, kHi] at h1 h2 <;> simp only [IntKind.wrap, IntKind.bits, IntKind.signed] <;> simp <;> omega
abbrev Bs := List (Int × Int)
def decT : Nat → Nat → List Nat
  | 0, _ => []
  | f + 1, j => bif Nat.beq j 0 then [] else (j % Nat.pow 2 640) :: decT f (j / Nat.pow 2 640)
def encT : List Nat → Nat
  | [] => 0
  | e :: l => encT l * Nat.pow 2 640 + e
def okT : List Nat → Bool
  | [] => true
  | e :: l => Nat.blt 0 e && Nat.blt e (Nat.pow 2 640) && okT l
def nval (xs : List Int) (j : Nat) : Int := lval (decL 40 j) (1 :: xs)
def tval (xs : List Int) (l : List Nat) : List Nat := l.map fun e => (nval xs e).toNat
@[reducible] def syL (xs : List Int) (tab : List (Nat × Obj)) : Sy := ⟨nval xs, fun j => tval xs (decT 4096 j), tab⟩
section
attribute [local instance] syNo
theorem decT_enc : ∀ (l : List Nat) (f : Nat), l.length ≤ f → okT l = true → decT f (encT l) = l
  | [], f, _, _ => by cases f <;> rfl
  | c :: l, 0, h, _ => by simp at h
  | c :: l, f + 1, h, ho => by
    simp only [okT, Bool.and_eq_true, Nat.blt_eq] at ho
    obtain ⟨⟨h1, h2⟩, h3⟩ := ho
    simp only [List.length_cons] at h
    have ih := decT_enc l f (by omega) h3
    rw [decT, encT]
    generalize Nat.pow 2 640 = M at *
    have e0 : Nat.beq (encT l * M + c) 0 = false := by rw [beq_d]; simp; omega
    have e1 : (encT l * M + c) % M = c := by rw [Nat.mul_comm, Nat.mul_add_mod]; exact Nat.mod_eq_of_lt h2
    have e2 : (encT l * M + c) / M = encT l := by rw [Nat.mul_comm, Nat.mul_add_div (by omega), Nat.div_eq_of_lt h2]; rfl
    rw [e0, e1, e2, ih]
    rfl
/-- a number -/
def fSym (k : IntKind) : Nat → V
  | 0 => .symI k 0
  | n + 1 => .symI k (Nat.succ n)
theorem fSym_eq (k : IntKind) (n : Nat) : fSym k n = .symI k n := by cases n <;> rfl
def fTxt : Nat → V
  | 0 => .symS 0
  | n + 1 => .symS (Nat.succ n)
theorem fTxt_eq (n : Nat) : fTxt n = .symS n := by cases n <;> rfl
def mkS (bs : Bs) (k : IntKind) (s : List Int) : Option V :=
  bif !ilt (llo s ((1, 1) :: bs)) (kLo k) && !ilt (kHi k) (lhi s ((1, 1) :: bs)) then
    match s with
    | [] => some (.int k 0)
    | [c] => some (mkInt k c)
    | s => bif okL s && Nat.ble s.length 40 then some (fSym k (encL s)) else none
  else none
def mkL (bs : Bs) (k : IntKind) (l : List Int) : Option V := mkS bs k (lstrip l)
def linOf : V → Option (IntKind × List Int)
  | .int k n => some (k, [n])
  | .symI k j => some (k, decL 40 j)
  | _ => none
end
section
variable {xs : List Int} {bs : Bs} {tab : List (Nat × Obj)}
theorem in1 (hb : inB bs xs) : inB ((1, 1) :: bs) (1 :: xs) := ⟨Int.le_refl _, Int.le_refl _, hb⟩
theorem lin_den {v : V} {k : IntKind} {l : List Int} (h : linOf v = some (k, l)) : @den (syL xs tab) v = .int k (lval l (1 :: xs)) := by
  cases v <;> simp only [linOf, Option.some.injEq, Prod.mk.injEq] at h <;> first | (cases h; done) | skip
  · obtain ⟨rfl, rfl⟩ := h
    simp [den, lval]
  · obtain ⟨rfl, rfl⟩ := h
    rfl
theorem mkS_ok (hb : inB bs xs) {k : IntKind} {s : List Int} {v : V} (h : mkS bs k s = some v) : @den (syL xs tab) v = .int k (lval s (1 :: xs)) ∧ kLo k ≤ lval s (1 :: xs) ∧ lval s (1 :: xs) ≤ kHi k := by
  letI : Sy := syL xs tab
  unfold mkS at h
  cases hq : (!ilt (llo s ((1, 1) :: bs)) (kLo k) && !ilt (kHi k) (lhi s ((1, 1) :: bs))) with
  | false => rw [hq] at h; cases h
  | true =>
    rw [hq] at h
    simp only [Bool.and_eq_true, Bool.not_eq_true', ilt_eq, decide_eq_false_iff_not, Int.not_lt] at hq
    obtain ⟨h1, h2⟩ := l_in s _ _ (in1 hb)
    refine ⟨?_, by omega, by omega⟩
    simp only [cond_true] at h
    split at h
    · cases h
      simp [den, lval_nil]
    · cases h
      rw [mkInt_eq]
      simp [den, lval]
    · rename_i s' h3 h4
      cases ho : (okL s && Nat.ble s.length 40) with
      | false => rw [ho] at h; cases h
      | true =>
        rw [ho] at h
        cases h
        simp only [Bool.and_eq_true, Nat.ble_eq] at ho
        rw [fSym_eq]
        show V.int k (nval xs (encL s)) = _
        rw [nval, dec_enc s 40 ho.2 ho.1]
theorem mkL_ok (hb : inB bs xs) {k : IntKind} {l : List Int} {v : V} (h : mkL bs k l = some v) : @den (syL xs tab) v = .int k (lval l (1 :: xs)) ∧ kLo k ≤ lval l (1 :: xs) ∧ lval l (1 :: xs) ≤ kHi k := by
  have h1 := mkS_ok (tab := tab) hb h
  rw [lval_strip] at h1
  exact h1
/-- reckoning -/
def ltB (bs : Bs) (d : List Int) : Option Bool :=
  bif ilt (lhi d ((1, 1) :: bs)) 0 then some true else bif !ilt (llo d ((1, 1) :: bs)) 0 then some false else none
def leB (bs : Bs) (d : List Int) : Option Bool :=
  bif !ilt 0 (lhi d ((1, 1) :: bs)) then some true else bif ilt 0 (llo d ((1, 1) :: bs)) then some false else none
def eqB (bs : Bs) (d : List Int) : Option Bool :=
  bif ilt (lhi d ((1, 1) :: bs)) 0 || ilt 0 (llo d ((1, 1) :: bs)) then some false else bif !ilt 0 (lhi d ((1, 1) :: bs)) && !ilt (llo d ((1, 1) :: bs)) 0 then some true else none
theorem ltB_ok (hb : inB bs xs) {d : List Int} {c : Bool} (h : ltB bs d = some c) : c = ilt (lval d (1 :: xs)) 0 := by
  letI : Sy := syNo
  obtain ⟨h1, h2⟩ := l_in d _ _ (in1 hb)
  unfold ltB at h
  simp only [ilt_eq] at h ⊢
  generalize llo d ((1, 1) :: bs) = a at *
  generalize lhi d ((1, 1) :: bs) = b at *
  generalize lval d (1 :: xs) = v at *
  by_cases q1 : b < 0
  · simp only [q1, decide_true, cond_true, Option.some.injEq] at h
    subst h; symm; rw [decide_eq_true_iff]; omega
  · by_cases q2 : a < 0
    · simp [q1, q2] at h
    · simp only [q1, q2, decide_false, cond_false, Bool.not_false, cond_true, Option.some.injEq] at h
      subst h; symm; rw [decide_eq_false_iff_not]; omega
theorem leB_ok (hb : inB bs xs) {d : List Int} {c : Bool} (h : leB bs d = some c) : c = !ilt 0 (lval d (1 :: xs)) := by
  letI : Sy := syNo
  obtain ⟨h1, h2⟩ := l_in d _ _ (in1 hb)
  unfold leB at h
  simp only [ilt_eq] at h ⊢
  generalize llo d ((1, 1) :: bs) = a at *
  generalize lhi d ((1, 1) :: bs) = b at *
  generalize lval d (1 :: xs) = v at *
  by_cases q1 : 0 < b
  · by_cases q2 : 0 < a
    · simp only [q1, q2, decide_true, Bool.not_true, cond_false, cond_true, Option.some.injEq] at h
      subst h; symm; rw [Bool.not_eq_false', decide_eq_true_iff]; omega
    · simp [q1, q2] at h
  · simp only [q1, decide_false, Bool.not_false, cond_true, Option.some.injEq] at h
    subst h; symm; rw [Bool.not_eq_true', decide_eq_false_iff_not]; omega
theorem eqB_ok (hb : inB bs xs) {d : List Int} {c : Bool} (h : eqB bs d = some c) : c = ieq (lval d (1 :: xs)) 0 := by
  letI : Sy := syNo
  obtain ⟨h1, h2⟩ := l_in d _ _ (in1 hb)
  unfold eqB at h
  simp only [ilt_eq] at h
  rw [Bool.eq_iff_iff, ieq_iff]
  generalize llo d ((1, 1) :: bs) = a at *
  generalize lhi d ((1, 1) :: bs) = b at *
  generalize lval d (1 :: xs) = v at *
  by_cases q1 : b < 0
  · simp only [q1, decide_true, Bool.true_or, cond_true, Option.some.injEq] at h
    subst h; simp; omega
  · by_cases q2 : 0 < a
    · simp only [q1, q2, decide_true, Bool.or_true, cond_true, Option.some.injEq] at h
      subst h; simp; omega
    · by_cases q3 : 0 < b
      · simp [q1, q2, q3] at h
      · by_cases q4 : a < 0
        · simp [q1, q2, q3, q4] at h
        · simp only [q1, q2, q3, q4, decide_false, Bool.or_false, cond_false, Bool.not_false, Bool.and_true, cond_true, Option.some.injEq] at h
          subst h; simp; omega
def lsub (a b : List Int) : List Int := ladd a (lscale (-1) b)
theorem lval_sub (a b xs : List Int) : lval (lsub a b) xs = lval a xs - lval b xs := by rw [lsub, lval_add, lval_scale]; omega
def ofB (c : Option Bool) : Option V := c.bind fun c => some (.bool c)
def nB (c : Option Bool) : Option Bool := c.bind fun c => some (!c)
/-- by a number: what is left lies below it -/
def divP (bs : Bs) (m : Int) (l : List Int) (p : List Int × List Int) : Option (List Int × List Int) :=
  bif ilt 0 m && !ilt (llo l ((1, 1) :: bs)) 0 && !ilt (llo p.2 ((1, 1) :: bs)) 0 && ilt (lhi p.2 ((1, 1) :: bs)) m then some p else none
def divB (bs : Bs) (m : Int) (l : List Int) : Option (List Int × List Int) :=
  match divP bs m l (lsplit m l) with
  | some p => some p
  | none => divP bs m l (lsplit0 m l)
theorem divP_ok (hb : inB bs xs) {m : Int} {l : List Int} {p p' : List Int × List Int} (h : divP bs m l p = some p') (e : m * lval p.1 (1 :: xs) + lval p.2 (1 :: xs) = lval l (1 :: xs)) : ieq m 0 = false ∧ (lval l (1 :: xs)).tdiv m = lval p'.1 (1 :: xs) ∧ (lval l (1 :: xs)).tmod m = lval p'.2 (1 :: xs) := by
  letI : Sy := syNo
  unfold divP at h
  cases hq : (ilt 0 m && !ilt (llo l ((1, 1) :: bs)) 0 && !ilt (llo p.2 ((1, 1) :: bs)) 0 && ilt (lhi p.2 ((1, 1) :: bs)) m) with
  | false => rw [hq] at h; cases h
  | true =>
    rw [hq] at h
    cases h
    simp only [Bool.and_eq_true, Bool.not_eq_true', ilt_eq, decide_eq_true_iff, decide_eq_false_iff_not, Int.not_lt] at hq
    obtain ⟨⟨⟨q1, q2⟩, q3⟩, q4⟩ := hq
    obtain ⟨h1, h2⟩ := l_in l _ _ (in1 hb)
    obtain ⟨h3, h4⟩ := l_in p.2 _ _ (in1 hb)
    generalize lval l (1 :: xs) = n at *
    generalize lval p.1 (1 :: xs) = q at *
    generalize lval p.2 (1 :: xs) = r at *
    refine ⟨?_, ?_, ?_⟩
    · rw [Bool.eq_false_iff, ne_eq, ieq_iff]; omega
    · rw [Int.tdiv_eq_ediv_of_nonneg (by omega), ← e, Int.mul_comm, Int.add_comm, Int.add_mul_ediv_right _ _ (by omega), Int.ediv_eq_zero_of_lt (by omega) (by omega)]
      omega
    · rw [Int.tmod_eq_emod_of_nonneg (by omega), ← e, Int.add_comm, Int.add_mul_emod_self_left, Int.emod_eq_of_lt (by omega) (by omega)]
theorem divB_ok (hb : inB bs xs) {m : Int} {l : List Int} {p : List Int × List Int} (h : divB bs m l = some p) : ieq m 0 = false ∧ (lval l (1 :: xs)).tdiv m = lval p.1 (1 :: xs) ∧ (lval l (1 :: xs)).tmod m = lval p.2 (1 :: xs) := by
  unfold divB at h
  split at h
  · rename_i p' h1
    cases h
    exact divP_ok hb h1 (lsplit_val m l _)
  · exact divP_ok hb h (lsplit0_val m l _)
def binL (bs : Bs) (op : BinOp) (k : IntKind) (a b : List Int) : Option V :=
  match op with
  | .add => mkL bs k (ladd a b)
  | .sub => mkL bs k (lsub a b)
  | .mul => match a, b with
    | [c], b => mkL bs k (lscale c b)
    | a, [c] => mkL bs k (lscale c a)
    | _, _ => none
  | .quo => match b with
    | [m] => (divB bs m a).bind fun p => mkL bs k p.1
    | _ => none
  | .rem => match b with
    | [m] => (divB bs m a).bind fun p => mkL bs k p.2
    | _ => none
  | .eql => ofB (eqB bs (lsub a b))
  | .neq => ofB (nB (eqB bs (lsub a b)))
  | .lss => ofB (ltB bs (lsub a b))
  | .leq => ofB (leB bs (lsub a b))
  | .gtr => ofB (nB (leB bs (lsub a b)))
  | .geq => ofB (nB (ltB bs (lsub a b)))
  | _ => none
theorem ofB_some {c : Option Bool} {v : V} (h : ofB c = some v) : ∃ b, c = some b ∧ v = .bool b := by
  cases c with
  | none => cases h
  | some b => cases h; exact ⟨b, rfl, rfl⟩
theorem nB_some {c : Option Bool} {v : Bool} (h : nB c = some v) : ∃ b, c = some b ∧ v = !b := by
  cases c with
  | none => cases h
  | some b => cases h; exact ⟨b, rfl, rfl⟩
theorem keq_self (k : IntKind) : keq k k = true := by cases k <;> rfl
theorem lone_val (c : Int) (xs : List Int) : lval [c] (1 :: xs) = c := by simp [lval]
theorem binL_ok (hb : inB bs xs) {op : BinOp} {k : IntKind} {a b : List Int} {v : V} (h : binL bs op k a b = some v) : vbin op (.int k (lval a (1 :: xs))) (.int k (lval b (1 :: xs))) = some (@den (syL xs tab) v) := by
  letI : Sy := syL xs tab
  have fin : ∀ {l : List Int} {n : Int}, mkL bs k l = some v → n = lval l (1 :: xs) → some (mkInt k (k.wrap n)) = some (den v) := fun {l n} h1 e => by
    obtain ⟨e1, e2, e3⟩ := mkL_ok (tab := tab) hb h1
    rw [mkInt_eq, e, wrap_k k _ e2 e3, e1]
  have sub0 : ∀ z : Int, lval (lsub a b) (1 :: xs) = lval a (1 :: xs) - lval b (1 :: xs) := fun _ => lval_sub _ _ _
  cases op <;> simp only [binL] at h <;> first | (cases h; done) | skip
  all_goals simp only [vbin, keq_self, cond_true]
  · exact fin h (lval_add _ _ _).symm
  · exact fin h (lval_sub _ _ _).symm
  · split at h
    · exact fin h (by rw [lval_scale, lone_val])
    · exact fin h (by rw [lval_scale, lone_val, Int.mul_comm])
    · cases h
  · split at h
    · rename_i m
      rw [Option.bind_eq_some_iff] at h
      obtain ⟨p, h1, h2⟩ := h
      obtain ⟨e1, e2, e3⟩ := divB_ok hb h1
      rw [lone_val, e1]
      exact fin h2 e2
    · cases h
  · split at h
    · rename_i m
      rw [Option.bind_eq_some_iff] at h
      obtain ⟨p, h1, h2⟩ := h
      obtain ⟨e1, e2, e3⟩ := divB_ok hb h1
      obtain ⟨e4, e5, e6⟩ := mkL_ok (tab := tab) hb h2
      rw [lone_val, e1]
      simp only [cond_false]
      rw [mkInt_eq, e3, e4]
    · cases h
  all_goals
    obtain ⟨c, h1, rfl⟩ := ofB_some h
    simp only [den, Option.some.injEq, V.bool.injEq]
  · rw [eqB_ok hb h1, lval_sub, Bool.eq_iff_iff, ieq_iff, ieq_iff]; omega
  · obtain ⟨c, h2, rfl⟩ := nB_some h1
    rw [eqB_ok hb h2, lval_sub]
    congr 1
    rw [Bool.eq_iff_iff, ieq_iff, ieq_iff]; omega
  · rw [ltB_ok hb h1, lval_sub, ilt_eq, ilt_eq, Bool.eq_iff_iff, decide_eq_true_iff, decide_eq_true_iff]; omega
  · rw [leB_ok hb h1, lval_sub, ilt_eq, ilt_eq]
    congr 1
    rw [Bool.eq_iff_iff, decide_eq_true_iff, decide_eq_true_iff]; omega
  · obtain ⟨c, h2, rfl⟩ := nB_some h1
    rw [leB_ok hb h2, lval_sub, ilt_eq, ilt_eq, Bool.not_not, Bool.eq_iff_iff, decide_eq_true_iff, decide_eq_true_iff]; omega
  · obtain ⟨c, h2, rfl⟩ := nB_some h1
    rw [ltB_ok hb h2, lval_sub, ilt_eq, ilt_eq]
    congr 1
    rw [Bool.eq_iff_iff, decide_eq_true_iff, decide_eq_true_iff]; omega
end
end Go.Proofs.YtehbfpcfbpbllaaGreatDoor.VM
