/- What stands for texts; all of E.so, and why it is so. No program in sight. -/
import Derived.Test.YtehbfpcfbpbllaaGreatDoorSyM
namespace Go.Proofs.YtehbfpcfbpbllaaGreatDoor.VM
open Go Go.RowKit
set_option linter.unusedVariables false
set_option linter.unusedSectionVars false
set_option linter.unusedSimpArgs false
def codeB (b : Nat) : Nat := b + 549755813888
def allB : List Nat → Bool
  | [] => true
  | b :: s => Nat.blt b 256 && allB s
def codesB : List Nat → List Nat
  | [] => []
  | b :: s => codeB b :: codesB s
def txtOf : V → Option (List Nat)
  | .str s => bif allB s then some (codesB s) else none
  | .symS j => some (decT 4096 j)
  | _ => none
def constOf (e : Nat) : Option Nat := bif Nat.ble 549755813888 e && Nat.blt e 1099511627776 then some (e - 549755813888) else none
def allC : List Nat → Option (List Nat)
  | [] => some []
  | e :: l => (constOf e).bind fun b => (allC l).bind fun s => some (b :: s)
def mkT (l : List Nat) : Option V :=
  match allC l with
  | some s => some (.str s)
  | none => bif okT l && Nat.ble l.length 4096 then some (fTxt (encT l)) else none
section
variable {xs : List Int} {bs : Bs} {tab : List (Nat × Obj)}
theorem const_val {e b : Nat} (h : constOf e = some b) : nval xs e = b := by
  letI : Sy := syNo
  unfold constOf at h
  cases hq : (Nat.ble 549755813888 e && Nat.blt e 1099511627776) with
  | false => rw [hq] at h; cases h
  | true =>
    rw [hq] at h
    have hb := Option.some.inj h
    clear h
    simp only [Bool.and_eq_true, Nat.ble_eq, Nat.blt_eq] at hq
    have e0 : Nat.beq e 0 = false := by rw [beq_d]; simp; omega
    have e1 : e % 1099511627776 = e := by omega
    have e2 : e / 1099511627776 = 0 := by omega
    unfold nval
    show lval (decL (39 + 1) e) (1 :: xs) = _
    rw [decL, e0, e1, e2]
    have e3 : decL 39 0 = [] := rfl
    simp only [cond_false, e3, lval, lval_nil]
    simp only [Int.ofNat_eq_natCast]
    omega
theorem codeB_const {b : Nat} (h : b < 256) : constOf (codeB b) = some b := by
  unfold constOf codeB
  have h1 : Nat.ble 549755813888 (b + 549755813888) = true := by rw [Nat.ble_eq]; omega
  have h2 : Nat.blt (b + 549755813888) 1099511627776 = true := by rw [Nat.blt_eq]; omega
  rw [h1, h2]
  simp only [Bool.and_self, cond_true]
  rw [Nat.add_sub_cancel]
theorem tval_cons (e : Nat) (l : List Nat) : tval xs (e :: l) = (nval xs e).toNat :: tval xs l := rfl
theorem tval_codes : ∀ (s : List Nat), allB s = true → tval xs (codesB s) = s
  | [], _ => rfl
  | b :: s, h => by
    simp only [allB, Bool.and_eq_true, Nat.blt_eq] at h
    rw [codesB, tval_cons, const_val (codeB_const h.1), tval_codes s h.2]
    rfl
theorem txt_den {v : V} {l : List Nat} (h : txtOf v = some l) : @den (syL xs tab) v = .str (tval xs l) := by
  cases v <;> simp only [txtOf] at h <;> first | (cases h; done) | skip
  · rename_i s
    cases hs : allB s with
    | false => rw [hs] at h; cases h
    | true =>
      rw [hs] at h
      cases h
      rw [tval_codes s hs]
      rfl
  · cases h
    rfl
theorem allC_val : ∀ {l s : List Nat}, allC l = some s → tval xs l = s
  | [], s, h => by cases h; rfl
  | e :: l, s, h => by
    simp only [allC, Option.bind_eq_some_iff, Option.some.injEq] at h
    obtain ⟨b, h1, r, h2, rfl⟩ := h
    rw [tval_cons, const_val h1, allC_val h2]
    rfl
theorem mkT_ok {l : List Nat} {v : V} (h : mkT l = some v) : @den (syL xs tab) v = .str (tval xs l) := by
  unfold mkT at h
  split at h
  · rename_i s hs
    cases h
    rw [allC_val hs]
    rfl
  · cases ho : (okT l && Nat.ble l.length 4096) with
    | false => rw [ho] at h; cases h
    | true =>
      rw [ho] at h
      cases h
      simp only [Bool.and_eq_true, Nat.ble_eq] at ho
      rw [fTxt_eq]
      show V.str (tval xs (decT 4096 (encT l))) = _
      rw [decT_enc l 4096 ho.2 ho.1]
def nonneg (bs : Bs) (e : Nat) : Bool := !ilt (llo (decL 40 e) ((1, 1) :: bs)) 0
def eqE (bs : Bs) (a b : Nat) : Option Bool :=
  bif Nat.beq a b then some true else
  match eqB bs (lsub (decL 40 a) (decL 40 b)) with
  | some true => some true
  | some false => bif nonneg bs a && nonneg bs b then some false else none
  | none => none
def eqT (bs : Bs) : List Nat → List Nat → Option Bool
  | [], [] => some true
  | a :: l, b :: r =>
    match eqE bs a b with
    | some true => eqT bs l r
    | some false => some false
    | none => match eqT bs l r with
      | some false => some false
      | _ => none
  | _, _ => some false
theorem nonneg_ok (hb : inB bs xs) {e : Nat} (h : nonneg bs e = true) : 0 ≤ nval xs e := by
  letI : Sy := syNo
  simp only [nonneg, Bool.not_eq_true', ilt_eq, decide_eq_false_iff_not, Int.not_lt] at h
  exact Int.le_trans h (l_in (decL 40 e) _ _ (in1 hb)).1
theorem eqE_ok (hb : inB bs xs) {a b : Nat} {c : Bool} (h : eqE bs a b = some c) : ((nval xs a).toNat = (nval xs b).toNat) ↔ c = true := by
  letI : Sy := syNo
  unfold eqE at h
  cases hq : Nat.beq a b with
  | true =>
    rw [hq] at h
    cases h
    rw [Nat.eq_of_beq_eq_true hq]
    simp
  | false =>
    rw [hq] at h
    simp only [cond_false] at h
    split at h
    · rename_i h1
      cases h
      have := eqB_ok hb h1
      rw [lval_sub] at this
      have h2 := (ieq_iff _ _).1 this.symm
      have : nval xs a = nval xs b := by unfold nval; omega
      rw [this]
      simp
    · rename_i h1
      cases hn : (nonneg bs a && nonneg bs b) with
      | false => rw [hn] at h; cases h
      | true =>
        rw [hn] at h
        cases h
        simp only [Bool.and_eq_true] at hn
        have e1 := nonneg_ok hb hn.1
        have e2 := nonneg_ok hb hn.2
        have h2 := eqB_ok hb h1
        rw [lval_sub] at h2
        have h3 : ¬ (nval xs a - nval xs b = 0) := fun e => by
          have := (ieq_iff _ _).2 e
          unfold nval at this
          rw [this] at h2
          cases h2
        constructor
        · intro e; omega
        · intro e; cases e
    · cases h
theorem eqT_ok (hb : inB bs xs) : ∀ {a b : List Nat} {c : Bool}, eqT bs a b = some c → (tval xs a = tval xs b ↔ c = true)
  | [], [], c, h => by cases h; simp
  | [], _ :: _, c, h => by cases h; simp [tval]
  | _ :: _, [], c, h => by cases h; simp [tval]
  | a :: l, b :: r, c, h => by
    rw [eqT] at h
    rw [tval_cons, tval_cons, List.cons.injEq]
    split at h
    · rename_i h1
      rw [eqE_ok hb h1, eqT_ok hb h]
      simp
    · rename_i h1
      cases h
      rw [eqE_ok hb h1]
      simp
    · split at h
      · rename_i h2
        cases h
        rw [eqT_ok hb h2]
        simp
      · cases h
def binT (bs : Bs) (op : BinOp) (a b : List Nat) : Option V :=
  match op with
  | .add => bif Nat.ble (a.length + b.length) 4096 then mkT (a ++ b) else none
  | .eql => ofB (eqT bs a b)
  | .neq => ofB (nB (eqT bs a b))
  | _ => none
theorem binT_ok (hb : inB bs xs) {op : BinOp} {a b : List Nat} {v : V} (h : binT bs op a b = some v) : vbin op (.str (tval xs a)) (.str (tval xs b)) = some (@den (syL xs tab) v) := by
  letI : Sy := syL xs tab
  have hlen : ∀ l : List Nat, (tval xs l).length = l.length := fun l => by simp [tval]
  cases op <;> simp only [binT] at h <;> first | (cases h; done) | skip
  · cases hq : Nat.ble (a.length + b.length) 4096 with
    | false => rw [hq] at h; cases h
    | true =>
      rw [hq] at h
      rw [Nat.ble_eq] at hq
      have h1 : Nat.ble ((tval xs a).length + (tval xs b).length) 1048576 = true := by rw [Nat.ble_eq, hlen, hlen]; omega
      simp only [vbin, h1, cond_true]
      rw [mkT_ok (tab := tab) h]
      simp [tval]
  · obtain ⟨c, h1, rfl⟩ := ofB_some h
    simp only [vbin, den, Option.some.injEq, V.bool.injEq, seq_eq]
    rw [Bool.eq_iff_iff, beq_iff_eq, eqT_ok hb h1]
  · obtain ⟨c, h1, rfl⟩ := ofB_some h
    obtain ⟨c, h2, rfl⟩ := nB_some h1
    simp only [vbin, den, Option.some.injEq, V.bool.injEq, seq_eq]
    congr 1
    rw [Bool.eq_iff_iff, beq_iff_eq, eqT_ok hb h2]
def codeV (bs : Bs) : V → Option Nat
  | .int .u8 (.ofNat n) => bif Nat.blt n 256 then some (codeB n) else none
  | .symI .u8 q => bif !ilt (llo (decL 40 q) ((1, 1) :: bs)) 0 && !ilt 255 (lhi (decL 40 q) ((1, 1) :: bs)) then some q else none
  | _ => none
def codesV (bs : Bs) : List V → Option (List Nat)
  | [] => some []
  | v :: l => (codeV bs v).bind fun e => (codesV bs l).bind fun r => some (e :: r)
def bytesL (bs : Bs) : List Nat → Option (List V)
  | [] => some []
  | e :: l => (mkL bs .u8 (decL 40 e)).bind fun v => (bytesL bs l).bind fun r => some (v :: r)
theorem codeV_ok (hb : inB bs xs) {v : V} {e : Nat} (h : codeV bs v = some e) : ∃ n, @den (syL xs tab) v = .int .u8 (.ofNat n) ∧ n < 256 ∧ (nval xs e).toNat = n := by
  letI : Sy := syL xs tab
  unfold codeV at h
  split at h
  · rename_i n
    cases hq : Nat.blt n 256 with
    | false => rw [hq] at h; cases h
    | true =>
      rw [hq] at h
      cases h
      rw [Nat.blt_eq] at hq
      refine ⟨n, rfl, hq, ?_⟩
      rw [const_val (codeB_const hq)]
      rfl
  · rename_i q
    cases hq : (!ilt (llo (decL 40 q) ((1, 1) :: bs)) 0 && !ilt 255 (lhi (decL 40 q) ((1, 1) :: bs))) with
    | false => rw [hq] at h; cases h
    | true =>
      rw [hq] at h
      cases h
      simp only [Bool.and_eq_true, Bool.not_eq_true', ilt_eq, decide_eq_false_iff_not, Int.not_lt] at hq
      obtain ⟨h1, h2⟩ := l_in (decL 40 e) _ _ (in1 hb)
      have h3 : 0 ≤ nval xs e := by unfold nval; omega
      have h4 : nval xs e ≤ 255 := by unfold nval; omega
      refine ⟨(nval xs e).toNat, ?_, by omega, rfl⟩
      show V.int .u8 (nval xs e) = _
      congr 1
      simp only [Int.ofNat_eq_natCast]
      omega
  · cases h
theorem codesV_ok (hb : inB bs xs) : ∀ {l : List V} {r : List Nat}, codesV bs l = some r → strV (l.map (@den (syL xs tab))) = some (tval xs r)
  | [], r, h => by cases h; rfl
  | v :: l, r, h => by
    simp only [codesV, Option.bind_eq_some_iff, Option.some.injEq] at h
    obtain ⟨e, h1, r', h2, rfl⟩ := h
    obtain ⟨n, e1, e2, e3⟩ := codeV_ok (tab := tab) hb h1
    rw [List.map_cons, e1, tval_cons, e3, strV]
    have : Nat.blt n 256 = true := by rw [Nat.blt_eq]; exact e2
    rw [this, codesV_ok hb h2]
    rfl
theorem byte_ok (hb : inB bs xs) {e : Nat} {v : V} (h : mkL bs .u8 (decL 40 e) = some v) : @den (syL xs tab) v = .int .u8 (.ofNat (nval xs e).toNat) := by
  obtain ⟨h1, h2, h3⟩ := mkL_ok (tab := tab) hb h
  rw [h1]
  simp only [kLo] at h2
  congr 1
  unfold nval
  simp only [Int.ofNat_eq_natCast]
  omega
theorem bytesL_ok (hb : inB bs xs) : ∀ {l : List Nat} {r : List V}, bytesL bs l = some r → r.map (@den (syL xs tab)) = bytesV (tval xs l)
  | [], r, h => by cases h; rfl
  | e :: l, r, h => by
    simp only [bytesL, Option.bind_eq_some_iff, Option.some.injEq] at h
    obtain ⟨v, h1, r', h2, rfl⟩ := h
    rw [List.map_cons, byte_ok (tab := tab) hb h1, bytesL_ok hb h2]
    rfl
def two (k j : IntKind) (o : Option V) : Option V := bif keq k j then o else none
def soBin (bs : Bs) (op : BinOp) (a b : V) : Option V :=
  match linOf a, linOf b with
  | some (k, l), some (j, r) => two k j (binL bs op k l r)
  | _, _ => match txtOf a, txtOf b with
    | some l, some r => binT bs op l r
    | _, _ => none
def soMin (bs : Bs) (lt : Bool) (a b : V) : Option V :=
  match linOf a, linOf b with
  | some (k, l), some (j, r) => two k j (match ltB bs (bif lt then lsub r l else lsub l r) with
    | some true => mkL bs k r
    | some false => mkL bs k l
    | none => none)
  | _, _ => none
def soChar (bs : Bs) (q : Nat) : Option V :=
  bif !ilt (llo (decL 40 q) ((1, 1) :: bs)) 0 && ilt (lhi (decL 40 q) ((1, 1) :: bs)) 128 then mkT [q] else none
def soL (bs : Bs) (o : SOp) (al : List V) : Option V :=
  match o with
  | .bin op => match al with
    | [a, b] => soBin bs op a b
    | _ => none
  | .conv k => match al with
    | [.symI j q] => mkL bs k (decL 40 q)
    | _ => none
  | .idx => match al with
    | [.symS j, .int .i64 (.ofNat n)] => ((decT 4096 j)[n]?).bind fun e => mkL bs .u8 (decL 40 e)
    | _ => none
  | .len => match al with
    | [.symS j] => some (.int .i64 (.ofNat (decT 4096 j).length))
    | _ => none
  | .cut => match al with
    | [.symS j, .int .i64 (.ofNat l), .int .i64 (.ofNat h)] => mkT (((decT 4096 j).take h).drop l)
    | _ => none
  | .bytes => match al with
    | [.symS j] => (bytesL bs (decT 4096 j)).bind fun l => some (.tup l)
    | _ => none
  | .text => (codesV bs al).bind mkT
  | .char => match al with
    | [.symI k q] => soChar bs q
    | _ => none
  | .min lt => match al with
    | [a, b] => soMin bs lt a b
    | _ => none
  | .glob .. => none
theorem two_some {k j : IntKind} {o : Option V} {v : V} (h : two k j o = some v) : k = j ∧ o = some v := by
  unfold two at h
  cases hq : keq k j with
  | false => rw [hq] at h; cases h
  | true => rw [hq] at h; exact ⟨(by letI : Sy := syNo; exact keq_eq hq), h⟩
theorem sopL (hb : inB bs xs) {E : Env} (hE : E.so = soL bs) : @SopOK (syL xs tab) E := by
  letI : Sy := syL xs tab
  refine ⟨fun op a b v h => ?_, fun k a v h => ?_, fun a l n v h => ?_, fun a v h => ?_, fun a l h' v h => ?_, fun a l h => ?_, fun l v h => ?_, fun k j v h => ?_, fun lt l v h => ?_⟩ <;> rw [hE] at h <;> simp only [soL] at h
  · unfold soBin at h
    split at h
    · rename_i k l j r e1 e2
      have hh := two_some h
      clear h
      obtain ⟨rfl, h⟩ := hh
      rw [lin_den (tab := tab) e1, lin_den (tab := tab) e2]
      exact binL_ok hb h
    · split at h
      · rename_i l r e1 e2
        rw [txt_den (tab := tab) e1, txt_den (tab := tab) e2]
        exact binT_ok hb h
      · cases h
  · split at h
    · rename_i j q heq
      cases heq
      obtain ⟨h1, h2, h3⟩ := mkL_ok (tab := tab) hb h
      refine ⟨j, nval xs q, rfl, ?_⟩
      rw [h1]
      unfold nval
      rw [wrap_k k _ h2 h3]
    · cases h
  · split at h
    · rename_i j n' heq
      cases heq
      rw [Option.bind_eq_some_iff] at h
      obtain ⟨e, h1, h2⟩ := h
      refine ⟨_, rfl, (nval xs e).toNat, ?_, byte_ok (tab := tab) hb h2⟩
      show (tval xs (decT 4096 j))[n]? = _
      rw [tval, List.getElem?_map, h1]
      rfl
    · cases h
  · split at h
    · rename_i j heq
      cases heq
      cases h
      refine ⟨_, rfl, ?_⟩
      show _ = V.int .i64 (.ofNat (tval xs (decT 4096 j)).length)
      simp [tval]
    · cases h
  · split at h
    · rename_i j l1 h1 heq
      cases heq
      refine ⟨_, rfl, ?_⟩
      rw [mkT_ok (tab := tab) h]
      show _ = V.str (((tval xs (decT 4096 j)).take _).drop _)
      simp [tval, List.map_take, List.map_drop]
    · cases h
  · split at h
    · rename_i j heq
      cases heq
      rw [Option.bind_eq_some_iff] at h
      obtain ⟨r, h1, h2⟩ := h
      cases h2
      exact ⟨_, rfl, bytesL_ok hb h1⟩
    · cases h
  · rw [Option.bind_eq_some_iff] at h
    obtain ⟨r, h1, h2⟩ := h
    exact ⟨_, codesV_ok hb h1, mkT_ok (tab := tab) h2⟩
  · unfold soChar at h
    cases hq : (!ilt (llo (decL 40 j) ((1, 1) :: bs)) 0 && ilt (lhi (decL 40 j) ((1, 1) :: bs)) 128) with
    | false => rw [hq] at h; cases h
    | true =>
      rw [hq] at h
      simp only [Bool.and_eq_true, Bool.not_eq_true', ilt_eq, decide_eq_false_iff_not, decide_eq_true_iff, Int.not_lt] at hq
      obtain ⟨h1, h2⟩ := l_in (decL 40 j) _ _ (in1 hb)
      have h3 : 0 ≤ nval xs j := by unfold nval; omega
      have h4 : nval xs j < 128 := by unfold nval; omega
      refine ⟨(nval xs j).toNat, by omega, ?_, mkT_ok (tab := tab) h⟩
      show nval xs j = _
      simp only [Int.ofNat_eq_natCast]
      omega
  · split at h
    · rename_i a b
      unfold soMin at h
      split at h
      · rename_i k l j r e1 e2
        have hh := two_some h
        clear h
        obtain ⟨rfl, h⟩ := hh
        simp only [List.map_cons, List.map_nil]
        rw [lin_den (tab := tab) e1, lin_den (tab := tab) e2]
        simp only [vmin, vminF, keq_self, cond_true]
        split at h
        · rename_i h1
          have h2 := ltB_ok hb h1
          obtain ⟨h3, _, _⟩ := mkL_ok (tab := tab) hb h
          rw [h3, mkInt_eq]
          cases lt <;> simp only [cond_true, cond_false] at h2 ⊢ <;> rw [lval_sub, ilt_eq] at h2 <;> have h4 := of_decide_eq_true h2.symm
          · rw [ilt_eq, decide_eq_true (by omega)]; rfl
          · rw [ilt_eq, decide_eq_true (by omega)]; rfl
        · rename_i h1
          have h2 := ltB_ok hb h1
          obtain ⟨h3, _, _⟩ := mkL_ok (tab := tab) hb h
          rw [h3, mkInt_eq]
          cases lt <;> simp only [cond_true, cond_false] at h2 ⊢ <;> rw [lval_sub, ilt_eq] at h2 <;> have h4 := of_decide_eq_false h2.symm
          · rw [ilt_eq, decide_eq_false (by omega)]; rfl
          · rw [ilt_eq, decide_eq_false (by omega)]; rfl
        · cases h
      · cases h
    · cases h
end
/-- beside it: globals that hold something, whatever it be -/
def memG : List (Nat × TypeId) → Nat → TypeId → Bool
  | [], _, _ => false
  | p :: r, g, t => Nat.beq p.1 g && Nat.beq p.2 t || memG r g t
def soX (gl : List (Nat × TypeId)) (bs : Bs) (o : SOp) (al : List V) : Option V :=
  match o with
  | .glob g off t => bif Nat.beq off 0 && memG gl g t then some .any else none
  | o => soL bs o al
theorem memG_in : ∀ {gl : List (Nat × TypeId)} {g : Nat} {t : TypeId}, memG gl g t = true → (g, t) ∈ gl
  | [], _, _, h => by cases h
  | p :: r, g, t, h => by
    simp only [memG, Bool.or_eq_true, Bool.and_eq_true, Nat.beq_eq] at h
    rcases h with ⟨h1, h2⟩ | h
    · obtain ⟨a, b⟩ := p
      subst h1; subst h2
      exact List.mem_cons_self ..
    · exact List.mem_cons_of_mem _ (memG_in h)
section
variable {xs : List Int} {bs : Bs} {tab : List (Nat × Obj)} {gl : List (Nat × TypeId)}
theorem sopX (hb : inB bs xs) {E : Env} (hE : E.so = soX gl bs) : @SopOK (syL xs tab) E := by
  letI : Sy := syL xs tab
  have S := @sopL xs bs tab hb { E with so := soL bs } rfl
  exact ⟨fun op a b v h => S.bin op a b v (by rw [hE] at h; exact h), fun k a v h => S.conv k a v (by rw [hE] at h; exact h), fun a l n v h => S.idx a l n v (by rw [hE] at h; exact h),
    fun a v h => S.len a v (by rw [hE] at h; exact h), fun a l h' v h => S.cut a l h' v (by rw [hE] at h; exact h), fun a l h => S.bytes a l (by rw [hE] at h; exact h), fun l v h => S.text l v (by rw [hE] at h; exact h),
    fun k j v h => S.char k j v (by rw [hE] at h; exact h), fun lt l v h => S.min lt l v (by rw [hE] at h; exact h)⟩
/-- globals that stand -/
def GlobOK (P : Program) (tab : List (Nat × Obj)) (gl : List (Nat × TypeId)) : Prop :=
  ∀ p ∈ gl, ∀ w : World, (∀ q ∈ tab, w.heap[q.1]? = some q.2) → ∃ x, (loadVar p.2 ⟨p.1, 0, none⟩).run P w = .ok x w ∧ x.oneCell' = true
theorem globX {P : Program} (hg : GlobOK P tab gl) (g off : Nat) (t : TypeId) (v : V) (h : soX gl bs (.glob g off t) [] = some v) (w : World) (hw : ∀ p ∈ (syL xs tab).tab, w.heap[p.1]? = some p.2) :
    letI := syL xs tab; ∃ x, (loadVar t ⟨g, off, none⟩).run P w = .ok x w ∧ ∀ σ, Rep σ v x := by
  letI : Sy := syL xs tab
  simp only [soX] at h
  cases hq : (Nat.beq off 0 && memG gl g t) with
  | false => rw [hq] at h; cases h
  | true =>
    rw [hq] at h
    cases h
    simp only [Bool.and_eq_true, Nat.beq_eq] at hq
    obtain ⟨rfl, h2⟩ := hq
    obtain ⟨x, h3, h4⟩ := hg _ (memG_in h2) w hw
    exact ⟨x, h3, fun σ => .any x h4⟩
end
end Go.Proofs.YtehbfpcfbpbllaaGreatDoor.VM
