/- The machine of plain data: operations that read no memory. No program in sight. -/
import Derived.Test.YtehbfpcfbpbllaaGreatDoorVmB
import Derived.IntWalk
import Derived.Laws.Strings
import Derived.Laws.StructEq
namespace Go.Proofs.YtehbfpcfbpbllaaGreatDoor.VM
open Go Go.RowKit
set_option linter.unusedSectionVars false
variable [Sy]
theorem mkInt_eq (k : IntKind) (n : Int) : mkInt k n = .int k n := by
  unfold mkInt
  split <;> rfl
theorem blt_d (a b : Nat) : Nat.blt a b = decide (a < b) := by
  rw [Bool.eq_iff_iff, decide_eq_true_iff]
  simp only [Nat.blt]
  exact ⟨fun h => Nat.le_of_ble_eq_true h, fun h => Nat.ble_eq_true_of_le h⟩
theorem beq_d (a b : Nat) : Nat.beq a b = decide (a = b) := by
  rw [Bool.eq_iff_iff, decide_eq_true_iff]
  exact ⟨Nat.eq_of_beq_eq_true, fun h => by subst h; exact Nat.beq_refl a⟩
theorem ble_d (a b : Nat) : Nat.ble a b = decide (a ≤ b) := by
  rw [Bool.eq_iff_iff, decide_eq_true_iff]
  exact ⟨Nat.le_of_ble_eq_true, Nat.ble_eq_true_of_le⟩
theorem ilt_eq (a b : Int) : ilt a b = decide (a < b) := by
  rw [Bool.eq_iff_iff, decide_eq_true_iff]
  cases a with
  | ofNat a => cases b with
    | ofNat b => simp only [ilt, blt_d, decide_eq_true_iff]; show _ ↔ (a : Int) < (b : Int); omega
    | negSucc b => simp only [ilt, Bool.false_eq_true, false_iff, Int.negSucc_eq]; show ¬ (a : Int) < _; omega
  | negSucc a => cases b with
    | ofNat b => simp only [ilt, true_iff, Int.negSucc_eq]; show _ < (b : Int); omega
    | negSucc b => simp only [ilt, blt_d, decide_eq_true_iff, Int.negSucc_eq]; omega
theorem ieq_iff (a b : Int) : ieq a b = true ↔ a = b := by
  cases a with
  | ofNat a => cases b with
    | ofNat b => simp only [ieq, beq_d, decide_eq_true_iff, Int.ofNat.injEq]
    | negSucc b => simp [ieq]
  | negSucc a => cases b with
    | ofNat b => simp [ieq]
    | negSucc b => simp only [ieq, beq_d, decide_eq_true_iff, Int.negSucc.injEq]
theorem ieq_eq (a b : Int) : ieq a b = (a == b) := by
  rw [Bool.eq_iff_iff, ieq_iff, beq_iff_eq]
theorem keq_eq {j k : IntKind} (h : keq j k = true) : j = k := by cases j <;> cases k <;> first | rfl | cases h
theorem seq_eq : ∀ (a b : List Nat), seq a b = (a == b)
  | [], [] => rfl
  | [], _ :: _ => rfl
  | _ :: _, [] => rfl
  | a :: x, b :: y => by
    rw [seq, seq_eq x y]
    have e : ((a :: x) == (b :: y)) = ((a == b) && (x == y)) := rfl
    rw [e, beq_d]
    by_cases h : a = b <;> simp [h]
theorem toUInt8_inj {a b : Nat} (ha : a < 256) (hb : b < 256) (h : a.toUInt8 = b.toUInt8) : a = b := by
  rw [← toUInt8_toNat ha, ← toUInt8_toNat hb, h]
theorem map_inj : ∀ {a b : List Nat}, (∀ x ∈ a, x < 256) → (∀ x ∈ b, x < 256) → a.map Nat.toUInt8 = b.map Nat.toUInt8 → a = b
  | [], [], _, _, _ => rfl
  | [], _ :: _, _, _, h => by simp at h
  | _ :: _, [], _, _, h => by simp at h
  | a :: x, b :: y, ha, hb, h => by
    simp only [List.map_cons, List.cons.injEq] at h
    rw [toUInt8_inj (ha a (by simp)) (hb b (by simp)) h.1, map_inj (fun z hz => ha z (by simp [hz])) (fun z hz => hb z (by simp [hz])) h.2]
theorem bytesOf_inj {a b : List Nat} (ha : ∀ x ∈ a, x < 256) (hb : ∀ x ∈ b, x < 256) : (bytesOf a = bytesOf b) = (a = b) := by
  refine propext ⟨fun h => ?_, fun h => by rw [h]⟩
  have : (a.map Nat.toUInt8).toArray = (b.map Nat.toUInt8).toArray := by injection h
  exact map_inj ha hb (by simpa using this)
theorem bytesOf_toList (a : List Nat) : (bytesOf a).toList = a.map Nat.toUInt8 := by
  exact ByteArray.toList_mk _
theorem bytesOf_size (a : List Nat) : (bytesOf a).size = a.length := by simp [bytesOf, ByteArray.size]
theorem slt_eq : ∀ (a b : List Nat), (∀ x ∈ a, x < 256) → (∀ x ∈ b, x < 256) → slt a b = Op.bytesLess (a.map Nat.toUInt8) (b.map Nat.toUInt8)
  | a, [], _, _ => by cases a <;> rfl
  | [], _ :: _, _, _ => rfl
  | a :: x, b :: y, ha, hb => by
    have h1 := ha a (by simp)
    have h2 := hb b (by simp)
    rw [slt, slt_eq x y (fun z hz => ha z (by simp [hz])) (fun z hz => hb z (by simp [hz]))]
    simp only [List.map_cons, Op.bytesLess, blt_d, beq_d]
    have e1 : decide (a.toUInt8 < b.toUInt8) = decide (a < b) := by
      congr 1; rw [UInt8.lt_iff_toNat_lt, toUInt8_toNat h1, toUInt8_toNat h2]
    have e2 : (a.toUInt8 == b.toUInt8) = decide (a = b) := by
      have : (a.toUInt8 == b.toUInt8) = decide (a.toUInt8 = b.toUInt8) := rfl
      rw [this]; congr 1
      exact propext ⟨toUInt8_inj h1 h2, fun h => by rw [h]⟩
    rw [e1, e2]
    by_cases h : a < b <;> by_cases h' : a = b <;> simp [h, h']
section
variable {P : Program} {E : Env} {σ : Mp} {w : World}
theorem stringOp_sound {op : BinOp} {a b : List Nat} {v : V} (ha : ∀ x ∈ a, x < 256) (hb : ∀ x ∈ b, x < 256) (h : vbin op (.str a) (.str b) = some v) :
    ∃ x, (Op.stringOp op (bytesOf a) (bytesOf b)).run P w = .ok x w ∧ Rep σ v x := by
  have hl : (((bytesOf a).size + (bytesOf b).size : Nat) : Int) = ((a.length + b.length : Nat) : Int) := by rw [bytesOf_size, bytesOf_size]
  have e1 : ((bytesOf a).toList == (bytesOf b).toList) = seq a b := by
    rw [seq_eq, bytesOf_toList, bytesOf_toList]
    have : ∀ {α : Type} [DecidableEq α] (x y : List α), (x == y) = decide (x = y) := fun x y => by
      rw [Bool.eq_iff_iff]; simp
    rw [this, this]; congr 1
    exact propext ⟨map_inj ha hb, fun h => by rw [h]⟩
  have e2 : Op.bytesLess (bytesOf a).toList (bytesOf b).toList = slt a b := by rw [slt_eq a b ha hb, bytesOf_toList, bytesOf_toList]
  have e3 : ∀ x y : List Nat, (∀ z ∈ x, z < 256) → (∀ z ∈ y, z < 256) → (slt x y || seq x y) = !slt y x := by
    intro x
    induction x with
    | nil => intro y _ _; cases y <;> simp [slt, seq]
    | cons p x ih =>
      intro y hx hy
      cases y with
      | nil => simp [slt, seq]
      | cons q y =>
        have := ih y (fun z hz => hx z (by simp [hz])) (fun z hz => hy z (by simp [hz]))
        simp only [slt, seq, blt_d, beq_d]
        by_cases h1 : p < q
        · have h2 : ¬ q < p := by omega
          have h3 : ¬ q = p := by omega
          simp [h1, h2, h3]
        · by_cases h4 : p = q
          · subst h4; simp [this]
          · have h2 : q < p := by omega
            simp [h1, h4, h2]
  have e4 := e3 a b ha hb
  cases op <;> simp only [vbin, Option.some.injEq] at h <;> try (cases h; done)
  case add =>
    cases hb2 : Nat.ble (a.length + b.length) 1048576 with
    | false => simp only [hb2, cond_false] at h; cases h
    | true =>
      simp only [hb2, cond_true, Option.some.injEq] at h
      subst h
      have := Nat.le_of_ble_eq_true hb2
      have hm : IntKind.i64.max = 9223372036854775807 := by decide
      have hn : ¬ (((bytesOf a).size + (bytesOf b).size : Nat) : Int) > IntKind.i64.max := by rw [hl, hm]; omega
      refine ⟨.string (bytesOf (a ++ b)), ?_, .str _ (fun z hz => (List.mem_append.1 hz).elim (ha z) (hb z))⟩
      simp only [Op.stringOp, if_neg hn, Sem.run_pure]
      congr 2
      simp [bytesOf, ByteArray.ext_iff]
  all_goals subst h
  all_goals (refine ⟨_, (by simp only [Op.stringOp, e1, e2, Sem.run_pure]; rfl), ?_⟩; first | exact .bool _ | (rw [e4]; exact .bool _) | (simp only [e4, Bool.not_not]; exact .bool _))

theorem natOf_some {n : Int} {m : Nat} (h : natOf n = some m) : n = (m : Int) := by
  cases n with
  | ofNat k => simp only [natOf, Option.some.injEq] at h; subst h; rfl
  | negSucc k => cases h
theorem bitop_rep (k : IntKind) (f : BitVec k.bits → BitVec k.bits → BitVec k.bits) (a b : Int) : Rep σ (bitop k f a b) (.int k (k.wrap ((f (BitVec.ofInt k.bits a) (BitVec.ofInt k.bits b)).toNat : Nat))) := by
  rw [bitop, mkInt_eq]; exact .int _ _
theorem intOp_sound {op : BinOp} {k j : IntKind} {a b : Int} {t : TypeId} {v : V} (h : vbin op (.int k a) (.int j b) = some v) :
    ∃ x, (binOp op t (.int k a) (.int j b)).run P w = .ok x w ∧ Rep σ v x := by
  have key : ∀ n : Int, Rep σ (mkInt k n) (.int k n) := fun n => by rw [mkInt_eq]; exact .int _ _
  by_cases hs : op = .shl ∨ op = .shr
  · have h2 : ∀ (g : Nat → V), (bif ilt b 0 then none else (natOf b).bind fun n => some (g n)) = some v → ∃ n : Nat, b = (n : Int) ∧ v = g n := fun g hg => by
      cases hc : ilt b 0 with
      | true => rw [hc] at hg; cases hg
      | false =>
        simp only [hc, cond_false, Option.bind_eq_some_iff, Option.some.injEq] at hg
        obtain ⟨n, hn, rfl⟩ := hg
        exact ⟨n, natOf_some hn, rfl⟩
    rcases hs with rfl | rfl
    · obtain ⟨n, rfl, rfl⟩ := h2 (fun n => mkInt k (k.wrap (a * 2 ^ (min n k.bits)))) h
      refine ⟨.int k (k.wrap (a * 2 ^ (min n k.bits))), ?_, key _⟩
      have hn : ¬ (n : Int) < 0 := by omega
      simp [binOp, Op.shift, hn]
    · obtain ⟨n, rfl, rfl⟩ := h2 (fun n => mkInt k (a.fdiv (2 ^ (min n k.bits)))) h
      refine ⟨.int k (a.fdiv (2 ^ (min n k.bits))), ?_, key _⟩
      have hn : ¬ (n : Int) < 0 := by omega
      simp [binOp, Op.shift, hn]
  · have hk : keq k j = true := by
      cases hk : keq k j with
      | true => rfl
      | false =>
        cases op <;> simp only [vbin, hk, cond_false] at h <;> first | cases h | exact absurd (.inl rfl) hs | exact absurd (.inr rfl) hs
    obtain rfl := keq_eq hk
    have e1 : ∀ x y : Int, (x == y) = ieq x y := fun x y => (ieq_eq x y).symm
    have e2 : ∀ x y : Int, decide (x < y) = ilt x y := fun x y => (ilt_eq x y).symm
    have e3 : ∀ x y : Int, decide (x ≤ y) = !ilt y x := fun x y => by rw [ilt_eq, Bool.eq_iff_iff]; simp
    have hz : ∀ {g : V}, (bif ieq b 0 then none else some g) = some v → b ≠ 0 ∧ v = g := fun {g} hg => by
      cases hc : ieq b 0 with
      | true => rw [hc] at hg; cases hg
      | false =>
        rw [hc] at hg
        simp only [cond_false, Option.some.injEq] at hg
        exact ⟨fun e => (by have := (ieq_iff b 0).2 e; rw [hc] at this; cases this), hg.symm⟩
    cases op <;> simp only [vbin, hk, cond_true] at h
    case shl => exact absurd (.inl rfl) hs
    case shr => exact absurd (.inr rfl) hs
    case quo =>
      obtain ⟨hb, rfl⟩ := hz h
      exact ⟨_, (by simp [binOp, Op.intDiv, hb]), key _⟩
    case rem =>
      obtain ⟨hb, rfl⟩ := hz h
      exact ⟨_, (by simp [binOp, Op.intDiv, hb]), key _⟩
    all_goals
      simp only [Option.some.injEq] at h
      subst h
    case add => exact ⟨_, (by simp [binOp, Op.intArith]), key _⟩
    case sub => exact ⟨_, (by simp [binOp, Op.intArith]), key _⟩
    case mul => exact ⟨_, (by simp [binOp, Op.intArith]), key _⟩
    case and => exact ⟨_, (by simp only [binOp, ne_eq, not_true, if_false, Op.intBits, Sem.run_pure]), bitop_rep _ _ _ _⟩
    case or => exact ⟨_, (by simp only [binOp, ne_eq, not_true, if_false, Op.intBits, Sem.run_pure]), bitop_rep _ _ _ _⟩
    case xor => exact ⟨_, (by simp only [binOp, ne_eq, not_true, if_false, Op.intBits, Sem.run_pure]), bitop_rep _ _ _ _⟩
    case andNot => exact ⟨_, (by simp only [binOp, ne_eq, not_true, if_false, Op.intBits, Sem.run_pure]), bitop_rep _ _ _ _⟩
    all_goals (refine ⟨_, (by simp only [binOp, ne_eq, not_true, if_false, Op.intCmp, Sem.run_pure]; rfl), ?_⟩)
    case eql => rw [e1]; exact .bool _
    case neq => show Rep σ _ (.bool (!(a == b))); rw [e1]; exact .bool _
    case lss => rw [e2]; exact .bool _
    case leq => rw [e3]; exact .bool _
    case gtr => show Rep σ _ (.bool (decide (b < a))); rw [e2]; exact .bool _
    case geq => show Rep σ _ (.bool (decide (b ≤ a))); rw [e3]; exact .bool _
theorem unOp_sound {op : UnOp} {x : V} {a : Value} {v : V} (h : vun op x = some v) (hx : Rep σ x a) : ∃ r, (Op.unary op a).run P w = .ok r w ∧ Rep σ v r := by
  cases hx <;> cases op <;> simp only [vun] at h <;> (try (cases h; done)) <;> (simp only [Option.some.injEq] at h; subst h)
  · exact ⟨_, (by simp only [Op.unary, Sem.run_pure]), .bool _⟩
  · exact ⟨_, (by simp only [Op.unary, Op.intArith, Sem.run_pure]; rfl), (by rw [mkInt_eq]; exact .int _ _)⟩
  · exact ⟨_, (by simp only [Op.unary, Op.intBits, Sem.run_pure]), bitop_rep _ _ _ _⟩

/-- plain cells, one after the other -/
theorem ceq_sound {k : K} {d : TypeDesc} {a b : V} {x y : Value} {c : Bool} {t : TypeId} {n : Nat} (hd : P.underlying t = some d) (hk : plainK d = some k) (h : ceq k a b = some c) (ha : Rep σ a x) (hb : Rep σ b y) :
    (Op.equalIn (n + 1) t x y).run P w = .ok c w := by
  cases d <;> simp only [plainK, Option.some.injEq] at hk <;> (try (cases hk; done)) <;> subst hk
  · cases ha <;> cases hb <;> simp only [ceq] at h <;> (try (cases h; done))
    simp only [Option.some.injEq] at h
    subst h
    exact run_equalIn_bool' w n t _ _ hd
  · cases ha <;> cases hb <;> simp only [ceq] at h <;> (try (cases h; done))
    case symI.symI k1 j1 k2 j2 =>
      rename_i k
      cases hq : (keq k k1 && keq k k2 && Nat.beq j1 j2) with
      | false => rw [hq] at h; cases h
      | true =>
        rw [hq] at h
        simp only [cond_true, Option.some.injEq] at h
        subst h
        simp only [Bool.and_eq_true] at hq
        obtain ⟨⟨q1, q2⟩, q3⟩ := hq
        obtain rfl := keq_eq q1
        obtain rfl := keq_eq q2
        obtain rfl := Nat.eq_of_beq_eq_true q3
        rw [run_equalIn_int w n t _ _ _ _ hd]
        simp
    rename_i k k1 n1 k2 n2
    cases hq : keq k1 k2 with
    | false => rw [hq] at h; cases h
    | true =>
      rw [hq] at h
      simp only [cond_true, Option.some.injEq] at h
      obtain rfl := keq_eq hq
      rw [run_equalIn_int w n t _ _ _ _ hd, ← h, ieq_eq]
  · cases ha <;> cases hb <;> simp only [ceq] at h <;> (try (cases h; done))
    case symS.symS j1 h1 j2 h2 =>
      cases hq : Nat.beq j1 j2 with
      | false => rw [hq] at h; cases h
      | true =>
        rw [hq] at h
        simp only [cond_true, Option.some.injEq] at h
        subst h
        obtain rfl := Nat.eq_of_beq_eq_true hq
        rw [run_equalIn_string w n t _ _ hd]
        simp
    rename_i s1 h1 s2 h2
    simp only [Option.some.injEq] at h
    subst h
    rw [run_equalIn_string w n t _ _ hd, seq_eq, bytesOf_toList, bytesOf_toList]
    congr 1
    rw [Bool.eq_iff_iff, beq_iff_eq, beq_iff_eq]
    exact ⟨map_inj h1 h2, fun h => by rw [h]⟩
theorem plainKs_part {f : Field} {d : TypeDesc} {k : K} {xs : List Value} {x : Value} (hd : P.underlying f.type = some d) (hk : plainK d = some k) (hx : xs[f.offset]? = some x) : (part f.type xs.toArray f.offset).run P w = .ok x w := by
  have : aggD d = false := by cases d <;> simp [plainK] at hk <;> rfl
  simp [part, run_isAgg hd, this, hx]
theorem eqFields_sound {n : Nat} {xs ys : List Value} {as bs : List V} (ha : RepL σ as xs) (hb : RepL σ bs ys) : ∀ (fs : List Field) (i : Nat) (ks : List K) (c : Bool),
    plainKs P fs i = some ks → leq ks (as.drop i) (bs.drop i) = some c → (Op.eqFields (n + 1) xs.toArray ys.toArray fs).run P w = .ok c w
  | [], i, ks, c, hk, h => by
    simp only [plainKs, Option.some.injEq] at hk
    subst hk
    cases h1 : as.drop i <;> cases h2 : bs.drop i <;> simp only [h1, h2, leq] at h <;> (try (cases h; done))
    simp only [Option.some.injEq] at h
    subst h
    rfl
  | f :: fs, i, ks, c, hk, h => by
    rw [plainKs] at hk
    cases hn : (f.name != "_" && Nat.beq f.offset i) with
    | false => rw [hn] at hk; cases hk
    | true =>
      rw [hn] at hk
      simp only [cond_true, Option.bind_eq_some_iff, Option.some.injEq] at hk
      obtain ⟨d, hd, k, hk1, l, hl, rfl⟩ := hk
      simp only [Bool.and_eq_true, bne_iff_ne] at hn
      obtain ⟨hn1, hn2⟩ := hn
      have ho := Nat.eq_of_beq_eq_true hn2
      cases h1 : as.drop i with
      | nil => simp only [h1, leq] at h; cases h
      | cons a as' =>
        cases h2 : bs.drop i with
        | nil => simp only [h1, h2, leq] at h; cases h
        | cons b bs' =>
          have g1 : as[i]? = some a := by have := congrArg List.head? h1; simpa using this
          have g2 : bs[i]? = some b := by have := congrArg List.head? h2; simpa using this
          have t1 : as.drop (i + 1) = as' := by have := congrArg List.tail h1; simpa using this
          have t2 : bs.drop (i + 1) = bs' := by have := congrArg List.tail h2; simpa using this
          obtain ⟨x, hx, rx⟩ := ha.get g1
          obtain ⟨y, hy, ry⟩ := hb.get g2
          simp only [h1, h2, leq, Option.bind_eq_some_iff] at h
          obtain ⟨c1, hc1, hc2⟩ := h
          rw [Op.eqFields, if_pos hn1]
          simp only [Sem.run_bind, plainKs_part hd hk1 (by rw [ho]; exact hx), plainKs_part hd hk1 (by rw [ho]; exact hy), Result.andThen_ok, ceq_sound hd hk1 hc1 rx ry]
          cases c1 with
          | false =>
            simp only [cond_false, Option.some.injEq] at hc2
            subst hc2
            simp
          | true =>
            simp only [cond_true] at hc2
            simp only [Bool.not_true, Bool.false_eq_true, if_false]
            exact eqFields_sound ha hb fs (i + 1) l c hl (by rw [t1, t2]; exact hc2)
theorem fieldsOf_eq {t : TypeId} {fs : List Field} (h : P.underlying t = some (.struct fs.toArray)) : P.fieldsOf t = fs.toArray := by simp [Program.fieldsOf, h]
theorem aeq_sound {t : TypeId} {i : TI} {d : TypeDesc} {inf : TypeInfo} (T : TyIs P t i d inf) {as bs : List V} {xs ys : List Value} {c : Bool} (h : aeq i as bs = some c) (ha : RepL σ as xs) (hb : RepL σ bs ys) (n : Nat) :
    (Op.equalIn (n + 2) t (.agg xs.toArray) (.agg ys.toArray)).run P w = .ok c w ∧ P.eqGuardType P.depth t = false := by
  simp only [aeq, Option.bind_eq_some_iff, T.plain] at h
  obtain ⟨ks, hks, h⟩ := h
  unfold plainOf at hks
  split at hks
  · rename_i fs
    cases hc : (!P.stoodInHeld t && !P.eqGuardType P.depth t) with
    | false => rw [hc] at hks; cases hks
    | true =>
      rw [hc] at hks
      simp only [cond_true] at hks
      simp only [Bool.and_eq_true, Bool.not_eq_true'] at hc
      have hu : P.underlying t = some (.struct (P.fieldsOf t)) := by rw [T.und]; simp [Program.fieldsOf, T.und]
      refine ⟨?_, hc.2⟩
      rw [run_equalIn_struct w (n + 1) t _ _ hu hc.1]
      have hf : P.fieldsOf t = fs := by simp [Program.fieldsOf, T.und]
      rw [hf]
      exact eqFields_sound ha hb fs.toList 0 ks c hks (by simpa using h)
  · cases hks
end
end Go.Proofs.YtehbfpcfbpbllaaGreatDoor.VM
