/- The machine of plain data: operations that make nothing and change nothing are sound. No program in sight. -/
import Derived.Test.YtehbfpcfbpbllaaGreatDoorVmS
namespace Go.Proofs.YtehbfpcfbpbllaaGreatDoor.VM
open Go Go.RowKit
set_option linter.unusedSectionVars false
variable [Sy]
section
variable {P : Program} {E : Env} {σ : Mp} {w : World}
theorem RepL.set {σ : Mp} : ∀ {l : List V} {y : List Value} (i : Nat) {v : V} {x : Value}, RepL σ l y → Rep σ v x → RepL σ (l.set i v) (y.set i x)
  | _, _, _, _, _, .nil, _ => .nil
  | _, _, 0, _, _, .cons _ _ _ _ _ s, h => .cons _ _ _ _ h s
  | _, _, i + 1, _, _, .cons _ _ _ _ r s, h => .cons _ _ _ _ r (RepL.set i s h)
theorem spl_cons : ∀ {l : List V} {i : Nat} {v : V} {ws r : List V}, spl l i (v :: ws) = some r → i < l.length ∧ spl (l.set i v) (i + 1) ws = some r
  | [], _, _, _, _, h => by simp [spl] at h
  | x :: l, 0, v, ws, r, h => by
    simp only [spl, Option.bind_eq_some_iff, Option.some.injEq] at h
    obtain ⟨q, hq, rfl⟩ := h
    refine ⟨by simp, ?_⟩
    cases ws with
    | nil => cases l <;> simp [spl] at hq ⊢ <;> exact hq
    | cons u us => simp [spl, hq]
  | x :: l, i + 1, v, ws, r, h => by
    simp only [spl, Option.bind_eq_some_iff, Option.some.injEq] at h
    obtain ⟨q, hq, rfl⟩ := h
    obtain ⟨h1, h2⟩ := spl_cons hq
    refine ⟨by simp; omega, ?_⟩
    cases ws with
    | nil => cases hl : l.set i v <;> simp [spl, hl] at h2 ⊢ <;> exact h2
    | cons u us => simp [spl, h2]
theorem spl_nil {l r : List V} {i : Nat} (h : spl l i [] = some r) : r = l := by
  cases l <;> simp [spl] at h <;> first | exact h | exact h.symm
/-- cells written one after the other -/
def putAll (off : Nat) : List Value → Nat → List Value → List Value
  | [], _, xs => xs
  | y :: ys, k, xs => putAll off ys (k + 1) (xs.set (off + k) y)
theorem putAll_length (off : Nat) : ∀ (ys : List Value) (k : Nat) (xs : List Value), (putAll off ys k xs).length = xs.length
  | [], _, _ => rfl
  | y :: ys, k, xs => by rw [putAll, putAll_length off ys]; simp
theorem putAll_append (off : Nat) : ∀ (ys : List Value) (k : Nat) (xs zs : List Value), off + k + ys.length ≤ xs.length → putAll off ys k (xs ++ zs) = putAll off ys k xs ++ zs
  | [], _, _, _, _ => rfl
  | y :: ys, k, xs, zs, h => by
    rw [putAll, putAll, ← putAll_append off ys (k + 1) (xs.set (off + k) y) zs (by simp at h ⊢; omega)]
    congr 1
    rw [List.set_append_left _ _ (by simp at h; omega)]
theorem spl_len : ∀ (ws : List V) {l r : List V} {i : Nat}, spl l i ws = some r → ws = [] ∨ i + ws.length ≤ l.length
  | [], _, _, _, _ => .inl rfl
  | w :: ws, l, r, i, h => by
    obtain ⟨h1, h2⟩ := spl_cons h
    right
    rcases spl_len ws h2 with rfl | h3
    · simp; omega
    · simp at h3 ⊢; omega
theorem spl_rep {ws : List V} {ys : List Value} (hw : RepL σ ws ys) : ∀ {off k : Nat} {l r : List V} {xs : List Value}, RepL σ l xs → spl l (off + k) ws = some r → RepL σ r (putAll off ys k xs) := by
  induction ws generalizing ys with
  | nil =>
    intro off k l r xs h hs
    cases hw
    obtain rfl := spl_nil hs
    exact h
  | cons w ws ih =>
    intro off k l r xs h hs
    cases hw with
    | cons _ y _ ys hr hw =>
      obtain ⟨_, h2⟩ := spl_cons hs
      exact ih hw (k := k + 1) (h.set _ hr) h2
theorem fold_putAll (off : Nat) : ∀ (ys : List Value) (k : Nat) (xs : List Value), ((ys.zipIdx k).foldl (fun cs p => cs.setIfInBounds (off + p.2) p.1) xs.toArray) = (putAll off ys k xs).toArray
  | [], _, _ => rfl
  | y :: ys, k, xs => by
    rw [List.zipIdx_cons, List.foldl_cons, putAll, ← fold_putAll off ys (k + 1)]
    simp
theorem Rep.cells {v : V} {x : Value} (h : Rep σ v x) : RepL σ v.cells x.cells.toList := by
  cases h
  case agg l x h => simpa [V.cells, Value.cells] using h
  case any h =>
    have e : x.cells.toList = [x] := by cases x <;> first | rfl | cases h
    rw [e]
    exact .one (.any x h)
  all_goals exact .one (by constructor <;> assumption)
/-- parts of a literal: numbers and values -/
inductive RepP (σ : Mp) : List (Nat × V) → List (Nat × Value) → Prop
  | nil : RepP σ [] []
  | cons (i : Nat) (v : V) (x : Value) (l : List (Nat × V)) (m : List (Nat × Value)) : Rep σ v x → RepP σ l m → RepP σ ((i, v) :: l) ((i, x) :: m)
theorem parts_rep {t : Tm} {ρ : Operand → Value} : ∀ {l : List (Nat × Operand)} {vs : List (Nat × V)}, (∀ p ∈ l, ∀ v, ev t p.2 = some v → Rep σ v (ρ p.2)) → parts t l = some vs → RepP σ vs (l.map fun p => (p.1, ρ p.2))
  | [], vs, _, h => by simp [parts] at h; subst h; exact .nil
  | (i, x) :: r, vs, hρ, h => by
    simp only [parts, Option.bind_eq_some_iff] at h
    obtain ⟨v, h1, l, h2, h3⟩ := h
    cases h3
    exact .cons _ _ _ _ _ (hρ (i, x) (by simp) v h1) (parts_rep (fun y hy => hρ y (by simp [hy])) h2)
theorem fill_sound {place : Nat → Option (Nat × Nat)} {pl : List (Nat × Nat)} (hp : ∀ i p, pl[i]? = some p → place i = some p) : ∀ {ps : List (Nat × V)} {qs : List (Nat × Value)} {cs r : List V} {xs : List Value},
    RepP σ ps qs → RepL σ cs xs → fillV pl cs ps = some r → ∃ ys, Instr.fill place xs.toArray qs = some ys.toArray ∧ RepL σ r ys
  | _, _, cs, r, xs, .nil, h, hf => by
    simp only [fillV, Option.some.injEq] at hf
    subst hf
    exact ⟨xs, rfl, h⟩
  | _, _, cs, r, xs, .cons i v x l m hr hm, h, hf => by
    simp only [fillV, Option.bind_eq_some_iff] at hf
    obtain ⟨⟨off, sz⟩, hpl, hf⟩ := hf
    cases hl : (Nat.beq v.cells.length sz && Nat.ble (off + sz) cs.length) with
    | false => rw [hl] at hf; cases hf
    | true =>
      rw [hl] at hf
      simp only [cond_true, Option.bind_eq_some_iff] at hf
      obtain ⟨cs', hs, hf⟩ := hf
      rw [Bool.and_eq_true] at hl
      have hlen := Nat.eq_of_beq_eq_true hl.1
      have hle := Nat.le_of_ble_eq_true hl.2
      have hc := hr.cells
      have hl2 := hc.length
      have hl3 := h.length
      obtain ⟨ys, h1, h2⟩ := fill_sound hp (xs := putAll off x.cells.toList 0 xs) hm (spl_rep hc h (k := 0) hs) hf
      refine ⟨ys, ?_, h2⟩
      rw [Instr.fill, hp i _ hpl]
      have e1 : ¬ (x.cells.size ≠ sz ∨ (decide (off + x.cells.size > xs.toArray.size)) = true) := by
        simp only [Array.length_toList] at hl2
        simp only [List.size_toArray, decide_eq_true_iff]
        omega
      have e2 : (decide (x.cells.size ≠ sz) || decide (off + x.cells.size > xs.toArray.size)) = false := by
        rw [Bool.or_eq_false_iff]
        simp only [not_or] at e1
        exact ⟨by simpa using e1.1, by simpa using e1.2⟩
      simp only [e2, Bool.false_eq_true, if_false]
      rw [← fold_putAll] at h1
      rw [← h1]
      congr 1
      rw [← Array.foldl_toList, Array.toList_zipIdx]
theorem sizesOf_run (hE : EnvOK P E) : ∀ {fs : List Field} {pl : List (Nat × Nat)}, sizesOf E fs = some pl → (fs.mapM (fun f => do pure (f.offset, ← Go.sizeOf f.type) : Field → Sem (Nat × Nat))).run P w = .ok pl w
  | [], pl, h => by simp only [sizesOf, Option.some.injEq] at h; subst h; rfl
  | f :: r, pl, h => by
    simp only [sizesOf, Option.bind_eq_some_iff, Option.some.injEq] at h
    obtain ⟨i, hi, l, hl, rfl⟩ := h
    obtain ⟨d, inf, T⟩ := hE.is hi
    simp only [List.mapM_cons, Sem.run_bind, run_sizeOf T.info, Result.andThen_ok, Sem.run_pure, sizesOf_run hE hl, T.size]
theorem zero_rep {t : TypeId} {i : TI} {d : TypeDesc} {inf : TypeInfo} (T : TyIs P t i d inf) {z : List V} (h : i.zero = some z) : ∃ zv, inf.zero = some zv ∧ RepL σ z zv.cells.toList := by
  rw [T.zero, Option.bind_eq_some_iff] at h
  obtain ⟨zv, h1, h2⟩ := h
  exact ⟨zv, h1, ofCells_rep h2⟩
theorem places_get (sz : Nat) : ∀ (n k i : Nat) (p : Nat × Nat), (placesOf sz k n)[i]? = some p → p = ((k + i) * sz, sz)
  | 0, _, _, _, h => by simp [placesOf] at h
  | n + 1, k, 0, p, h => by simp [placesOf] at h; simp [← h]
  | n + 1, k, i + 1, p, h => by
    simp only [placesOf, List.getElem?_cons_succ] at h
    rw [places_get sz n (k + 1) i p h]
    congr 2
    omega
theorem build_sound (hE : EnvOK P E) {t : TypeId} {ps : List (Nat × V)} {qs : List (Nat × Value)} {v : V} (h : vbuild E t ps = some v) (hp : RepP σ ps qs) :
    ∃ r, (Instr.build t qs.toArray).run P w = .ok r w ∧ Rep σ v r := by
  simp only [vbuild, Option.bind_eq_some_iff] at h
  obtain ⟨i, hi, z, hz, h⟩ := h
  obtain ⟨d, inf, T⟩ := hE.is hi
  obtain ⟨zv, hzv, hzr⟩ := zero_rep (σ := σ) T hz
  unfold Instr.build
  rw [Sem.run_bind, run_zeroValue T.info hzv, Result.andThen_ok, Sem.run_bind, run_underlying T.und, Result.andThen_ok]
  split at h
  · rename_i fs hk
    rw [T.k] at hk
    obtain rfl := kOf_struct hk.symm
    simp only [Option.bind_eq_some_iff, Option.some.injEq] at h
    obtain ⟨pl, hpl, l, hl, rfl⟩ := h
    have h1 := sizesOf_run (w := w) hE hpl
    obtain ⟨ys, h2, h3⟩ := fill_sound (place := (pl.toArray[·]?)) (fun i p hp => by simpa using hp) hp hzr hl
    refine ⟨.agg ys.toArray, ?_, .agg _ _ h3⟩
    have e : (fs.toArray.mapM (fun f => do pure (f.offset, ← Go.sizeOf f.type) : Field → Sem (Nat × Nat))).run P w = .ok pl.toArray w := by
      rw [Array.mapM_eq_mapM_toList, Sem.run_map]
      simp only [h1, Result.andThen_ok]
    simp only [Sem.run_bind, e, Result.andThen_ok]
    have h2' : Instr.fill (pl.toArray[·]?) zv.cells qs = some ys.toArray := by simpa using h2
    simp only [h2', Sem.run_pure]
  · rename_i n e hk
    rw [T.k] at hk
    obtain rfl := kOf_arr hk.symm
    simp only [Option.bind_eq_some_iff, Option.some.injEq] at h
    obtain ⟨j, hj, l, hl, rfl⟩ := h
    obtain ⟨d2, inf2, T2⟩ := hE.is hj
    obtain ⟨ys, h2, h3⟩ := fill_sound (place := fun i => some (i * j.size, j.size)) (fun i p hp => by rw [places_get _ _ _ _ _ hp]; simp) hp hzr hl
    refine ⟨.agg ys.toArray, ?_, .agg _ _ h3⟩
    simp only [Sem.run_bind, run_sizeOf T2.info, Result.andThen_ok, ← T2.size]
    have h2' : Instr.fill (fun i => some (i * j.size, j.size)) zv.cells qs = some ys.toArray := by simpa using h2
    simp only [h2', Sem.run_pure]
  · cases h
theorem field_sound (hE : EnvOK P E) {t : TypeId} {x : V} {a : Value} {f : Nat} {v : V} (h : vfield E t x f = some v) (hx : Rep σ x a) : ∃ r, (Instr.field t a f).run P w = .ok r w ∧ Rep σ v r := by
  simp only [vfield, Option.bind_eq_some_iff] at h
  obtain ⟨i, hi, h⟩ := h
  obtain ⟨d, inf, T⟩ := hE.is hi
  split at h
  · rename_i fs cs hk
    rw [T.k] at hk
    obtain rfl := kOf_struct hk.symm
    cases hx with
    | agg _ xs hr =>
      rw [Option.bind_eq_some_iff] at h
      obtain ⟨fd, hf, h⟩ := h
      obtain ⟨r, h1, h2⟩ := part_sound (w := w) hE h hr
      refine ⟨r, ?_, h2⟩
      unfold Instr.field
      rw [Sem.run_bind, run_underlying T.und, Result.andThen_ok]
      simp only [List.getElem?_toArray, hf, asAgg, Sem.run_bind, Sem.run_pure, Result.andThen_ok, h1]
  · cases h
theorem fieldAddr_sound (hE : EnvOK P E) {t : TypeId} {x : V} {a : Value} {f : Nat} {v : V} (h : vfieldAddr E t x f = some v) (hx : Rep σ x a) : ∃ r, (Instr.fieldAt t a f).run P w = .ok r w ∧ Rep σ v r := by
  simp only [vfieldAddr, Option.bind_eq_some_iff] at h
  obtain ⟨i, hi, h⟩ := h
  obtain ⟨d, inf, T⟩ := hE.is hi
  split at h
  · rename_i fs b off hk
    rw [T.k] at hk
    obtain rfl := kOf_struct hk.symm
    cases hx
    simp only [Option.bind_eq_some_iff] at h
    obtain ⟨fd, hf, j, hj, h⟩ := h
    obtain ⟨d2, inf2, T2⟩ := hE.is hj
    cases hz : Nat.beq j.size 0 with
    | true => rw [hz] at h; cases h
    | false =>
      rw [hz] at h
      simp only [cond_false, Option.some.injEq] at h
      subst h
      have hsz : ¬ inf2.size = 0 := by rw [← T2.size]; intro e; rw [e] at hz; cases hz
      refine ⟨_, ?_, .ptr _ _ _ _ ‹_›⟩
      unfold Instr.fieldAt
      rw [Sem.run_bind, run_underlying T.und, Result.andThen_ok]
      simp only [List.getElem?_toArray, hf, Instr.sureAddr, Sem.run_bind, Sem.run_pure, Result.andThen_ok, fieldPlace, run_sizeOf T2.info, hsz, if_false, addr_add]
  · cases h
theorem indexAddr_sound (hE : EnvOK P E) {t : TypeId} {x ix : V} {a ia : Value} {v : V} (h : vindexAddr E t x ix = some v) (hx : Rep σ x a) (hi : Rep σ ix ia) : ∃ r, (Instr.indexAt t a ia).run P w = .ok r w ∧ Rep σ v r := by
  unfold vindexAddr at h
  split at h
  · rename_i k n
    cases hi
    simp only [Option.bind_eq_some_iff] at h
    obtain ⟨m, hm, i, hi, h⟩ := h
    obtain rfl := natOf_some hm
    obtain ⟨d, inf, T⟩ := hE.is hi
    unfold Instr.indexAt
    simp only [asIntOf, Sem.run_bind, Sem.run_pure, Result.andThen_ok, run_underlying T.und]
    split at h <;> first | (cases h; done) | skip
    · rename_i e b off len cap hk
      rw [T.k] at hk
      obtain rfl := kOf_sl hk.symm
      cases hx
      rw [Option.bind_eq_some_iff] at h
      obtain ⟨j, hj, h⟩ := h
      obtain ⟨d2, inf2, T2⟩ := hE.is hj
      cases hb : Nat.blt m len with
      | false => rw [hb] at h; cases h
      | true =>
        rw [hb] at h
        simp only [cond_true, Option.some.injEq] at h
        subst h
        rw [blt_d, decide_eq_true_iff] at hb
        have h2 : (0 : Int) ≤ (m : Int) ∧ (m : Int) < (len : Int) := by omega
        refine ⟨_, ?_, .ptr _ _ _ _ ‹_›⟩
        simp [hb, run_underlying T.und, run_sizeOf T2.info, addr_add, T2.size]
    · rename_i e b off len low sz hk
      rw [T.k] at hk
      obtain rfl := kOf_sl hk.symm
      cases hx
      rw [Option.bind_eq_some_iff] at h
      obtain ⟨j, hj, h⟩ := h
      obtain ⟨d2, inf2, T2⟩ := hE.is hj
      cases hb : Nat.blt m len with
      | false => rw [hb] at h; cases h
      | true =>
        rw [hb] at h
        simp only [cond_true, Option.some.injEq] at h
        subst h
        rw [blt_d, decide_eq_true_iff] at hb
        have h2 : (0 : Int) ≤ (m : Int) ∧ (m : Int) < (len : Int) := by omega
        refine ⟨_, ?_, .ptr _ _ _ _ ‹_›⟩
        simp [hb, run_underlying T.und, run_sizeOf T2.info, addr_add, T2.size]
    · rename_i len e b off hk
      rw [T.k] at hk
      obtain rfl := kOf_arr hk.symm
      cases hx
      rw [Option.bind_eq_some_iff] at h
      obtain ⟨j, hj, h⟩ := h
      obtain ⟨d2, inf2, T2⟩ := hE.is hj
      cases hb : Nat.blt m len with
      | false => rw [hb] at h; cases h
      | true =>
        rw [hb] at h
        simp only [cond_true, Option.some.injEq] at h
        subst h
        rw [blt_d, decide_eq_true_iff] at hb
        have h2 : (0 : Int) ≤ (m : Int) ∧ (m : Int) < (len : Int) := by omega
        refine ⟨_, ?_, .ptr _ _ _ _ ‹_›⟩
        simp [hb, run_underlying T.und, run_sizeOf T2.info, addr_add, T2.size, Instr.sureAddr]
  · cases h
theorem index_sound (hE : EnvOK P E) {t : TypeId} {x ix : V} {a ia : Value} {v : V} (h : vindex E t x ix = some v) (hx : Rep σ x a) (hi : Rep σ ix ia) : ∃ r, (Instr.index t a ia).run P w = .ok r w ∧ Rep σ v r := by
  unfold vindex at h
  split at h
  · rename_i k n
    cases hi
    simp only [Option.bind_eq_some_iff] at h
    obtain ⟨m, hm, i, hi, h⟩ := h
    obtain rfl := natOf_some hm
    obtain ⟨d, inf, T⟩ := hE.is hi
    unfold Instr.index
    simp only [asIntOf, Sem.run_bind, Sem.run_pure, Result.andThen_ok, run_underlying T.und]
    split at h <;> first | (cases h; done) | skip
    · rename_i s hk
      rw [T.k] at hk
      obtain rfl := kOf_str hk.symm
      cases hx with
      | str _ hs =>
        rw [Option.bind_eq_some_iff] at h
        obtain ⟨b, hb, h⟩ := h
        cases h
        have e : (bytesOf s)[m]? = some b.toUInt8 := by
          obtain ⟨h1, h2⟩ := List.getElem?_eq_some_iff.1 hb
          have : m < (bytesOf s).size := by rw [bytesOf_size]; exact h1
          rw [ByteArray.getElem?_lt' _ _ this]
          congr 1
          show (bytesOf s).data[m] = _
          simp [bytesOf, h2]
        have h3 : (0 : Int) ≤ (m : Int) := by omega
        refine ⟨.int .u8 b.toUInt8.toNat, ?_, ?_⟩
        · simp [h3, e]
        · rw [toUInt8_toNat (hs b (List.mem_of_getElem? hb))]
          exact .int _ _
    · rename_i j hk
      rw [T.k] at hk
      obtain rfl := kOf_str hk.symm
      cases hx with
      | symS _ hs =>
        obtain ⟨s, e1, b, hb, e2⟩ := hE.so.idx _ _ _ _ h
        cases e1
        have e : (bytesOf (Sy.s j))[m]? = some b.toUInt8 := by
          obtain ⟨h1, h2⟩ := List.getElem?_eq_some_iff.1 hb
          have : m < (bytesOf (Sy.s j)).size := by rw [bytesOf_size]; exact h1
          rw [ByteArray.getElem?_lt' _ _ this]
          congr 1
          show (bytesOf (Sy.s j)).data[m] = _
          simp [bytesOf, h2]
        have h3 : (0 : Int) ≤ (m : Int) := by omega
        refine ⟨.int .u8 b.toUInt8.toNat, ?_, rep_den ?_⟩
        · simp [h3, e]
        · rw [e2, toUInt8_toNat (hs b (List.mem_of_getElem? hb))]
          exact .int _ _
    · rename_i len e cs hk
      rw [T.k] at hk
      obtain rfl := kOf_arr hk.symm
      cases hx with
      | agg _ xs hr =>
        rw [Option.bind_eq_some_iff] at h
        obtain ⟨j, hj, h⟩ := h
        obtain ⟨d2, inf2, T2⟩ := hE.is hj
        cases hb : Nat.blt m len with
        | false => rw [hb] at h; cases h
        | true =>
          rw [hb] at h
          simp only [cond_true] at h
          rw [blt_d, decide_eq_true_iff] at hb
          have h2 : (0 : Int) ≤ (m : Int) ∧ (m : Int) < (len : Int) := by omega
          obtain ⟨r, h3, h4⟩ := part_sound (w := w) hE h hr
          refine ⟨r, ?_, h4⟩
          rw [T2.size] at h3
          simp [h2, run_sizeOf T2.info, h3]
  · cases h
end
end Go.Proofs.YtehbfpcfbpbllaaGreatDoor.VM
