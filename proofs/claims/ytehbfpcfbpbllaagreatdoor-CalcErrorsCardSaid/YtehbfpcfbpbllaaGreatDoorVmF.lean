/- The machine of plain data: operations that make one block are sound. No program in sight. -/
import Derived.Test.YtehbfpcfbpbllaaGreatDoorVmM
namespace Go.Proofs.YtehbfpcfbpbllaaGreatDoor.VM
open Go Go.RowKit
set_option linter.unusedSectionVars false
variable [Sy]
section
variable {P : Program} {E : Env} {σ : Mp} {w : World}
/-- one block made anew -/
def Made (σ : Mp) (w : World) (fr : Fr) (blk : Blk) (x : Value) (w' : World) : Prop :=
  ∃ b n, w.heap.size ≤ b ∧ b < w'.heap.size ∧ (∀ (τ : Mp) B, τ B = some (b, n) → Rep τ (fr.at B) x) ∧ (∀ o, w'.heap[b]? = some o → RepB σ n blk o) ∧ Below w.heap.size w w'
def repX : Nat → List Value → List Value
  | 0, _ => []
  | n + 1, l => l ++ repX n l
theorem rep_rep {l : List V} {y : List Value} (h : RepL σ l y) : ∀ n, RepL σ (rep n l) (repX n y)
  | 0 => .nil
  | n + 1 => h.append (rep_rep h n)
theorem repX_length (y : List Value) : ∀ n, (repX n y).length = n * y.length
  | 0 => by simp [repX]
  | n + 1 => by rw [repX, List.length_append, repX_length y n, Nat.succ_mul, Nat.add_comm]
theorem repX_get (y : List Value) : ∀ (n i : Nat), i < n * y.length → (repX n y)[i]? = y[i % y.length]?
  | 0, i, h => by simp at h
  | n + 1, i, h => by
    rw [repX, List.getElem?_append]
    split
    · rename_i h2; rw [Nat.mod_eq_of_lt h2]
    · rename_i h2
      have h3 : i - y.length < n * y.length := by rw [Nat.succ_mul] at h; omega
      rw [repX_get y n _ h3]
      have : i = (i - y.length) + y.length := by omega
      conv => rhs; rw [this, Nat.add_mod_right]
theorem range_rep (z : Array Value) (len : Nat) : (Array.range (len * z.size)).map (z[· % z.size]!) = (repX len z.toList).toArray := by
  apply Array.toList_inj.1
  apply List.ext_getElem?
  intro i
  rw [Array.toList_map, List.getElem?_map, Array.toList_range]
  by_cases h : i < len * z.size
  · rw [List.getElem?_range h, repX_get _ _ _ (by simpa using h)]
    have hpos : 0 < z.size := by
      rcases Nat.eq_zero_or_pos z.size with h0 | h0
      · rw [h0] at h; simp at h
      · exact h0
    have h2 : i % z.size < z.size := Nat.mod_lt _ hpos
    simp [h2]
  · rw [List.getElem?_eq_none (by simpa using Nat.le_of_not_lt h)]
    symm
    rw [List.getElem?_eq_none]
    · rfl
    · show (repX len z.toList).length ≤ i
      rw [repX_length]; simpa using Nat.le_of_not_lt h
/-- a row of cells made anew -/
theorem row_made {e : TypeId} {vs : List V} {ys : List Value} (hr : RepL σ vs ys) {fr : Fr} {x : Value} (hx : ∀ (τ : Mp) B, τ B = some (w.heap.size, ys.length) → Rep τ (fr.at B) x) :
    Made σ w fr (.cells vs e false) x (w.alloc (.cells ys.toArray e)) := by
  refine ⟨w.heap.size, ys.length, Nat.le_refl _, by simp, hx, fun o ho => ?_, (Below.refl _ _).alloc (Nat.le_refl _) _⟩
  rw [(MapKept.heap_alloc w (.cells ys.toArray e)).1] at ho
  cases ho
  exact ⟨ys, [], (0, 0), by simp, hr, by simp, fun i _ => by simp⟩
theorem conv_madeD {s : List Nat} (hs : ∀ b ∈ s, b < 256) (e : TypeId) {l : List V} (hl : l.map den = bytesV s) : ∃ x w', (Conv.stringToBytes e (bytesOf s)).run P w = .ok x w' ∧ Made σ w (.slo s.length 1) (.cells l e false) x w' := by
  unfold Conv.stringToBytes
  rw [Sem.run_bind, run_choose]
  simp only [Question.forced, Bool.false_eq_true, if_false, Result.andThen_ok, bytesOf_size]
  generalize hcap : Question.cut (.appendCap s.length 0 e) (w.tape w.drawn (.appendCap s.length 0 e)) = cap
  have hle : s.length ≤ cap := by rw [← hcap]; simp [Question.cut]
  have hrep : RepL σ l (s.map fun (b : Nat) => Value.int .u8 (b : Int)) := by
    apply repL_den
    rw [hl]
    clear hl hcap hle hs
    induction s with
    | nil => exact .nil
    | cons b s ih => exact .cons _ _ _ _ (.int _ _) ih
  have hel : ((bytesOf s).data.map fun b => Value.int .u8 (b.toNat : Int)) = (s.map fun (b : Nat) => Value.int .u8 (b : Int)).toArray := by
    apply Array.toList_inj.1
    simp only [bytesOf, Array.toList_map, List.map_map]
    apply List.map_congr_left
    intro b hb
    simp [toUInt8_toNat (hs b hb)]
  rw [hel]
  generalize hys : (s.map fun (b : Nat) => Value.int .u8 (b : Int)) = ys at hrep
  have hlen : ys.length = s.length := by rw [← hys]; simp
  generalize harr : ys.toArray ++ Array.replicate (cap - s.length) (Value.int .u8 0) = arr
  have hsz : arr.size = cap := by rw [← harr]; simp [hlen]; omega
  let w1 : World := { w with drawn := w.drawn + 1 }
  let w2 : World := w1.alloc (.cells arr e)
  have e1 : w2.heap[w.heap.size]? = some (.cells arr e) := (MapKept.heap_alloc w1 (.cells arr e)).1
  have e2 : (newRow e arr).run P w1 = .ok ⟨w.heap.size, 0, none⟩ w2 := rfl
  have e3 : (markStringish ⟨w.heap.size, 0, none⟩).run P w2 = .ok () (w2.freeze ⟨w.heap.size, cap, none⟩ 1) := by
    simp only [markStringish, Sem.run_bind, run_shape, World.shape?, e1, Result.andThen_ok, run_freeze, hsz]
  refine ⟨.slice (some ⟨w.heap.size, 0, none⟩) s.length cap, w2.freeze ⟨w.heap.size, cap, none⟩ 1, ?_, w.heap.size, cap, Nat.le_refl _, ?_, fun τ B hB => ?_, fun o ho => ?_, ?_⟩
  · rw [Sem.run_bind, e2, Result.andThen_ok, Sem.run_bind, e3, Result.andThen_ok]
    rfl
  · simp [World.freeze, w2, w1]
  · exact .slo _ _ _ _ _ _ cap _ hB hle (Nat.le_refl _) (by omega)
  · have e4 : (w2.freeze ⟨w.heap.size, cap, none⟩ 1).heap[w.heap.size]? = some (.cells arr e (cap, cap + 1)) := by
      simp [World.freeze, Array.getElem?_modify, e1]
    rw [e4] at ho
    cases ho
    refine ⟨ys, List.replicate (cap - s.length) (.int .u8 0), (cap, cap + 1), ?_, hrep, by simp [hlen]; omega, fun i hi => by simp; omega⟩
    rw [← harr]
    congr 1
    apply Array.toList_inj.1
    simp
  · refine ⟨rfl, rfl, rfl, by simp [World.freeze, w2, w1], fun k hk => ?_⟩
    have e5 : (w2.freeze ⟨w.heap.size, cap, none⟩ 1).heap[k]? = w2.heap[k]? := by
      simp only [World.freeze, Nat.succ_ne_zero, if_false, Array.getElem?_modify]
      rw [if_neg (by omega)]
    rw [e5]
    exact (MapKept.heap_alloc w1 (.cells arr e)).2 k hk
theorem bytesV_den : ∀ s : List Nat, (bytesV s).map den = bytesV s
  | [] => rfl
  | b :: s => by
    show V.int .u8 (.ofNat b) :: (bytesV s).map den = _
    rw [bytesV_den s]
    rfl
theorem conv_made {s : List Nat} (hs : ∀ b ∈ s, b < 256) (e : TypeId) : ∃ x w', (Conv.stringToBytes e (bytesOf s)).run P w = .ok x w' ∧ Made σ w (.slo s.length 1) (.cells (bytesV s) e false) x w' := conv_madeD hs e (bytesV_den s)
theorem newVar_run {e : TypeId} {v : Value} : (newVar e v).run P w = .ok ⟨w.heap.size, 0, none⟩ (w.alloc (.cells v.cells e)) := rfl
/-- what makes one block -/
theorem fop_sound (hE : EnvOK P E) {o : Oper} {t : Tm} {ρ : Operand → Value} {fr : Fr} {blk : Blk} (hl : fop E t o.op = some (fr, blk)) (hρ : ∀ x ∈ o.op.operands, ∀ v, ev t x = some v → Rep σ v (ρ x)) :
    ∃ x w', (execOp ρ o).run P w = .ok (.value x) w' ∧ Made σ w fr blk x w' := by
  obtain ⟨dst, op, type, pos, after, guard⟩ := o
  simp only at hl hρ
  have run_v' : ∀ {s : Sem Value} {r : Value} {w' : World}, s.run P w = .ok r w' → (do pure (Next.value (← s)) : Sem Next).run P w = .ok (.value r) w' := fun h => by rw [Sem.run_bind, h]; rfl
  cases op <;> simp only [fop] at hl <;> (try (cases hl; done)) <;> simp only [Op.operands] at hρ
  case alloc e =>
    simp only [fAlloc, newCells, Option.bind_eq_some_iff, Option.some.injEq, Prod.mk.injEq] at hl
    obtain ⟨i, hi, z, hz, rfl, rfl⟩ := hl
    obtain ⟨d, inf, T⟩ := hE.is hi
    obtain ⟨zv, h1, h2⟩ := zero_rep (σ := σ) T hz
    refine ⟨.pointer (some ⟨w.heap.size, 0, none⟩), w.alloc (.cells zv.cells.toList.toArray e), run_v' ?_, row_made h2 fun τ B hB => .ptr _ _ _ _ hB⟩
    simp only [Instr.alloc, Sem.run_bind, run_zeroValue T.info h1, Result.andThen_ok, newVar_run, Sem.run_pure, Array.toArray_toList]
  case box e x =>
    simp only [fBox, Option.bind_eq_some_iff] at hl
    obtain ⟨v, h1, h2⟩ := hl
    cases hc : allCells v.cells with
    | false => rw [hc] at h2; cases h2
    | true =>
      rw [hc] at h2
      simp only [cond_true, newCells, Option.some.injEq, Prod.mk.injEq] at h2
      obtain ⟨rfl, rfl⟩ := h2
      have h3 := hρ x (by simp) v h1
      refine ⟨.pointer (some ⟨w.heap.size, 0, none⟩), w.alloc (.cells (ρ x).cells.toList.toArray e), run_v' ?_, row_made h3.cells fun τ B hB => .ptr _ _ _ _ hB⟩
      simp only [Instr.box, Sem.run_bind, newVar_run, Result.andThen_ok, Sem.run_pure, Array.toArray_toList]
  case buildSlice ty len ps =>
    simp only [fBuildSlice, Option.bind_eq_some_iff, vbuildSlice] at hl
    obtain ⟨vs, h1, i, hi, hl⟩ := hl
    obtain ⟨d, inf, T⟩ := hE.is hi
    split at hl
    · rename_i e hk
      rw [T.k] at hk
      obtain rfl := kOf_sl hk.symm
      rw [Option.bind_eq_some_iff] at hl
      obtain ⟨j, hj, hl⟩ := hl
      obtain ⟨d2, inf2, T2⟩ := hE.is hj
      cases hc : (Nat.ble (len * j.size) 16777216 && Nat.beq ((j.zero.getD []).length) j.size) with
      | false => rw [hc] at hl; cases hl
      | true =>
        rw [hc] at hl
        simp only [cond_true, Option.bind_eq_some_iff, Option.some.injEq, Prod.mk.injEq] at hl
        obtain ⟨z, hz, l, hf, rfl, rfl⟩ := hl
        rw [Bool.and_eq_true] at hc
        have hc1 := Nat.le_of_ble_eq_true hc.1
        have hc2 := Nat.eq_of_beq_eq_true hc.2
        rw [hz] at hc2
        simp only [Option.getD_some] at hc2
        obtain ⟨zv, h2, h3⟩ := zero_rep (σ := σ) T2 hz
        have h4 := parts_rep (σ := σ) (ρ := ρ) (fun p hp v hv => hρ p.2 (by simp only [List.mem_toArray, List.mem_map]; exact ⟨p, hp, rfl⟩) v hv) h1
        obtain ⟨ys, h5, h6⟩ := fill_sound (place := fun i => some (i * j.size, j.size)) (fun i p hp => by rw [places_get _ _ _ _ _ hp]; simp) h4 (rep_rep h3 len) hf
        have hys : zv.cells.size = j.size := by have := h3.length; rw [hc2] at this; simpa using this.symm
        refine ⟨.slice (some ⟨w.heap.size, 0, none⟩) len len, w.alloc (.cells ys.toArray e), run_v' ?_, row_made h6 fun τ B hB => .sl _ _ _ _ _ _ hB⟩
        have e1 : (ps.map fun (i, x) => (i, ρ x)) = (ps.toList.map fun p => (p.1, ρ p.2)).toArray := by apply Array.toList_inj.1; simp
        rw [e1]
        unfold Instr.buildSlice
        rw [Sem.run_bind, run_underlying T.und, Result.andThen_ok]
        simp only [Sem.run_bind, run_sizeOf T2.info, Result.andThen_ok]
        rw [← T2.size]
        have h7 : ¬ len * j.size > 2 ^ 24 := by omega
        have e2 : (Array.range (len * j.size)).map (fun x => zv.cells[x % zv.cells.size]!) = (repX len zv.cells.toList).toArray := by rw [← hys]; exact range_rep zv.cells len
        by_cases h8 : len * j.size = 0
        · have e3 : (repX len zv.cells.toList).toArray = #[] := by
            apply Array.toList_inj.1
            apply List.eq_nil_of_length_eq_zero
            rw [show (repX len zv.cells.toList).toArray.toList = repX len zv.cells.toList from rfl, repX_length]
            simpa [hys] using h8
          have e4 : (Array.range (len * j.size)).map (fun x => (#[] : Array Value)[x % (#[] : Array Value).size]!) = #[] := by rw [h8]; simp
          rw [e3] at h5
          simp only [h8, if_true, Sem.run_ite]
          rw [h8] at e4
          simp only [e4, h5, Sem.run_bind, newRow, run_newObj, Result.andThen_ok, Sem.run_pure]
          rfl
        · simp only [h7, if_false, h8, Sem.run_bind, run_zeroValue T2.info h2, Sem.run_pure, Result.andThen_ok]
          simp only [e2, h5, Sem.run_bind, newRow, run_newObj, Result.andThen_ok, Sem.run_pure]
          rfl
    · cases hl
  case convert s d x =>
    simp only [fConv, fconv, Option.bind_eq_some_iff] at hl
    obtain ⟨i0, hi0, v, h1, j, hj, hl⟩ := hl
    obtain ⟨d0, inf0, T0⟩ := hE.is hi0
    obtain ⟨d2, inf2, T2⟩ := hE.is hj
    have h3 := hρ x (by simp) v h1
    generalize hax : ρ x = ax at h3
    split at hl
    · rename_i e s' hk
      rw [T2.k] at hk
      obtain rfl := kOf_sl hk.symm
      simp only [Option.bind_eq_some_iff] at hl
      obtain ⟨m, hm, hl⟩ := hl
      obtain ⟨d3, inf3, T3⟩ := hE.is hm
      split at hl
      · rename_i hk3
        rw [T3.k] at hk3
        obtain rfl := kOf_int hk3.symm
        simp only [Option.some.injEq, Prod.mk.injEq] at hl
        obtain ⟨rfl, rfl⟩ := hl
        cases h3 with
        | str _ hs =>
          obtain ⟨x', w', h5, h6⟩ := conv_made (σ := σ) (P := P) (w := w) hs e
          refine ⟨x', w', run_v' ?_, h6⟩
          rw [hax]
          unfold convert
          rw [Sem.run_bind, run_underlying T0.und, Result.andThen_ok, Sem.run_bind, run_underlying T2.und, Result.andThen_ok]
          show (do match ← underlying e with | .int .u8 => Conv.stringToBytes e (bytesOf s') | .int .i32 => Conv.stringToRunes e (bytesOf s') | _ => stuck "Convert: string to a slice of what?" : Sem Value).run P w = _
          rw [Sem.run_bind, run_underlying T3.und, Result.andThen_ok]
          exact h5
      · cases hl
    · rename_i e q hk
      rw [T2.k] at hk
      obtain rfl := kOf_sl hk.symm
      simp only [Option.bind_eq_some_iff] at hl
      obtain ⟨m, hm, hl⟩ := hl
      obtain ⟨d3, inf3, T3⟩ := hE.is hm
      split at hl
      · rename_i hk3
        rw [T3.k] at hk3
        obtain rfl := kOf_int hk3.symm
        simp only [Option.bind_eq_some_iff, Option.some.injEq, Prod.mk.injEq] at hl
        obtain ⟨r, hr, l, hl1, rfl, rfl⟩ := hl
        obtain rfl : r = .tup l := by
          cases r <;> first | (cases hl1; done) | skip
          cases hl1
          rfl
        obtain ⟨s', es, el⟩ := hE.so.bytes _ _ hr
        cases es
        cases h3 with
        | symS _ hs =>
          obtain ⟨x', w', h5, h6⟩ := conv_madeD (σ := σ) (P := P) (w := w) hs e el
          have e9 : l.length = (Sy.s q).length := by
            have := congrArg List.length el
            simpa [bytesV] using this
          rw [e9]
          refine ⟨x', w', run_v' ?_, h6⟩
          rw [hax]
          unfold convert
          rw [Sem.run_bind, run_underlying T0.und, Result.andThen_ok, Sem.run_bind, run_underlying T2.und, Result.andThen_ok]
          show (do match ← underlying e with | .int .u8 => Conv.stringToBytes e (bytesOf (Sy.s q)) | .int .i32 => Conv.stringToRunes e (bytesOf (Sy.s q)) | _ => stuck "Convert: string to a slice of what?" : Sem Value).run P w = _
          rw [Sem.run_bind, run_underlying T3.und, Result.andThen_ok]
          exact h5
      · cases hl
    · cases hl
  case makeMap ty r =>
    cases r with
    | some _ => cases hl
    | none =>
      simp only [fMap, Option.some.injEq, Prod.mk.injEq] at hl
      obtain ⟨rfl, rfl⟩ := hl
      refine ⟨.map (some w.heap.size), w.alloc (.map #[] 0), run_v' rfl, w.heap.size, 0, Nat.le_refl _, by simp, fun τ B hB => .mp _ _ _ hB, fun o ho => ?_, (Below.refl _ _).alloc (Nat.le_refl _) _⟩
      rw [(MapKept.heap_alloc w (.map #[] 0)).1] at ho
      cases ho
      exact ⟨[], rfl, .nil⟩
  case makeSlice ty l c =>
    simp only [fMake, Option.bind_eq_some_iff] at hl
    obtain ⟨lv, h1, cv, h2, i, hi, hl⟩ := hl
    obtain ⟨d, inf, T⟩ := hE.is hi
    have h3 := hρ l (by simp) lv h1
    have h4 := hρ c (by simp) cv h2
    generalize hlx : ρ l = lx at h3
    generalize hcx : ρ c = cx at h4
    unfold makeV at hl
    split at hl
    · rename_i e n m hk
      rw [T.k] at hk
      obtain rfl := kOf_sl hk.symm
      cases h3; cases h4
      simp only [Option.bind_eq_some_iff] at hl
      obtain ⟨n', hn, m', hm, j, hj, z, hz, hl⟩ := hl
      obtain rfl := natOf_some hn
      obtain rfl := natOf_some hm
      obtain ⟨d2, inf2, T2⟩ := hE.is hj
      cases hc : (Nat.ble n' m' && Nat.ble (j.bytes * m') 1048576 && Nat.ble m' 1048576 && Nat.beq z.length j.size) with
      | false => rw [hc] at hl; cases hl
      | true =>
        rw [hc] at hl
        simp only [cond_true, Option.some.injEq, Prod.mk.injEq] at hl
        obtain ⟨rfl, rfl⟩ := hl
        simp only [Bool.and_eq_true, ble_d, beq_d, decide_eq_true_iff] at hc
        obtain ⟨⟨⟨c1, c2⟩, c3⟩, c4⟩ := hc
        obtain ⟨zv, h5, h6⟩ := zero_rep (σ := σ) T2 hz
        have hys : zv.cells.size = j.size := by have := h6.length; rw [c4] at this; simpa using this.symm
        refine ⟨.slice (some ⟨w.heap.size, 0, none⟩) n' m', w.alloc (.cells (repX m' zv.cells.toList).toArray e), run_v' ?_, row_made (rep_rep h6 m') fun τ B hB => .sl _ _ _ _ _ _ hB⟩
        rw [hlx, hcx]
        have w1 : IntKind.i64.wrap (n' : Int) = (n' : Int) := Go.IntWalk.i64_in _ (by omega)
        have w2 : IntKind.i64.wrap (m' : Int) = (m' : Int) := Go.IntWalk.i64_in _ (by omega)
        have e2 : (Array.range (m' * j.size)).map (fun x => zv.cells[x % zv.cells.size]!) = (repX m' zv.cells.toList).toArray := by rw [← hys]; exact range_rep zv.cells m'
        unfold Instr.makeSlice
        rw [Sem.run_bind, run_underlying T.und, Result.andThen_ok]
        simp only [asInt, asIntOf, Sem.run_bind, Sem.run_pure, Result.andThen_ok, run_typeInfo T2.info, w1, w2]
        rw [← T2.bytes]
        have g1 : ¬ ((m' : Int) < 0) := by omega
        have g2 : ¬ ((j.bytes : Int) * (m' : Int) > 2 ^ 48) := by
          have : ((j.bytes : Int) * (m' : Int)) = ((j.bytes * m' : Nat) : Int) := by simp
          rw [this]; omega
        have g3 : ¬ ((n' : Int) < 0) := by omega
        have g4 : ¬ ((n' : Int) > (m' : Int)) := by omega
        simp only [g1, g2, g3, g4, decide_false, Bool.or_self, Bool.false_eq_true, if_false, Int.toNat_natCast]
        simp only [Sem.run_bind, run_askRoom, run_sizeOf T2.info, Result.andThen_ok]
        rw [← T2.size]
        by_cases h8 : m' * j.size = 0
        · have e3 : (repX m' zv.cells.toList).toArray = #[] := by
            apply Array.toList_inj.1
            apply List.eq_nil_of_length_eq_zero
            rw [show (repX m' zv.cells.toList).toArray.toList = repX m' zv.cells.toList from rfl, repX_length]
            simpa [hys] using h8
          have e0 : ∀ f : Nat → Value, Array.map f (Array.range 0) = #[] := fun f => by apply Array.toList_inj.1; simp
          simp only [h8, if_true, e3, Sem.run_bind, Sem.run_pure, Result.andThen_ok, newRow, run_newObj, e0]
          rfl
        · simp only [h8, if_false, Sem.run_bind, run_zeroValue T2.info h5, Sem.run_pure, Result.andThen_ok, e2, newRow, run_newObj]
          rfl
    · cases hl
end
end Go.Proofs.YtehbfpcfbpbllaaGreatDoor.VM
