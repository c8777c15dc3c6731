/- The machine of plain data: maps are written. No program in sight. -/
import Derived.Test.YtehbfpcfbpbllaaGreatDoorVmE
namespace Go.Proofs.YtehbfpcfbpbllaaGreatDoor.VM
open Go Go.RowKit
set_option linter.unusedSectionVars false
variable [Sy]
section
variable {P : Program} {E : Env} {σ : Mp} {w w' : World} {N : Nat} {h : Hp}
theorem sameBits_plain {k : K} {a : V} {x : Value} (n : Nat) (h : ceq k a a = some true) (hr : Rep σ a x) : Instr.sameBits n x x = true := by
  cases k <;> cases hr <;> simp only [ceq] at h <;> (try (cases h; done))
  · simp [Instr.sameBits]
  · simp [Instr.sameBits]
  · simp [Instr.sameBits]
  · simp only [Instr.sameBits, beq_toListBytes]
    simp
  · simp only [Instr.sameBits, beq_toListBytes]
    simp
theorem sameBits_list {n : Nat} : ∀ {ks : List K} {as : List V} {xs : List Value}, leq ks as as = some true → RepL σ as xs → ((xs.zip xs).all fun (x, y) => Instr.sameBits n x y) = true
  | _, _, _, _, .nil => rfl
  | k :: ks, a :: as, _, h, .cons _ x _ xs hr hl => by
    simp only [leq, Option.bind_eq_some_iff] at h
    obtain ⟨c, h1, h2⟩ := h
    cases c with
    | false => simp at h2
    | true =>
      simp only [cond_true] at h2
      simp only [List.zip_cons_cons, List.all_cons, sameBits_plain n h1 hr, Bool.true_and]
      exact sameBits_list h2 hl
  | [], a :: as, _, h, .cons _ x _ xs hr hl => by simp [leq] at h
theorem sameBits_key {j : TI} {k : V} {kx : Value} (hk : keyOK j k = true) (hr : Rep σ k kx) (n : Nat) : Instr.sameBits (n + 1) kx kx = true := by
  have h0 : veqK j k k = some true := by
    unfold keyOK at hk
    split at hk
    · assumption
    · cases hk
  unfold veqK at h0
  split at h0
  · cases hr; simp [Instr.sameBits]
  · cases hr
    simp only [Instr.sameBits, beq_toListBytes]
    simp
  · rename_i hj hs
    cases hs
    cases hr with
    | agg _ xs ha =>
      simp only [aeq, Option.bind_eq_some_iff] at h0
      obtain ⟨ks, _, h0⟩ := h0
      have := sameBits_list (n := n) h0 ha
      simp only [Instr.sameBits, BEq.rfl, Bool.true_and]
      exact this
  · cases h0
theorem stays_run {j : TI} {k : V} {kx : Value} (hk : keyOK j k = true) (hr : Rep σ k kx) : (Instr.keyThatStays kx kx).run P w = .ok kx w := by
  unfold Instr.keyThatStays
  rw [if_pos (sameBits_key hk hr 9999)]
  rfl
/-- the same memory -/
theorem Rel.same (R : Rel N σ h w) (hs : w'.heap.size = w.heap.size) (hg : ∀ k : Nat, w'.heap[k]? = w.heap[k]?) : Rel N σ h w' := by
  refine ⟨fun C c m hC => ?_, R.inj, R.old, by rw [hs]; exact R.base, fun p hp => ⟨(R.tab p hp).1, (hg _).trans (R.tab p hp).2⟩⟩
  obtain ⟨h1, h2, k2, h3, h4⟩ := R.has C c m hC
  exact ⟨h1, by rw [hs]; exact h2, k2, h3, fun o ho => h4 o (by rw [hg] at ho; exact ho)⟩
theorem RepE.append {σ : Mp} : ∀ {l m : List (V × V × Nat)} {y z : List MapEntry}, RepE σ l y → RepE σ m z → RepE σ (l ++ m) (y ++ z)
  | _, _, _, _, .nil, h => h
  | _, _, _, _, .cons k v n kx vx l y h1 h2 s, h => .cons k v n kx vx _ _ h1 h2 (RepE.append s h)
theorem setE_rep {v : V} {vx : Value} (hv : Rep σ v vx) (f : MapEntry → MapEntry) : ∀ {es es' : List (V × V × Nat)} {ms : List MapEntry} {n : Nat}, RepE σ es ms → setE es n v = some es' → (∀ e, ms[n]? = some e → f e = { e with val := vx }) → RepE σ es' (ms.modify n f)
  | [], _, _, _, .nil, h, _ => by simp [setE] at h
  | (k, u, b) :: r, _, _, 0, .cons _ _ _ kx ux _ m h1 h2 hl, h, hf => by
    simp only [setE, Option.some.injEq] at h
    subst h
    rw [List.modify_zero_cons, hf _ rfl]
    exact .cons _ _ _ _ _ _ _ h1 hv hl
  | (k, u, b) :: r, _, _, n + 1, .cons _ _ _ kx ux _ m h1 h2 hl, h, hf => by
    simp only [setE, Option.bind_eq_some_iff, Option.some.injEq] at h
    obtain ⟨l, hl2, rfl⟩ := h
    rw [List.modify_succ_cons]
    exact .cons _ _ _ _ _ _ _ h1 h2 (setE_rep hv f hl hl2 (fun e he => hf e (by simpa using he)))
theorem mapOf_mp {B : Nat} {x : List (V × V × Nat) × Nat} (hx : mapOf h (.mp B) = some x) : h.t.get B = some (.map x.1 x.2) := by
  simp only [mapOf] at hx
  split at hx
  · rename_i es c hb; cases hx; exact hb
  · cases hx
theorem setObj_chg {b : Nat} {o o' : Obj} (hb : w.heap[b]? = some o) : Chg w { w with heap := w.heap.setIfInBounds b o' } b ∧ ({ w with heap := w.heap.setIfInBounds b o' } : World).heap[b]? = some o' :=
  ⟨⟨rfl, rfl, rfl, by simp, fun k hk => by simp [Ne.symm hk]⟩, (MapKept.heap_set hb).1⟩
theorem update_sound (hE : EnvOK P E) (R : Rel N σ h w) {t : TypeId} {m k v : V} {mx kx vx : Value} {h' : Hp} (hc : vmapUpdate E h t m k v = some h') (hm : Rep σ m mx) (hk : Rep σ k kx) (hv : Rep σ v vx) :
    ∃ w', (Instr.mapUpdate t mx kx vx).run P w = .ok () w' ∧ Rel N σ h' w' ∧ Below N w w' ∧ h.n ≤ h'.n := by
  simp only [vmapUpdate, Option.bind_eq_some_iff] at hc
  obtain ⟨i, hi, hc⟩ := hc
  obtain ⟨d, inf, T⟩ := hE.is hi
  split at hc
  · rename_i q el B hkk
    rw [T.k] at hkk
    obtain rfl := kOf_map hkk.symm
    cases hm with
    | mp _ b n hσ =>
      rw [Option.bind_eq_some_iff] at hc
      obtain ⟨j, hj, hc⟩ := hc
      obtain ⟨d2, inf2, T2⟩ := hE.is hj
      cases hok : keyOK j k with
      | false => rw [hok] at hc; cases hc
      | true =>
        rw [hok] at hc
        simp only [cond_true, Option.bind_eq_some_iff] at hc
        obtain ⟨x, hx, r, hf, hc⟩ := hc
        have hB := mapOf_mp hx
        obtain ⟨ms, h1, h2⟩ := R.map_ hσ hB
        obtain ⟨o, h3, h4⟩ := findKey_sound (w := w) T2 hk h2 hf
        have hck : (Instr.checkKey false 10000 q kx).run P w = .ok () w := checkKey_sound T2 hok hk false 9998
        have hN : N ≤ b := by
          rcases Nat.lt_or_ge b N with h8 | h8
          · rcases R.old B b n hσ h8 with ⟨vs', el', h9⟩ | h9 <;> rw [hB] at h9 <;> cases h9
          · exact h8
        cases r with
        | none =>
          obtain rfl : o = none := h4
          simp only [Option.some.injEq] at hc
          subst hc
          obtain ⟨c1, c2⟩ := setObj_chg (o' := .map (ms ++ [({ key := kx, val := vx, born := x.2 } : MapEntry)]).toArray (x.2 + 1)) h1
          refine ⟨_, ?_, R.change hσ hB (by simp) (by simp) c1 (fun o ho => ?_), c1.below hN, Nat.le_refl _⟩
          · unfold Instr.mapUpdate
            rw [Sem.run_bind, run_underlying T.und, Result.andThen_ok]
            simp only [Sem.run_bind, MapKept.run_getObj_map h1, Result.andThen_ok, hck, h3]
            rw [MapKept.run_setObj_map _ h1]
            simp
          · rw [c2] at ho
            cases ho
            exact ⟨_, rfl, h2.append (.cons _ _ _ _ _ _ _ hk hv .nil)⟩
        | some p =>
          obtain ⟨n', v', b'⟩ := p
          obtain ⟨e, _, he, rfl, _, _, hke⟩ := h4
          simp only [Option.bind_eq_some_iff, Option.some.injEq] at hc
          obtain ⟨es', hse, rfl⟩ := hc
          rw [Nat.sub_zero] at he
          obtain ⟨c1, c2⟩ := setObj_chg (o' := .map (ms.modify n' fun e => { e with key := kx, val := vx }).toArray x.2) h1
          refine ⟨_, ?_, R.change hσ hB (by simp) (by simp) c1 (fun o ho => ?_), c1.below hN, Nat.le_refl _⟩
          · unfold Instr.mapUpdate
            rw [Sem.run_bind, run_underlying T.und, Result.andThen_ok]
            simp only [Sem.run_bind, MapKept.run_getObj_map h1, Result.andThen_ok, hck, h3, List.getElem?_toArray, he, Option.map_some, Option.getD_some, hke, stays_run hok hk]
            rw [MapKept.run_setObj_map _ h1]
            simp
          · rw [c2] at ho
            cases ho
            exact ⟨_, rfl, setE_rep hv _ h2 hse (fun e' he' => by
              rw [he] at he'
              cases he'
              rw [← hke])⟩
  · cases hc
theorem entry_sound (hE : EnvOK P E) (R : Rel N σ h w) {t : TypeId} {m k : V} {mx kx : Value} {v : V} {h' : Hp} (hc : vmapEntry E h t m k = some (v, h')) (hm : Rep σ m mx) (hk : Rep σ k kx) :
    ∃ r w', (Instr.mapEntry t mx kx).run P w = .ok r w' ∧ Does N σ h w v h' r w' := by
  simp only [vmapEntry, Option.bind_eq_some_iff] at hc
  obtain ⟨i, hi, hc⟩ := hc
  obtain ⟨d, inf, T⟩ := hE.is hi
  split at hc
  · rename_i q el B hkk
    rw [T.k] at hkk
    obtain rfl := kOf_map hkk.symm
    cases hm with
    | mp _ b n hσ =>
      rw [Option.bind_eq_some_iff] at hc
      obtain ⟨j, hj, hc⟩ := hc
      obtain ⟨d2, inf2, T2⟩ := hE.is hj
      cases hok : keyOK j k with
      | false => rw [hok] at hc; cases hc
      | true =>
        rw [hok] at hc
        simp only [cond_true, Option.bind_eq_some_iff] at hc
        obtain ⟨x, hx, r, hf, hc⟩ := hc
        have hB := mapOf_mp hx
        obtain ⟨ms, h1, h2⟩ := R.map_ hσ hB
        obtain ⟨o, h3, h4⟩ := findKey_sound (w := w) T2 hk h2 hf
        have hck : (Instr.checkKey false 10000 q kx).run P w = .ok () w := checkKey_sound T2 hok hk false 9998
        have hN : N ≤ b := by
          rcases Nat.lt_or_ge b N with h8 | h8
          · rcases R.old B b n hσ h8 with ⟨vs', el', h9⟩ | h9 <;> rw [hB] at h9 <;> cases h9
          · exact h8
        cases r with
        | none =>
          obtain rfl : o = none := h4
          simp only [Option.bind_eq_some_iff, Option.some.injEq, Prod.mk.injEq] at hc
          obtain ⟨z, hz, rfl, rfl⟩ := hc
          obtain ⟨zx, h5, h6⟩ := vzero_sound (σ := σ) hE hz
          obtain ⟨c1, c2⟩ := setObj_chg (o' := .map (ms ++ [({ key := kx, val := zx, born := x.2 } : MapEntry)]).toArray (x.2 + 1)) h1
          refine ⟨.tuple #[zx, goInt x.2], _, ?_, .stay (R := R.change hσ hB (by simp) (by simp) c1 (fun o ho => ?_)) ?_ (c1.below hN) (Nat.le_refl _)⟩
          · unfold Instr.mapEntry
            rw [Sem.run_bind, run_underlying T.und, Result.andThen_ok]
            simp only [Sem.run_bind, MapKept.run_getObj_map h1, Result.andThen_ok, hck, h3, h5]
            rw [MapKept.run_setObj_map _ h1]
            simp
          · exact .tup _ _ (.cons _ _ _ _ h6 (.one (.int _ _)))
          · rw [c2] at ho
            cases ho
            exact ⟨_, rfl, h2.append (.cons _ _ _ _ _ _ _ hk h6 .nil)⟩
        | some p =>
          obtain ⟨n', v', b'⟩ := p
          obtain ⟨e, _, he, rfl, hv', hb', hke⟩ := h4
          simp only [Option.some.injEq, Prod.mk.injEq] at hc
          obtain ⟨rfl, rfl⟩ := hc
          rw [Nat.sub_zero] at he
          have hsame : (ms.toArray.modify n' fun e => { e with key := kx }) = ms.toArray := by
            apply Array.toList_inj.1
            simp only [Array.toList_modify]
            apply List.ext_getElem?
            intro i
            rw [List.getElem?_modify]
            split
            · rename_i hi; subst hi; rw [he]; simp [← hke]
            · simp
          obtain ⟨c1, c2⟩ := setObj_chg (o' := .map ms.toArray x.2) h1
          refine ⟨.tuple #[e.val, goInt e.born], { w with heap := w.heap.setIfInBounds b (.map ms.toArray x.2) }, ?_, .stay (R := R.same c1.size (fun k => ?_)) ?_ (c1.below hN) (Nat.le_refl _)⟩
          · unfold Instr.mapEntry
            rw [Sem.run_bind, run_underlying T.und, Result.andThen_ok]
            simp only [Sem.run_bind, MapKept.run_getObj_map h1, Result.andThen_ok, hck, h3, List.getElem?_toArray, he, Option.map_some, Option.getD_some, hke, stays_run hok hk, hsame]
            rw [MapKept.run_setObj_map _ h1]
            simp
          · rw [← hb']
            exact .tup _ _ (.cons _ _ _ _ hv' (.one (.int _ _)))
          · by_cases hkb : k = b
            · subst hkb; rw [c2, h1]
            · exact c1.other k hkb
  · cases hc
theorem setBorn_rep {v : V} {vx : Value} (hv : Rep σ v vx) : ∀ {es es' : List (V × V × Nat)} {ms : List MapEntry} {n : Nat}, RepE σ es ms → setBorn es n v = some es' → ∃ i, ms.findIdx? (fun e => ((e.born : Nat) : Int) == (n : Int)) = some i ∧ RepE σ es' (ms.modify i fun e => { e with val := vx })
  | [], _, _, _, .nil, h => by simp [setBorn] at h
  | (k, u, b) :: r, _, _, n, .cons _ _ _ kx ux _ m h1 h2 hl, h => by
    rw [setBorn] at h
    cases hb : Nat.beq b n with
    | true =>
      rw [hb] at h
      simp only [cond_true, Option.some.injEq] at h
      subst h
      obtain rfl := Nat.eq_of_beq_eq_true hb
      exact ⟨0, by simp [List.findIdx?_cons], by rw [List.modify_zero_cons]; exact .cons _ _ _ _ _ _ _ h1 hv hl⟩
    | false =>
      rw [hb] at h
      simp only [cond_false, Option.bind_eq_some_iff, Option.some.injEq] at h
      obtain ⟨l, hl2, rfl⟩ := h
      obtain ⟨i, h3, h4⟩ := setBorn_rep hv hl hl2
      have hne : (((b : Nat) : Int) == (n : Int)) = false := by
        rw [beq_d] at hb
        simp only [decide_eq_false_iff_not] at hb
        rw [beq_eq_false_iff_ne]
        intro e
        exact hb (by omega)
      exact ⟨i + 1, by rw [List.findIdx?_cons]; simp [hne, h3], by rw [List.modify_succ_cons]; exact .cons _ _ _ _ _ _ _ h1 h2 h4⟩
theorem entryStore_sound (R : Rel N σ h w) {t : TypeId} {m s v : V} {mx sx vx : Value} {h' : Hp} (hc : ventryStore h m s v = some h') (hm : Rep σ m mx) (hs : Rep σ s sx) (hv : Rep σ v vx) :
    ∃ w', (Instr.entryStore t mx sx vx).run P w = .ok () w' ∧ Rel N σ h' w' ∧ Below N w w' ∧ h.n ≤ h'.n := by
  unfold ventryStore at hc
  split at hc
  · rename_i B k n
    cases hs
    cases hm with
    | mp _ b nn hσ =>
      simp only [Option.bind_eq_some_iff, Option.some.injEq] at hc
      obtain ⟨n', hn, x, hx, es', hse, rfl⟩ := hc
      obtain rfl := natOf_some hn
      have hB := mapOf_mp hx
      obtain ⟨ms, h1, h2⟩ := R.map_ hσ hB
      have hN : N ≤ b := by
        rcases Nat.lt_or_ge b N with h8 | h8
        · rcases R.old B b nn hσ h8 with ⟨vs', el', h9⟩ | h9 <;> rw [hB] at h9 <;> cases h9
        · exact h8
      obtain ⟨i, h3, h4⟩ := setBorn_rep hv h2 hse
      obtain ⟨c1, c2⟩ := setObj_chg (o' := .map (ms.modify i fun e => { e with val := vx }).toArray x.2) h1
      refine ⟨_, ?_, R.change hσ hB (by simp) (by simp) c1 (fun o ho => ?_), c1.below hN, Nat.le_refl _⟩
      · unfold Instr.entryStore
        simp only [Sem.run_bind, MapKept.run_getObj_map h1, Result.andThen_ok, asInt, asIntOf, Sem.run_pure]
        have h5 : ms.toArray.findIdx? (fun e => ((e.born : Nat) : Int) == ((n' : Nat) : Int)) = some i := by simpa using h3
        simp only [h5]
        rw [MapKept.run_setObj_map _ h1]
        simp
      · rw [c2] at ho
        cases ho
        exact ⟨_, rfl, h4⟩
  · cases hc
/-- what calls what -/
theorem target_sound {f : V} {fx : Value} {args : List V} {axs : List Value} {g : Nat} {as : List V} (h : target f args = some (g, as)) (hf : Rep σ f fx) (ha : RepL σ args axs) (w : World) :
    ∃ d cap, (Deferred.ofValue fx axs.toArray).run P w = .ok d w ∧ d.target = .fn (.func g) cap ∧ RepL σ as (d.args ++ cap).toList := by
  unfold target at h
  split at h
  · rename_i f' first cap
    cases hf with
    | fn _ _ _ x y h1 h2 =>
      simp only [Option.some.injEq, Prod.mk.injEq] at h
      obtain ⟨rfl, rfl⟩ := h
      refine ⟨⟨.fn (.func f') y.toArray, x.toArray ++ axs.toArray⟩, y.toArray, rfl, rfl, ?_⟩
      have := (h1.append ha).append h2
      simpa using this
  · cases h
theorem map_arr (args : Array Operand) (ρ : Operand → Value) : args.map ρ = (args.toList.map ρ).toArray := by apply Array.toList_inj.1; simp
theorem run_u {s : Sem Unit} (h : s.run P w = .ok () w') : (do s; pure Next.skip : Sem Next).run P w = .ok .skip w' := by rw [Sem.run_bind, h]; rfl
theorem run_v2 {s : Sem Value} {r : Value} (h : s.run P w = .ok r w') : (do pure (Next.value (← s)) : Sem Next).run P w = .ok (.value r) w' := by rw [Sem.run_bind, h]; rfl
/-- what an operation that does something is to the model: a value, nothing, a call, a deferred call -/
def DoesNx (P : Program) (N : Nat) (σ : Mp) (h : Hp) (w : World) (r : Result Next) : Nx × Hp → Prop
  | (.val v, h') => ∃ x w', r = .ok (.value x) w' ∧ Does N σ h w v h' x w'
  | (.skip, h') => ∃ w', r = .ok .skip w' ∧ Rel N σ h' w' ∧ Below N w w' ∧ h.n ≤ h'.n
  | (.enter f as, h') => h' = h ∧ ∃ xs : List Value, RepL σ as xs ∧ r = (callFunc f xs.toArray).run P w
  | (.dfr f as, h') => h' = h ∧ ∃ d cap, r = .ok (.defer d) w ∧ d.target = .fn (.func f) cap ∧ RepL σ as (d.args ++ cap).toList
  | (.recover, _) => True
theorem methodV_sound (hE : EnvOK P E) {r : V} {rx : Value} {n : String} {args : List V} {axs : List Value} {f : Nat} {as : List V} (h : methodV E r n args = some (f, as)) (hr : Rep σ r rx) (ha : RepL σ args axs) (w : World) :
    ∃ xs : List Value, RepL σ as xs ∧ (callMethod rx n axs.toArray).run P w = (callFunc f xs.toArray).run P w := by
  unfold methodV at h
  split at h
  · rename_i t v
    cases hr with
    | iface _ _ x hx =>
      simp only [Option.bind_eq_some_iff] at h
      obtain ⟨i, hi, m, hm, h⟩ := h
      obtain ⟨d, inf, T⟩ := hE.is hi
      split at h
      · rename_i f' el hp hf hk
        simp only [Option.some.injEq, Prod.mk.injEq] at h
        obtain ⟨rfl, rfl⟩ := h
        rw [T.k] at hk
        obtain rfl := kOf_ptr hk.symm
        refine ⟨x :: axs, .cons _ _ _ _ hx ha, ?_⟩
        have hfind : ∀ l : List Method, findMeth n l = some m → l.find? (fun q => q.name == n) = some m := by
          intro l
          induction l with
          | nil => intro h; cases h
          | cons q r ih =>
            intro h
            rw [findMeth] at h
            cases hq : (q.name == n) with
            | true => rw [hq] at h; simpa [List.find?_cons, hq] using h
            | false => rw [hq] at h; simp only [List.find?_cons, hq]; exact ih h
        have hm2 : inf.methods.find? (fun q => q.name == n) = some m := by
          rw [← Array.find?_toList]
          rw [T.meths] at hm
          exact hfind _ hm
        have hpe : m.path = #[] := by apply Array.toList_inj.1; simpa using hp
        have hmeth : ∀ fuel, (method (fuel + 1) t x n).run P w = .ok (f', x) w := fun fuel => by
          unfold method
          rw [Sem.run_bind, run_typeInfo T.info, Result.andThen_ok]
          simp only [hm2, hp, follow, Sem.run_bind, Sem.run_pure, Result.andThen_ok, hf, receiverAt, run_underlying T.und, Place.get]
        unfold callMethod
        simp only [Sem.run_bind, run_program, Result.andThen_ok]
        have hpos : 0 < Made.depth := by decide
        obtain ⟨fuel, hfu⟩ : ∃ fuel, P.types.size + Made.depth = fuel + 1 := ⟨P.types.size + Made.depth - 1, by omega⟩
        have e : #[x] ++ axs.toArray = (x :: axs).toArray := by simp
        rw [hfu, hmeth, Result.andThen_ok, e]
      · cases h
  · cases h
/-- what does something -/
theorem eop_sound (hE : EnvOK P E) (R : Rel N σ h w) {o : Oper} {t : Tm} {ρ : Operand → Value} {nx : Nx × Hp} (hl : eop E t h o.op = some nx) (hρ : ∀ x ∈ o.op.operands, ∀ v, ev t x = some v → Rep σ v (ρ x)) :
    DoesNx P N σ h w ((execOp ρ o).run P w) nx := by
  obtain ⟨dst, op, type, pos, after, guard⟩ := o
  simp only at hl hρ
  cases op <;> simp only [eop] at hl <;> (try (cases hl; done)) <;> simp only [Op.operands] at hρ
  case assign x =>
    unfold rV at hl
    split at hl
    · rename_i v hv
      cases hl
      exact ⟨ρ x, w, rfl, .stay (hρ x (by simp) v hv) R (Below.refl _ _) (Nat.le_refl _)⟩
    · cases hl
  case store ty a x =>
    unfold eStore rU at hl
    split at hl
    · rename_i h' hs
      cases hl
      simp only [Option.bind_eq_some_iff] at hs
      obtain ⟨av, h1, xv, h2, hs⟩ := hs
      obtain ⟨w', h3, h4, h5⟩ := store_sound hE R hs (hρ a (by simp) av h1) (hρ x (by simp) xv h2)
      exact ⟨w', run_u h3, h4, h5, store_n hs⟩
    · cases hl
  case insert ty m k x =>
    unfold eMapUpdate rU at hl
    split at hl
    · rename_i h' hs
      cases hl
      simp only [Option.bind_eq_some_iff] at hs
      obtain ⟨mv, h1, kv, h2, xv, h3, hs⟩ := hs
      obtain ⟨w', h4, h5, h6⟩ := update_sound hE R hs (hρ m (by simp) mv h1) (hρ k (by simp) kv h2) (hρ x (by simp) xv h3)
      exact ⟨w', run_u h4, h5, h6⟩
    · cases hl
  case mapUpdate ty m k x =>
    unfold eMapUpdate rU at hl
    split at hl
    · rename_i h' hs
      cases hl
      simp only [Option.bind_eq_some_iff] at hs
      obtain ⟨mv, h1, kv, h2, xv, h3, hs⟩ := hs
      obtain ⟨w', h4, h5, h6⟩ := update_sound hE R hs (hρ m (by simp) mv h1) (hρ k (by simp) kv h2) (hρ x (by simp) xv h3)
      exact ⟨w', run_u h4, h5, h6⟩
    · cases hl
  case mapEntry ty m k =>
    unfold eMapEntry rVH at hl
    split at hl
    · rename_i v h' hs
      cases hl
      simp only [Option.bind_eq_some_iff] at hs
      obtain ⟨mv, h1, kv, h2, hs⟩ := hs
      obtain ⟨r, w', h4, h5⟩ := entry_sound hE R hs (hρ m (by simp) mv h1) (hρ k (by simp) kv h2)
      exact ⟨r, w', run_v2 h4, h5⟩
    · cases hl
  case entryStore ty m s x =>
    unfold eEntryStore rU at hl
    split at hl
    · rename_i h' hs
      cases hl
      simp only [Option.bind_eq_some_iff] at hs
      obtain ⟨mv, h1, kv, h2, xv, h3, hs⟩ := hs
      obtain ⟨w', h4, h5, h6⟩ := entryStore_sound (t := ty) R hs (hρ m (by simp) mv h1) (hρ s (by simp) kv h2) (hρ x (by simp) xv h3)
      exact ⟨w', run_u h4, h5, h6⟩
    · cases hl
  case call c =>
    obtain ⟨callee, args, ats⟩ := c
    simp only [eCall, Option.bind_eq_some_iff] at hl
    obtain ⟨vs, h1, hl⟩ := hl
    have hargs : ∀ x ∈ args.toList, ∀ v, ev t x = some v → Rep σ v (ρ x) := fun x hx => hρ x (by simp only [Call.operands]; simp at hx ⊢; simp [hx])
    have h2 := evs_rep hargs h1
    have he := map_arr args ρ
    cases callee with
    | value f =>
      simp only [Option.bind_eq_some_iff] at hl
      obtain ⟨fv, h3, ⟨g, as⟩, h4, hl⟩ := hl
      cases hl
      obtain ⟨d, cap, h5, h6, h7⟩ := target_sound (P := P) h4 (hρ f (by simp [Call.operands]) fv h3) h2 w
      refine ⟨rfl, _, h7, ?_⟩
      show (do let d ← resolve ρ ⟨.value f, args, ats⟩ type; invoke d.target d.args : Sem Next).run P w = _
      simp only [resolve]
      rw [he, Sem.run_bind, h5, Result.andThen_ok, h6]
      simp only [invoke, Array.toArray_toList]
    | invoke r n =>
      simp only [Option.bind_eq_some_iff] at hl
      obtain ⟨rv, h3, ⟨g, as⟩, h4, hl⟩ := hl
      cases hl
      obtain ⟨xs, h5, h6⟩ := methodV_sound hE h4 (hρ r (by simp [Call.operands]) rv h3) h2 w
      refine ⟨rfl, xs, h5, ?_⟩
      show (do let d ← resolve ρ ⟨.invoke r n, args, ats⟩ type; invoke d.target d.args : Sem Next).run P w = _
      simp only [resolve, Sem.run_bind, Sem.run_pure, Result.andThen_ok]
      rw [he, ← h6]
      simp only [invoke]
      have e1 : (#[ρ r] ++ (args.toList.map ρ).toArray)[0]? = some (ρ r) := by simp
      have e2 : (#[ρ r] ++ (args.toList.map ρ).toArray).extract 1 (#[ρ r] ++ (args.toList.map ρ).toArray).size = (args.toList.map ρ).toArray := by
        apply Array.toList_inj.1; simp; rw [List.take_of_length_le (by simp)]
      simp only [e1, e2]
    | builtin b =>
      change eBuiltin E h ats b vs = some nx at hl
      unfold eBuiltin at hl
      split at hl
      · rename_i x y
        unfold rVH at hl
        split at hl
        · rename_i v h' hs
          cases hl
          generalize hys : args.toList.map ρ = ys at h2 he
          cases h2 with
          | cons _ xx _ ys' hx h2 => cases h2 with
            | cons _ yx _ ys'' hy h2 => cases h2 with
              | nil =>
                obtain ⟨r, w', h4, h5⟩ := append_sound (ty := type) hE R hs hx hy
                refine ⟨r, w', ?_, h5⟩
                show (do let d ← resolve ρ ⟨.builtin .append, args, ats⟩ type; invoke d.target d.args : Sem Next).run P w = _
                simp only [resolve, Sem.run_bind, Sem.run_pure, Result.andThen_ok, invoke]
                rw [he]
                exact run_v2 h4
        · cases hl
      · rename_i x y
        unfold rVH at hl
        split at hl
        · rename_i v h' hs
          cases hl
          generalize hys : args.toList.map ρ = ys at h2 he
          cases h2 with
          | cons _ xx _ ys' hx h2 => cases h2 with
            | cons _ yx _ ys'' hy h2 => cases h2 with
              | nil =>
                obtain ⟨r, w', h4, h5⟩ := copy_sound (ty := type) hE R hs hx hy
                refine ⟨r, w', ?_, h5⟩
                show (do let d ← resolve ρ ⟨.builtin .copy, args, ats⟩ type; invoke d.target d.args : Sem Next).run P w = _
                simp only [resolve, Sem.run_bind, Sem.run_pure, Result.andThen_ok, invoke]
                rw [he]
                exact run_v2 h4
        · cases hl
      · cases hl; trivial
      · cases hl
  case defer c =>
    obtain ⟨callee, args, ats⟩ := c
    cases callee with
    | invoke r n => cases hl
    | builtin b => cases hl
    | value f =>
      simp only [eDefer, Option.bind_eq_some_iff] at hl
      obtain ⟨vs, h1, fv, h3, ⟨g, as⟩, h4, hl⟩ := hl
      cases hl
      have hargs : ∀ x ∈ args.toList, ∀ v, ev t x = some v → Rep σ v (ρ x) := fun x hx => hρ x (by simp only [Call.operands]; simp at hx ⊢; simp [hx])
      have h2 := evs_rep hargs h1
      have he := map_arr args ρ
      obtain ⟨d, cap, h5, h6, h7⟩ := target_sound (P := P) h4 (hρ f (by simp [Call.operands]) fv h3) h2 w
      refine ⟨rfl, d, cap, ?_, h6, h7⟩
      show (do pure (Next.defer (← resolve ρ ⟨.value f, args, ats⟩ type)) : Sem Next).run P w = _
      simp only [resolve]
      rw [he, Sem.run_bind, h5, Result.andThen_ok]
      rfl
end
end Go.Proofs.YtehbfpcfbpbllaaGreatDoor.VM
