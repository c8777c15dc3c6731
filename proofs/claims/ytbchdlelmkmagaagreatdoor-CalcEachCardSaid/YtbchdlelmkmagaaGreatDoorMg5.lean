/- VkM DpHeap DpLaw DpNeed DpOrd VkD CmVal CmMemo -/
import Derived.Lib.ItoaNum
import Derived.Test.YtbchdlelmkmagaaGreatDoorMg4
namespace Go.Proofs.YtbchdlelmkmagaaGreatDoor.VM
open Go
set_option linter.unusedVariables false
set_option linter.unusedSectionVars false
noncomputable section
attribute [local instance] syZ
variable {E : Env}
structure KeyOf (E : Env) (q : Nat) {K : Type} [DecidableEq K] (key : K → V) : Prop where
 out : ∃ j, E.ty.get q = some j ∧ ∀ a b, veqK j (key a) (key b) = some (decide (a = b))
def IsMap (E : Env) (t q e : Nat) : Prop := ∃ i, E.ty.get t = some i ∧ i.k = .map q e
theorem isMap {t q e : Nat} (h : (E.ty.get t).map (·.k) = some (.map q e)) : IsMap E t q e := by
 obtain ⟨i, h1, h2⟩ := Option.map_eq_some_iff.1 h; exact ⟨i, h1, h2⟩
section
variable {K : Type} [DecidableEq K] {key : K → V}
abbrev Es (K : Type) := List (K × V × Nat)
def esV (key : K → V) (es : Es K) : List (V × V × Nat) := es.map fun x => (key x.1, x.2.1, x.2.2)
def findE (k : K) : Es K → Nat → Option (Nat × V × Nat)
 | [], _ => none
 | (a, v, b) :: r, n => if k = a then some (n, v, b) else findE k r (n + 1)
theorem findM_es {q : Nat} {j : TI} (hk : ∀ a b, veqK j (key a) (key b) = some (decide (a = b))) (k : K) : ∀ (es : Es K) (n : Nat), findM j (key k) (esV key es) n = some (findE k es n)
 | [], n => rfl
 | (a, v, b) :: r, n => by
  show ((veqK j (key k) (key a)).bind fun c => bif c then some (some (n, v, b)) else findM j (key k) (esV key r) (n + 1)) = _
  rw [hk, Option.bind_some, findE]
  by_cases h : k = a
  ·rw [decide_eq_true h, if_pos h]; rfl
  ·rw [decide_eq_false h, if_neg h, cond_false, findM_es (q := q) hk k r (n + 1)]
def lookE (es : Es K) (k : K) : Option V := (findE k es 0).map (·.2.1)
theorem findE_val (k : K) : ∀ (es : Es K) (n m : Nat), (findE k es n).map (·.2.1) = (findE k es m).map (·.2.1)
 | [], n, m => rfl
 | (a, v, b) :: r, n, m => by
  rw [findE, findE]
  split
  ·rfl
  ·exact findE_val k r _ _
theorem lookE_cons (a : K) (v : V) (b : Nat) (r : Es K) (k : K) : lookE ((a, v, b) :: r) k = if k = a then some v else lookE r k := by
 unfold lookE
 rw [findE]
 split
 ·rfl
 ·exact findE_val k r _ _
theorem lookE_none {k : K} : ∀ {es : Es K}, lookE es k = none ↔ k ∉ es.map (·.1)
 | [] => by simp [lookE, findE]
 | (a, v, b) :: r => by
  rw [lookE_cons]
  split
  ·rename_i h; simp [h]
  ·rename_i h; rw [lookE_none (es := r)]; simp [h]
def updE (es : Es K) (k : K) (v : V) : Es K := es.map fun x => if x.1 = k then (x.1, v, x.2.2) else x
theorem updE_keys (es : Es K) (k : K) (v : V) : (updE es k v).map (·.1) = es.map (·.1) := by
 unfold updE
 rw [List.map_map]
 apply List.map_congr_left
 intro x _
 simp only [Function.comp]
 split <;> rfl
theorem updE_borns (es : Es K) (k : K) (v : V) : (updE es k v).map (·.2.2) = es.map (·.2.2) := by
 unfold updE
 rw [List.map_map]
 apply List.map_congr_left
 intro x _
 simp only [Function.comp]
 split <;> rfl
theorem updE_out {es : Es K} {k : K} (v : V) (h : k ∉ es.map (·.1)) : updE es k v = es := by
 unfold updE
 conv => rhs; rw [← List.map_id es]
 apply List.map_congr_left
 intro x hx
 have : x.1 ≠ k := fun e => h (e ▸ List.mem_map_of_mem hx)
 rw [if_neg this]
 rfl
theorem lookE_upd {k : K} {v : V} (k' : K) : ∀ {es : Es K}, k ∈ es.map (·.1) → lookE (updE es k v) k' = if k' = k then some v else lookE es k'
 | [], h => by cases h
 | (a, u, b) :: r, h => by
  have e : updE ((a, u, b) :: r) k v = (if a = k then (a, v, b) else (a, u, b)) :: updE r k v := by simp [updE]
  rw [e]
  by_cases hak : a = k
  ·rw [if_pos hak, lookE_cons, lookE_cons]
   by_cases h1 : k' = a
   ·rw [if_pos h1, if_pos (h1.trans hak)]
   ·rw [if_neg h1, if_neg (fun q => h1 (q.trans hak.symm))]
    by_cases hk : k ∈ r.map (·.1)
    ·rw [lookE_upd k' hk, if_neg (fun q => h1 (q.trans hak.symm)), if_neg h1]
    ·rw [updE_out v hk, if_neg h1]
  ·have hk : k ∈ r.map (·.1) := by
    simp only [List.map_cons, List.mem_cons] at h
    rcases h with h | h
    ·exact absurd h.symm hak
    ·exact h
   rw [if_neg hak, lookE_cons, lookE_cons, lookE_upd k' hk]
   by_cases h1 : k' = a
   ·rw [if_pos h1, if_pos h1, if_neg (fun q => hak (h1.symm.trans q))]
   ·rw [if_neg h1, if_neg h1]
theorem lookE_snoc {k : K} {v : V} {b : Nat} (k' : K) : ∀ {es : Es K}, k ∉ es.map (·.1) → lookE (es ++ [(k, v, b)]) k' = if k' = k then some v else lookE es k'
 | [], _ => by
  show lookE [(k, v, b)] k' = _
  rw [lookE_cons]
 | (a, u, c) :: r, h => by
  simp only [List.map_cons, List.mem_cons, not_or] at h
  rw [List.cons_append, lookE_cons, lookE_cons, lookE_snoc k' h.2]
  by_cases h1 : k' = a
  ·rw [if_pos h1, if_pos h1, if_neg (fun q => h.1 (q.symm.trans h1))]
  ·rw [if_neg h1, if_neg h1]
theorem setE_upd {k : K} (v : V) : ∀ {es : Es K} {n i : Nat} {u : V} {b : Nat}, (es.map (·.1)).Nodup → findE k es n = some (n + i, u, b) → setE (esV key es) i v = some (esV key (updE es k v))
 | [], n, i, u, b, _, h => by cases h
 | (a, w, c) :: r, n, i, u, b, hd, h => by
  have hd1 := List.nodup_cons.1 hd
  have e : updE ((a, w, c) :: r) k v = (if a = k then (a, v, c) else (a, w, c)) :: updE r k v := by simp [updE]
  rw [findE] at h
  by_cases hka : k = a
  ·rw [if_pos hka] at h
   simp only [Option.some.injEq, Prod.mk.injEq] at h
   have hi : i = 0 := by omega
   subst hi
   subst hka
   rw [e, if_pos rfl, updE_out v hd1.1]
   rfl
  ·rw [if_neg hka] at h
   have hpos : ∀ (r : Es K) (m : Nat) (p : Nat × V × Nat), findE k r m = some p → m ≤ p.1 := by
    intro r
    induction r with
    | nil => intro m p h; cases h
    | cons x r ih =>
     obtain ⟨x1, x2, x3⟩ := x
     intro m p h
     rw [findE] at h
     split at h
     ·cases h; exact Nat.le_refl _
     ·have := ih _ _ h; omega
   have := hpos r (n + 1) _ h
   simp only at this
   obtain ⟨i', rfl⟩ : ∃ i', i = i' + 1 := ⟨i - 1, by omega⟩
   have ih := setE_upd v (i := i') hd1.2 (by rw [h]; congr 2; omega)
   rw [e, if_neg (fun q => hka q.symm)]
   show ((setE (esV key r) i' v).bind fun l => some ((key a, w, c) :: l)) = _
   rw [ih]
   rfl
theorem setBorn_upd {k : K} (v : V) : ∀ {es : Es K} {n m : Nat} {u : V} {b : Nat}, (es.map (·.1)).Nodup → (es.map (·.2.2)).Nodup → findE k es n = some (m, u, b) → setBorn (esV key es) b v = some (esV key (updE es k v))
 | [], n, m, u, b, _, _, h => by cases h
 | (a, w, c) :: r, n, m, u, b, hd, hb, h => by
  have hd1 := List.nodup_cons.1 hd
  have hb1 := List.nodup_cons.1 hb
  have e : updE ((a, w, c) :: r) k v = (if a = k then (a, v, c) else (a, w, c)) :: updE r k v := by simp [updE]
  rw [findE] at h
  by_cases hka : k = a
  ·rw [if_pos hka] at h
   simp only [Option.some.injEq, Prod.mk.injEq] at h
   obtain ⟨_, _, rfl⟩ := h
   subst hka
   rw [e, if_pos rfl, updE_out v hd1.1]
   show (bif Nat.beq c c then some ((key k, v, c) :: esV key r) else _) = _
   rw [Nat.beq_refl]
   rfl
  ·rw [if_neg hka] at h
   have hmem : ∀ (r : Es K) (n : Nat) (p : Nat × V × Nat), findE k r n = some p → p.2.2 ∈ r.map (·.2.2) := by
    intro r
    induction r with
    | nil => intro n p h; cases h
    | cons x r ih =>
     obtain ⟨x1, x2, x3⟩ := x
     intro n p h
     rw [findE] at h
     split at h
     ·cases h; simp
     ·simp [ih _ _ h]
   have hcb : Nat.beq c b = false := by
    cases q : Nat.beq c b with
    | false => rfl
    | true =>
     have := Nat.eq_of_beq_eq_true q
     have h2 := hmem r _ _ h
     simp only at h2
     exact absurd (this ▸ h2) hb1.1
   rw [e, if_neg (fun q => hka q.symm)]
   show (bif Nat.beq c b then some ((key a, v, c) :: esV key r) else (setBorn (esV key r) b v).bind fun l => some ((key a, w, c) :: l)) = _
   rw [hcb, cond_false, setBorn_upd v hd1.2 hb1.2 h]
   rfl
structure MapIs (key : K → V) (h : Hp) (b : Nat) (f : K → Option V) (es : Es K) (c : Nat) : Prop where
 at_ : h.t.get b = some (.map (esV key es) c)
 keys : (es.map (·.1)).Nodup
 borns : (es.map (·.2.2)).Nodup
 lt : ∀ x ∈ es, x.2.2 < c
 look : ∀ k, lookE es k = f k
def MapFn (key : K → V) (h : Hp) (b : Nat) (f : K → Option V) : Prop := ∃ es c, MapIs key h b f es c
def updF (f : K → Option V) (k : K) (v : V) : K → Option V := fun y => if y = k then some v else f y
theorem MapFn.empty {h : Hp} {b : Nat} (hb : h.t.get b = some (.map [] 0)) : MapFn key h b fun _ => none := ⟨[], 0, hb, by simp, by simp, by simp, fun _ => rfl⟩
theorem MapFn.keep {h h' : Hp} {b : Nat} {f : K → Option V} (m : MapFn key h b f) (e : h'.t.get b = h.t.get b) : MapFn key h' b f := by
 obtain ⟨es, c, h1, h2, h3, h4, h5⟩ := m; exact ⟨es, c, e.trans h1, h2, h3, h4, h5⟩
theorem MapFn.congr {h : Hp} {b : Nat} {f g : K → Option V} (m : MapFn key h b f) (e : ∀ k, f k = g k) : MapFn key h b g := by
 obtain ⟨es, c, h1, h2, h3, h4, h5⟩ := m; exact ⟨es, c, h1, h2, h3, h4, fun k => (h5 k).trans (e k)⟩
theorem MapIs.find_some {h : Hp} {b : Nat} {f : K → Option V} {es : Es K} {c : Nat} (m : MapIs key h b f es c) {k : K} {v : V} (hf : f k = some v) : ∃ i n, findE k es 0 = some (i, v, n) := by
 have := m.look k
 rw [hf] at this
 unfold lookE at this
 obtain ⟨⟨i, u, n⟩, h1, h2⟩ := Option.map_eq_some_iff.1 this
 simp only at h2
 subst h2
 exact ⟨i, n, h1⟩
theorem MapIs.find_none {h : Hp} {b : Nat} {f : K → Option V} {es : Es K} {c : Nat} (m : MapIs key h b f es c) {k : K} (hf : f k = none) : findE k es 0 = none ∧ k ∉ es.map (·.1) := by
 have := m.look k
 rw [hf] at this
 refine ⟨?_, lookE_none.1 this⟩
 unfold lookE at this
 exact Option.map_eq_none_iff.1 this
theorem keyOK_of {j : TI} (hk : ∀ a b, veqK j (key a) (key b) = some (decide (a = b))) (k : K) : keyOK j (key k) = true := by unfold keyOK; rw [hk]; simp
theorem pu_look {h : Hp} {b t q e : Nat} (ht : IsMap E t q e) (hq : KeyOf E q key) {f : K → Option V} (m : MapFn key h b f) (k : K) {v : V} (hf : f k = some v) (qq : V → Prop) : (Pu E).look h t (.mp b) (key k) false qq ↔ qq v := by
 obtain ⟨i, h1, h2⟩ := ht
 obtain ⟨j, h3, h4⟩ := hq
 obtain ⟨es, c, m⟩ := m
 obtain ⟨p, n, h5⟩ := m.find_some hf
 have : vlookup E h t (.mp b) (key k) false = some v := by
  simp only [vlookup, h1, Option.bind_some, h2, h3, keyOK_of h4, cond_true, mapOf, m.at_, findM_es (q := q) h4, h5]
  rfl
 show (∃ u, vlookup E h t (.mp b) (key k) false = some u ∧ qq u) ↔ _
 rw [this, ex_some]
theorem pu_look_none {h : Hp} {b t q e : Nat} (ht : IsMap E t q e) (hq : KeyOf E q key) {f : K → Option V} (m : MapFn key h b f) (k : K) (hf : f k = none) {z : V} (hz : vzero E e = some z) (qq : V → Prop) : (Pu E).look h t (.mp b) (key k) false qq ↔ qq z := by
 obtain ⟨i, h1, h2⟩ := ht
 obtain ⟨j, h3, h4⟩ := hq
 obtain ⟨es, c, m⟩ := m
 have h5 := (m.find_none hf).1
 have : vlookup E h t (.mp b) (key k) false = some z := by
  simp only [vlookup, h1, Option.bind_some, h2, h3, keyOK_of h4, cond_true, mapOf, m.at_, findM_es (q := q) h4, h5, hz]
  rfl
 show (∃ u, vlookup E h t (.mp b) (key k) false = some u ∧ qq u) ↔ _
 rw [this, ex_some]
theorem pu_lookok {h : Hp} {b t q e : Nat} (ht : IsMap E t q e) (hq : KeyOf E q key) {f : K → Option V} (m : MapFn key h b f) (k : K) {v : V} (hf : f k = some v) (qq : V → Prop) : (Pu E).look h t (.mp b) (key k) true qq ↔ qq (.tup [v, .bool true]) := by
 obtain ⟨i, h1, h2⟩ := ht
 obtain ⟨j, h3, h4⟩ := hq
 obtain ⟨es, c, m⟩ := m
 obtain ⟨p, n, h5⟩ := m.find_some hf
 have : vlookup E h t (.mp b) (key k) true = some (.tup [v, .bool true]) := by
  simp only [vlookup, h1, Option.bind_some, h2, h3, keyOK_of h4, cond_true, mapOf, m.at_, findM_es (q := q) h4, h5]
 show (∃ u, vlookup E h t (.mp b) (key k) true = some u ∧ qq u) ↔ _
 rw [this, ex_some]
theorem pu_lookok_none {h : Hp} {b t q e : Nat} (ht : IsMap E t q e) (hq : KeyOf E q key) {f : K → Option V} (m : MapFn key h b f) (k : K) (hf : f k = none) {z : V} (hz : vzero E e = some z) (qq : V → Prop) : (Pu E).look h t (.mp b) (key k) true qq ↔ qq (.tup [z, .bool false]) := by
 obtain ⟨i, h1, h2⟩ := ht
 obtain ⟨j, h3, h4⟩ := hq
 obtain ⟨es, c, m⟩ := m
 have h5 := (m.find_none hf).1
 have : vlookup E h t (.mp b) (key k) true = some (.tup [z, .bool false]) := by
  simp only [vlookup, h1, Option.bind_some, h2, h3, keyOK_of h4, cond_true, mapOf, m.at_, findM_es (q := q) h4, h5, hz]
 show (∃ u, vlookup E h t (.mp b) (key k) true = some u ∧ qq u) ↔ _
 rw [this, ex_some]
theorem MapIs.upd {h h' : Hp} {b : Nat} {f : K → Option V} {es : Es K} {c : Nat} (m : MapIs key h b f es c) {k : K} {u : V} (hf : f k = some u) (v : V) (hb : h'.t.get b = some (.map (esV key (updE es k v)) c)) : MapFn key h' b (updF f k v) := by
 have hk : k ∈ es.map (·.1) := by
  by_cases hk : k ∈ es.map (·.1)
  ·exact hk
  ·have := lookE_none.2 hk; rw [m.look, hf] at this; cases this
 refine ⟨_, c, hb, by rw [updE_keys]; exact m.keys, by rw [updE_borns]; exact m.borns, fun x hx => ?_, fun y => ?_⟩
 ·have : x.2.2 ∈ (updE es k v).map (·.2.2) := List.mem_map_of_mem hx
  rw [updE_borns] at this
  obtain ⟨y, hy, e⟩ := List.mem_map.1 this
  rw [← e]; exact m.lt y hy
 ·rw [lookE_upd y hk, m.look]; rfl
theorem pu_mapu {h : Hp} {b t q e : Nat} (ht : IsMap E t q e) (hq : KeyOf E q key) {f : K → Option V} (m : MapFn key h b f) (k : K) (v : V) {qq : Hp → Prop}
  (hqq : ∀ h1 bl, Wr h h1 b bl → MapFn key h1 b (updF f k v) → qq h1) : (Pu E).mapu h t (.mp b) (key k) v qq := by
 obtain ⟨i, h1, h2⟩ := ht
 obtain ⟨j, h3, h4⟩ := hq
 obtain ⟨es, c, m⟩ := m
 cases hf : f k with
 | some u =>
  obtain ⟨p, n, h5⟩ := m.find_some hf
  have hs := setE_upd (key := key) v (i := p) m.keys (by rw [Nat.zero_add]; exact h5)
  refine ⟨h.set b (.map (esV key (updE es k v)) c), ?_, hqq _ _ ⟨by rw [Hp.get_set, if_pos rfl], rfl, fun d hd => by rw [Hp.get_set, if_neg hd]⟩ (m.upd hf v (by rw [Hp.get_set, if_pos rfl]))⟩
  simp only [vmapUpdate, h1, Option.bind_some, h2, h3, keyOK_of h4, cond_true, mapOf, m.at_, findM_es (q := q) h4, h5, hs]
 | none =>
  obtain ⟨h5, h6⟩ := m.find_none hf
  have e1 : esV key es ++ [(key k, v, c)] = esV key (es ++ [(k, v, c)]) := by simp [esV]
  refine ⟨h.set b (.map (esV key (es ++ [(k, v, c)])) (c + 1)), ?_, hqq _ _ ⟨by rw [Hp.get_set, if_pos rfl], rfl, fun d hd => by rw [Hp.get_set, if_neg hd]⟩ ⟨es ++ [(k, v, c)], c + 1, by rw [Hp.get_set, if_pos rfl], ?_, ?_, ?_, fun y => ?_⟩⟩
  ·simp only [vmapUpdate, h1, Option.bind_some, h2, h3, keyOK_of h4, cond_true, mapOf, m.at_, findM_es (q := q) h4, h5, e1]
  ·rw [List.map_append]
   refine List.nodup_append.2 ⟨m.keys, by simp, fun a ha d hd e => ?_⟩
   simp at hd; subst hd; subst e; exact h6 ha
  ·rw [List.map_append]
   refine List.nodup_append.2 ⟨m.borns, by simp, fun a ha d hd e => ?_⟩
   simp at hd; subst hd; subst e
   obtain ⟨x, hx, e2⟩ := List.mem_map.1 ha
   have := m.lt x hx; omega
  ·intro x hx
   rcases List.mem_append.1 hx with hx | hx
   ·have := m.lt x hx; omega
   ·simp at hx; subst hx; simp
  ·rw [lookE_snoc y h6, m.look]; rfl
theorem pu_mape {h : Hp} {b t q e : Nat} (ht : IsMap E t q e) (hq : KeyOf E q key) {f : K → Option V} (m : MapFn key h b f) (k : K) {v : V} (hf : f k = some v) :
  ∃ n : Nat, (∀ qq : V → Hp → Prop, (Pu E).mape h t (.mp b) (key k) qq ↔ qq (.tup [v, .int .i64 n]) h) ∧
   ∀ (x : V) (kd : IntKind) (qq : Hp → Prop), (∀ h1 bl, Wr h h1 b bl → MapFn key h1 b (updF f k x) → qq h1) → (Pu E).ests h (.mp b) (.int kd n) x qq := by
 obtain ⟨i, h1, h2⟩ := ht
 obtain ⟨j, h3, h4⟩ := hq
 obtain ⟨es, c, m⟩ := m
 obtain ⟨p, n, h5⟩ := m.find_some hf
 refine ⟨n, fun qq => ?_, fun x kd qq hqq => ?_⟩
 ·have : vmapEntry E h t (.mp b) (key k) = some (.tup [v, .int .i64 n], h) := by
   simp only [vmapEntry, h1, Option.bind_some, h2, h3, keyOK_of h4, cond_true, mapOf, m.at_, findM_es (q := q) h4, h5]
   rfl
  show (∃ r, vmapEntry E h t (.mp b) (key k) = some r ∧ qq r.1 r.2) ↔ _
  rw [this, ex_some]
 ·have hs := setBorn_upd (key := key) x m.keys m.borns h5
  refine ⟨h.set b (.map (esV key (updE es k x)) c), ?_, hqq _ _ ⟨by rw [Hp.get_set, if_pos rfl], rfl, fun d hd => by rw [Hp.get_set, if_neg hd]⟩ (m.upd hf x (by rw [Hp.get_set, if_pos rfl]))⟩
  simp only [ventryStore, natOf_nat, Option.bind_some, mapOf, m.at_, hs]
end
theorem keyOf3 {K : Type} [DecidableEq K] {q : Nat} {key : K → V} (s : K → List Nat) (r c : K → Nat) (hk : ∀ k, key k = .agg [.str (s k), .int .i64 (r k), .int .i64 (c k)]) (hi : ∀ a b, a = b ↔ s a = s b ∧ r a = r b ∧ c a = c b)
  (h : (E.ty.get q).map (fun j => (j.plain, (match j.k with | .struct _ => true | _ => false))) = some (some [.str, .int .i64, .int .i64], true)) : KeyOf E q key := by
 obtain ⟨j, h1, h2⟩ := Option.map_eq_some_iff.1 h
 simp only [Prod.mk.injEq] at h2
 obtain ⟨h3, h4⟩ := h2
 refine ⟨j, h1, fun a b => ?_⟩
 have e : veqK j (key a) (key b) = aeq j [.str (s a), .int .i64 (r a), .int .i64 (c a)] [.str (s b), .int .i64 (r b), .int .i64 (c b)] := by
  rw [hk, hk]
  unfold veqK
  split at h4 <;> first | (cases h4; done) | skip
  rename_i fs hfs
  rw [hfs]
 rw [e]
 unfold aeq
 rw [h3]
 simp only [Option.bind_some, leq, ceq, seq_dec, keq_refl, cond_true, ieq_dec]
 have e2 : decide (a = b) = (decide (s a = s b) && (decide (r a = r b) && decide (c a = c b))) := by
  rw [Bool.eq_iff_iff]; simp [hi a b]
 rw [e2]
 have e3 : ∀ x y : Nat, decide ((x : Int) = (y : Int)) = decide (x = y) := fun x y => by rw [decide_eq_decide]; omega
 rw [e3, e3]
 by_cases q1 : s a = s b <;> by_cases q2 : r a = r b <;> by_cases q3 : c a = c b <;> simp [q1, q2, q3]
end
end Go.Proofs.YtbchdlelmkmagaaGreatDoor.VM
namespace Go.Proofs.YtbchdlelmkmagaaGreatDoor.VM
open Go
set_option linter.unusedVariables false
theorem blt_self (x : Nat) : Nat.blt x x = false := by
 cases h : Nat.blt x x with
 | false => rfl
 | true => rw [Nat.blt_eq] at h; omega
theorem slt_irr : ∀ a : List Nat, slt a a = false
 | [] => rfl
 | x :: a => by simp [slt, slt_irr a, blt_self]
theorem slt_nil (a : List Nat) : slt a [] = false := by cases a <;> rfl
theorem slt_cons (x y : Nat) (a b : List Nat) : slt (x :: a) (y :: b) = true ↔ x < y ∨ x = y ∧ slt a b = true := by
 rw [slt]
 cases h : Nat.blt x y with
 | true => rw [Nat.blt_eq] at h; simp [h]
 | false =>
  have hxy : ¬ x < y := fun q => by rw [← Nat.blt_eq] at q; rw [q] at h; cases h
  cases hb : Nat.beq x y with
  | true => have := Nat.eq_of_beq_eq_true hb; subst this; simp
  | false =>
   have : x ≠ y := fun q => by subst q; simp at hb
   simp [hxy, this]
theorem slt_trans : ∀ {a b c : List Nat}, slt a b = true → slt b c = true → slt a c = true
 | _, [], _, h, _ => by rw [slt_nil] at h; cases h
 | _, _ :: _, [], _, h => by rw [slt_nil] at h; cases h
 | [], _ :: _, _ :: _, _, _ => rfl
 | x :: a, y :: b, z :: c, h, k => by
  rw [slt_cons] at h k ⊢
  rcases h with h | ⟨h, h2⟩ <;> rcases k with k | ⟨k, k2⟩
  ·exact .inl (by omega)
  ·exact .inl (by omega)
  ·exact .inl (by omega)
  ·exact .inr ⟨by omega, slt_trans h2 k2⟩
theorem slt_tri : ∀ a b : List Nat, slt a b = true ∨ a = b ∨ slt b a = true
 | [], [] => .inr (.inl rfl)
 | [], _ :: _ => .inl rfl
 | _ :: _, [] => .inr (.inr rfl)
 | x :: a, y :: b => by
  rw [slt_cons, slt_cons]
  rcases Nat.lt_trichotomy x y with h | h | h
  ·exact .inl (.inl h)
  ·subst h
   rcases slt_tri a b with h | h | h
   ·exact .inl (.inr ⟨rfl, h⟩)
   ·exact .inr (.inl (by rw [h]))
   ·exact .inr (.inr (.inr ⟨rfl, h⟩))
  ·exact .inr (.inr (.inl h))
theorem slt_asym {a b : List Nat} (h : slt a b = true) : slt b a = false := by
 cases k : slt b a with
 | false => rfl
 | true => have := slt_trans h k; rw [slt_irr] at this; cases this
structure Spt where
 s : List Nat
 r : Nat
 c : Nat
 deriving DecidableEq
def sp0 : Spt := ⟨[], 0, 0⟩
def spLt (a b : Spt) : Bool := slt a.s b.s || (decide (a.s = b.s) && (decide (a.r < b.r) || (decide (a.r = b.r) && decide (a.c < b.c))))
theorem spLt_iff (a b : Spt) : spLt a b = true ↔ slt a.s b.s = true ∨ a.s = b.s ∧ (a.r < b.r ∨ a.r = b.r ∧ a.c < b.c) := by simp [spLt]
theorem spLt_irr (a : Spt) : spLt a a = false := by
 cases h : spLt a a with
 | false => rfl
 | true =>
  rw [spLt_iff, slt_irr] at h
  rcases h with h | ⟨_, h⟩
  ·cases h
  ·omega
theorem spLt_trans {a b c : Spt} (h : spLt a b = true) (k : spLt b c = true) : spLt a c = true := by
 rw [spLt_iff] at h k ⊢
 rcases h with h | ⟨h, h2⟩ <;> rcases k with k | ⟨k, k2⟩
 ·exact .inl (slt_trans h k)
 ·exact .inl (by rw [← k]; exact h)
 ·exact .inl (by rw [h]; exact k)
 ·exact .inr ⟨h.trans k, by omega⟩
theorem spLt_tri (a b : Spt) : spLt a b = true ∨ a = b ∨ spLt b a = true := by
 rw [spLt_iff, spLt_iff]
 rcases slt_tri a.s b.s with h | h | h
 ·exact .inl (.inl h)
 ·rcases (by omega : a.r < b.r ∨ a.r = b.r ∨ b.r < a.r) with k | k | k
  ·exact .inl (.inr ⟨h, .inl k⟩)
  ·rcases (by omega : a.c < b.c ∨ a.c = b.c ∨ b.c < a.c) with q | q | q
   ·exact .inl (.inr ⟨h, .inr ⟨k, q⟩⟩)
   ·exact .inr (.inl (by obtain ⟨x, y, z⟩ := a; obtain ⟨u, v, w⟩ := b; simp only at h k q; rw [h, k, q]))
   ·exact .inr (.inr (.inr ⟨h.symm, .inr ⟨k.symm, q⟩⟩))
  ·exact .inr (.inr (.inr ⟨h.symm, .inl k⟩))
 ·exact .inr (.inr (.inl h))
theorem spLt_asym {a b : Spt} (h : spLt a b = true) : spLt b a = false := by
 cases k : spLt b a with
 | false => rfl
 | true => have := spLt_trans h k; rw [spLt_irr] at this; cases this
def lessL (L : List Spt) (i k : Nat) : Bool := spLt (L.getD i sp0) (L.getD k sp0)
def swapL (L : List Spt) (i k : Nat) : List Spt := (L.set i (L.getD k sp0)).set k (L.getD i sp0)
theorem swapL_len (L : List Spt) (i k : Nat) : (swapL L i k).length = L.length := by simp [swapL]
def upL (L : List Spt) (j : Nat) : List Spt :=
 if j = 0 then L else if lessL L j ((j - 1) / 2) = true then upL (swapL L ((j - 1) / 2) j) ((j - 1) / 2) else L
termination_by j
decreasing_by omega
def downJ (L : List Spt) (i n : Nat) : Nat := if 2 * i + 1 + 1 < n ∧ lessL L (2 * i + 1 + 1) (2 * i + 1) = true then 2 * i + 1 + 1 else 2 * i + 1
def downL (L : List Spt) (i n : Nat) : List Spt :=
 if n ≤ 2 * i + 1 then L else if lessL L (downJ L i n) i = true then downL (swapL L i (downJ L i n)) (downJ L i n) n else L
termination_by n - i
decreasing_by
 have : 2 * i + 1 ≤ downJ L i n := by unfold downJ; split <;> omega
 omega
theorem upL_len (L : List Spt) (j : Nat) : (upL L j).length = L.length := by
 induction j using Nat.strongRecOn generalizing L with
 | ind j ih =>
  rw [upL]
  split
  ·rfl
  ·split
   ·rw [ih _ (by omega), swapL_len]
   ·rfl
theorem downL_len (n : Nat) : ∀ (m : Nat) (L : List Spt) (i : Nat), n - i ≤ m → (downL L i n).length = L.length := by
 intro m
 induction m with
 | zero =>
  intro L i h
  rw [downL, if_pos (by omega)]
 | succ m ih =>
  intro L i h
  rw [downL]
  split
  ·rfl
  ·split
   ·have : 2 * i + 1 ≤ downJ L i n := by unfold downJ; split <;> omega
    rw [ih _ _ (by omega), swapL_len]
   ·rfl
theorem swapL_get {L : List Spt} {i k m : Nat} (h1 : m ≠ i) (h2 : m ≠ k) : (swapL L i k)[m]? = L[m]? := by
 unfold swapL
 rw [List.getElem?_set_ne (Ne.symm h2), List.getElem?_set_ne (Ne.symm h1)]
theorem downL_get' (n : Nat) : ∀ (f : Nat) (L : List Spt) (i : Nat), n - i ≤ f → i < n ∨ n ≤ 2 * i + 1 → (downL L i n)[n]? = L[n]? := by
 intro f
 induction f with
 | zero =>
  intro L i h _
  rw [downL, if_pos (by omega)]
 | succ f ih =>
  intro L i h h2
  rw [downL]
  split
  ·rfl
  ·rename_i hlt
   split
   ·have h3 : 2 * i + 1 ≤ downJ L i n := by unfold downJ; split <;> omega
    have h4 : downJ L i n < n := by
     unfold downJ
     split
     ·rename_i hh; exact hh.1
     ·omega
    rw [ih _ _ (by omega) (.inl h4), swapL_get (by omega) (by omega)]
   ·rfl
theorem downL_get (n : Nat) (L : List Spt) (i : Nat) (hi : i ≤ n) : (downL L i n)[n]? = L[n]? := downL_get' n (n - i) L i (Nat.le_refl _) (by omega)
theorem swap_last {L : List Spt} {n : Nat} {x : Spt} (hn : L.length - 1 = n) (h0 : 0 < L.length) (hx : L[0]? = some x) : (swapL L 0 n)[n]? = some x := by
 unfold swapL
 rw [List.getElem?_set_self (by rw [List.length_set]; omega)]
 obtain ⟨h, e⟩ := List.getElem?_eq_some_iff.1 hx
 simp [List.getD, hx]
theorem getD_some {L : List Spt} {i : Nat} (h : i < L.length) : L[i]? = some (L.getD i sp0) := by simp [List.getD, h]
def hpushL (L : List Spt) (x : Spt) : List Spt := upL (L ++ [x]) L.length
def hpopL (L : List Spt) : List Spt := (downL (swapL L 0 (L.length - 1)) 0 (L.length - 1)).take (L.length - 1)
def spLe (a b : Spt) : Prop := spLt b a = false
theorem spLe_of_not {a b : Spt} (h : ¬ spLt b a = true) : spLe a b := by unfold spLe; simpa using h
theorem spLe_of_lt {a b : Spt} (h : spLt a b = true) : spLe a b := spLt_asym h
theorem spLe.refl (a : Spt) : spLe a a := spLt_irr a
theorem spLe.cases {a b : Spt} (h : spLe a b) : a = b ∨ spLt a b = true := by
 rcases spLt_tri a b with k | k | k
 ·exact .inr k
 ·exact .inl k
 ·unfold spLe at h; rw [k] at h; cases h
theorem spLe.trans {a b c : Spt} (h : spLe a b) (k : spLe b c) : spLe a c := by
 rcases h.cases with rfl | h
 ·exact k
 ·rcases k.cases with rfl | k
  ·exact spLe_of_lt h
  ·exact spLe_of_lt (spLt_trans h k)
theorem lessL_iff {L : List Spt} {i k : Nat} : lessL L i k = true ↔ spLt (L.getD i sp0) (L.getD k sp0) = true := Iff.rfl
theorem lessL_not {L : List Spt} {i k : Nat} (h : ¬ lessL L i k = true) : spLe (L.getD k sp0) (L.getD i sp0) := spLe_of_not (fun h2 => h (lessL_iff.2 h2))
section
variable {L : List Spt} {i k m : Nat}
theorem swapD_l (hi : i < L.length) (hne : i ≠ k) : (swapL L i k).getD i sp0 = L.getD k sp0 := by
 unfold swapL
 simp [List.getD, hi, Ne.symm hne]
theorem swapD_r (hk : k < L.length) : (swapL L i k).getD k sp0 = L.getD i sp0 := by
 unfold swapL
 simp [List.getD, hk]
theorem swapD_o (h1 : m ≠ i) (h2 : m ≠ k) : (swapL L i k).getD m sp0 = L.getD m sp0 := by
 rw [List.getD_eq_getElem?_getD, List.getD_eq_getElem?_getD, swapL_get h1 h2]
theorem swap_perm (hi : i < L.length) (hk : k < L.length) : (swapL L i k).Perm L := by
 have h := Array.swap_perm (xs := L.toArray) (i := i) (j := k) (by simpa using hi) (by simpa using hk)
 have h2 := Array.perm_iff_toList_perm.1 h
 rw [Array.toList_swap] at h2
 simp only [List.getElem_toArray] at h2
 unfold swapL
 have e1 : L.getD k sp0 = L[k] := by simp [List.getD, hk]
 have e2 : L.getD i sp0 = L[i] := by simp [List.getD, hi]
 rw [e1, e2]
 exact h2
end
def Up (L : List Spt) (n : Nat) : Prop := ∀ k, 0 < k → k < n → spLe (L.getD ((k - 1) / 2) sp0) (L.getD k sp0)
theorem Up.first {L : List Spt} {n : Nat} (h : Up L n) : ∀ k, k < n → spLe (L.getD 0 sp0) (L.getD k sp0) := by
 intro k
 induction k using Nat.strongRecOn with
 | ind k ih =>
  intro hk
  by_cases h0 : k = 0
  ·subst h0; exact spLe.refl _
  ·exact (ih _ (by omega) (by omega)).trans (h k (by omega) hk)
theorem upL_heap : ∀ (j : Nat) (L : List Spt), j < L.length → (∀ k, 0 < k → k < L.length → k ≠ j → spLe (L.getD ((k - 1) / 2) sp0) (L.getD k sp0)) →
  (∀ k, 0 < k → k < L.length → (k - 1) / 2 = j → 0 < j → spLe (L.getD ((j - 1) / 2) sp0) (L.getD k sp0)) → Up (upL L j) L.length ∧ (upL L j).Perm L := by
 intro j
 induction j using Nat.strongRecOn with
 | ind j ih =>
  intro L hj h1 h2
  rw [upL]
  by_cases h0 : j = 0
  ·rw [if_pos h0]
   exact ⟨fun k hk hkl => h1 k hk hkl (by omega), List.Perm.refl _⟩
  ·rw [if_neg h0]
   obtain ⟨i, hi⟩ : ∃ i, (j - 1) / 2 = i := ⟨_, rfl⟩
   rw [hi]
   have hij : i < j := by omega
   by_cases hl : lessL L j i = true
   ·rw [if_pos hl]
    have hlt := spLe_of_lt (lessL_iff.1 hl)
    have hlen := swapL_len L i j
    have hr := ih i hij (swapL L i j) (by rw [hlen]; omega) (fun k hk hkl hki => ?_) (fun k hk hkl hpk hi0 => ?_)
    ·rw [hlen] at hr
     exact ⟨hr.1, hr.2.trans (swap_perm (by omega) hj)⟩
    ·rw [hlen] at hkl
     by_cases hkj : k = j
     ·subst hkj
      rw [hi, swapD_l (by omega) (by omega), swapD_r hj]
      exact hlt
     ·rw [swapD_o (m := k) hki hkj]
      by_cases hp1 : (k - 1) / 2 = i
      ·rw [hp1, swapD_l (by omega) (by omega)]
       have := h1 k hk hkl hkj
       rw [hp1] at this
       exact hlt.trans this
      ·by_cases hp2 : (k - 1) / 2 = j
       ·rw [hp2, swapD_r hj]
        have := h2 k hk hkl hp2 (by omega)
        rw [hi] at this
        exact this
       ·rw [swapD_o hp1 hp2]
        exact h1 k hk hkl hkj
    ·rw [hlen] at hkl
     rw [swapD_o (m := (i - 1) / 2) (by omega) (by omega)]
     have hpi := h1 i hi0 (by omega) (by omega)
     by_cases hkj : k = j
     ·subst hkj
      rw [swapD_r hj]
      exact hpi
     ·rw [swapD_o (m := k) (by omega) hkj]
      have := h1 k hk hkl hkj
      rw [hpk] at this
      exact hpi.trans this
   ·rw [if_neg hl]
    refine ⟨fun k hk hkl => ?_, List.Perm.refl _⟩
    by_cases hkj : k = j
    ·subst hkj
     rw [hi]
     exact lessL_not hl
    ·exact h1 k hk hkl hkj
theorem downJ_spec {L : List Spt} {i n : Nat} (h : ¬ n ≤ 2 * i + 1) : downJ L i n < n ∧ (downJ L i n - 1) / 2 = i ∧ i < downJ L i n ∧ ∀ k, 0 < k → k < n → (k - 1) / 2 = i → spLe (L.getD (downJ L i n) sp0) (L.getD k sp0) := by
 unfold downJ
 by_cases hc : 2 * i + 1 + 1 < n ∧ lessL L (2 * i + 1 + 1) (2 * i + 1) = true
 ·rw [if_pos hc]
  refine ⟨hc.1, by omega, by omega, fun k hk hkn hp => ?_⟩
  rcases (by omega : k = 2 * i + 1 + 1 ∨ k = 2 * i + 1) with rfl | rfl
  ·exact spLe.refl _
  ·exact spLe_of_lt (lessL_iff.1 hc.2)
 ·rw [if_neg hc]
  refine ⟨by omega, by omega, by omega, fun k hk hkn hp => ?_⟩
  rcases (by omega : k = 2 * i + 1 + 1 ∨ k = 2 * i + 1) with rfl | rfl
  ·exact lessL_not (fun h2 => hc ⟨hkn, h2⟩)
  ·exact spLe.refl _
theorem downL_heap (n : Nat) : ∀ (f : Nat) (L : List Spt) (i : Nat), n - i ≤ f → n ≤ L.length → (∀ k, 0 < k → k < n → (k - 1) / 2 ≠ i → spLe (L.getD ((k - 1) / 2) sp0) (L.getD k sp0)) →
  (∀ k, 0 < k → k < n → (k - 1) / 2 = i → 0 < i → spLe (L.getD ((i - 1) / 2) sp0) (L.getD k sp0)) → Up (downL L i n) n ∧ (downL L i n).Perm L := by
 intro f
 induction f with
 | zero =>
  intro L i hf hn h1 h2
  rw [downL, if_pos (by omega)]
  exact ⟨fun k hk hkn => h1 k hk hkn (by omega), List.Perm.refl _⟩
 | succ f ih =>
  intro L i hf hn h1 h2
  rw [downL]
  by_cases he : n ≤ 2 * i + 1
  ·rw [if_pos he]
   exact ⟨fun k hk hkn => h1 k hk hkn (by omega), List.Perm.refl _⟩
  ·rw [if_neg he]
   obtain ⟨hjn, hpj, hij, hmin⟩ := downJ_spec (L := L) he
   obtain ⟨j, hj⟩ : ∃ j, downJ L i n = j := ⟨_, rfl⟩
   rw [hj] at hjn hpj hij hmin ⊢
   by_cases hl : lessL L j i = true
   ·rw [if_pos hl]
    have hlt := spLe_of_lt (lessL_iff.1 hl)
    have hlen := swapL_len L i j
    have hr := ih (swapL L i j) j (by omega) (by omega) (fun k hk hkn hpk => ?_) (fun k hk hkn hpk hj0 => ?_)
    ·exact ⟨hr.1, hr.2.trans (swap_perm (by omega) (by omega))⟩
    ·by_cases hp : (k - 1) / 2 = i
     ·rw [hp, swapD_l (by omega) (by omega)]
      by_cases hkj : k = j
      ·subst hkj
       rw [swapD_r (by omega)]
       exact hlt
      ·rw [swapD_o (m := k) (by omega) hkj]
       exact hmin k hk hkn hp
     ·rw [swapD_o (m := (k - 1) / 2) hp hpk]
      by_cases hki : k = i
      ·subst hki
       rw [swapD_l (by omega) (by omega)]
       exact h2 j (by omega) hjn hpj hk
      ·have hkj : k ≠ j := fun e => hp (e ▸ hpj)
       rw [swapD_o (m := k) hki hkj]
       exact h1 k hk hkn hp
    ·rw [hpj, swapD_l (by omega) (by omega), swapD_o (m := k) (by omega) (by omega)]
     have := h1 k hk hkn (by omega)
     rw [hpk] at this
     exact this
   ·rw [if_neg hl]
    refine ⟨fun k hk hkn => ?_, List.Perm.refl _⟩
    by_cases hp : (k - 1) / 2 = i
    ·rw [hp]
     exact (lessL_not hl).trans (hmin k hk hkn hp)
    ·exact h1 k hk hkn hp
theorem hpush_heap {L : List Spt} (h : Up L L.length) (x : Spt) : Up (hpushL L x) (hpushL L x).length ∧ (hpushL L x).Perm (L ++ [x]) := by
 have hg : ∀ m, m < L.length → (L ++ [x]).getD m sp0 = L.getD m sp0 := fun m hm => by
  simp [List.getD, List.getElem?_append_left hm]
 have hr := upL_heap L.length (L ++ [x]) (by simp) (fun k hk hkl hne => by
  have hkl2 : k < L.length := by simp at hkl; omega
  rw [hg _ hkl2, hg _ (by omega)]
  exact h k hk hkl2) (fun k hk hkl hp hj => by simp at hkl; omega)
 have hlen : (hpushL L x).length = (L ++ [x]).length := upL_len _ _
 rw [hlen]
 exact hr
theorem hpop_heap {L : List Spt} (h : Up L L.length) {x : Spt} (hx : L[0]? = some x) : Up (hpopL L) (hpopL L).length ∧ (x :: hpopL L).Perm L ∧ ∀ y ∈ L, spLe x y := by
 have hl0 : 0 < L.length := (List.getElem?_eq_some_iff.1 hx).1
 obtain ⟨n, hn⟩ : ∃ n, L.length - 1 = n := ⟨_, rfl⟩
 have hlen := swapL_len L 0 n
 have hr := downL_heap n n (swapL L 0 n) 0 (by omega) (by omega) (fun k hk hkn hp => by
  rw [swapD_o (m := k) (by omega) (by omega), swapD_o (by omega) (by omega)]
  exact h k hk (by omega)) (fun k _ _ _ h0 => absurd h0 (by omega))
 have hdl : (downL (swapL L 0 n) 0 n).length = L.length := by rw [downL_len n n _ _ (by omega), hlen]
 have hlast : (downL (swapL L 0 n) 0 n)[n]? = some x := by rw [downL_get _ _ _ (Nat.zero_le _)]; exact swap_last hn hl0 hx
 have hpl : (hpopL L).length = n := by unfold hpopL; rw [hn, List.length_take, hdl]; omega
 refine ⟨?_, ?_, fun y hy => ?_⟩
 ·rw [hpl]
  intro k hk hkn
  have hg : ∀ m, m < n → (hpopL L).getD m sp0 = (downL (swapL L 0 n) 0 n).getD m sp0 := fun m hm => by
   unfold hpopL
   rw [hn]
   simp [List.getD, hm]
  rw [hg _ hkn, hg _ (by omega)]
  exact hr.1 k hk hkn
 ·have e : downL (swapL L 0 n) 0 n = hpopL L ++ [x] := by
   unfold hpopL
   rw [hn]
   conv => lhs; rw [← List.take_append_drop n (downL (swapL L 0 n) 0 n)]
   congr 1
   obtain ⟨hd, e1⟩ := List.getElem?_eq_some_iff.1 hlast
   rw [List.drop_eq_getElem_cons hd, e1]
   congr 1
   exact List.drop_eq_nil_of_le (by omega)
  have p1 : (hpopL L ++ [x]).Perm L := by rw [← e]; exact hr.2.trans (swap_perm hl0 (by omega))
  exact (List.perm_append_comm (l₁ := [x]) (l₂ := hpopL L)).trans p1
 ·obtain ⟨k, hk, e⟩ := List.mem_iff_getElem.1 hy
  have := h.first k hk
  have e0 : L.getD 0 sp0 = x := by simp [List.getD, hx]
  have ek : L.getD k sp0 = y := by simp [List.getD, hk, e]
  rw [e0, ek] at this
  exact this
end Go.Proofs.YtbchdlelmkmagaaGreatDoor.VM
namespace Go.Proofs.YtbchdlelmkmagaaGreatDoor.VM
open Go
set_option linter.unusedVariables false
def Ris (l : List Spt) : Prop := l.Pairwise fun a b => spLt a b = true
theorem Ris.nodup {l : List Spt} (h : Ris l) : l.Nodup := by
 refine List.Pairwise.imp (fun {a b} k e => ?_) h
 subst e; rw [spLt_irr] at k; cases k
theorem Ris.sub {l m : List Spt} (h : Ris l) (s : m.Sublist l) : Ris m := List.Pairwise.sublist s h
def waits (ns left : List Spt) : Bool := ns.any fun n => left.contains n
def pickR (nd : Spt → List Spt) (left : List Spt) : Option Spt := left.find? fun s => !waits (nd s) left
def orderR (nd : Spt → List Spt) : Nat → List Spt → List Spt × List Spt
 | 0, left => ([], left)
 | f + 1, left => match pickR nd left with
  | none => ([], left)
  | some s => (s :: (orderR nd f (left.erase s)).1, (orderR nd f (left.erase s)).2)
def usersR (nd : Spt → List Spt) (F : List Spt) (n : Spt) : List Spt := F.filter fun s => (nd s).contains n
def decC (c : Spt → Nat) (u : Spt) : Spt → Nat := fun y => if y = u then c u - 1 else c y
def relax : List Spt → (Spt → Nat) → List Spt → (Spt → Nat) × List Spt
 | [], c, q => (c, q)
 | u :: us, c, q => relax us (decC c u) (if decC c u u = 0 then hpushL q u else q)
theorem relax_snoc (us : List Spt) (u : Spt) : ∀ (c : Spt → Nat) (q : List Spt), relax (us ++ [u]) c q = (decC (relax us c q).1 u, if decC (relax us c q).1 u u = 0 then hpushL (relax us c q).2 u else (relax us c q).2) := by
 induction us with
 | nil => intro c q; rfl
 | cons x us ih => intro c q; exact ih _ _
theorem relax_ok : ∀ (us : List Spt) (c : Spt → Nat) (q : List Spt), us.Nodup → Up q q.length →
  (∀ y, (relax us c q).1 y = if y ∈ us then c y - 1 else c y) ∧ Up (relax us c q).2 (relax us c q).2.length ∧ (relax us c q).2.Perm (q ++ us.filter fun u => decide (c u - 1 = 0))
 | [], c, q, _, h => ⟨fun y => by simp [relax], h, by simp [relax]⟩
 | u :: us, c, q, hd, h => by
  have hd1 := (List.nodup_cons.1 hd).1
  have hd2 := (List.nodup_cons.1 hd).2
  have e : decC c u u = c u - 1 := by simp [decC]
  have hq : Up (if decC c u u = 0 then hpushL q u else q) (if decC c u u = 0 then hpushL q u else q).length := by
   split
   ·exact (hpush_heap h u).1
   ·exact h
  obtain ⟨h1, h2, h3⟩ := relax_ok us (decC c u) _ hd2 hq
  refine ⟨fun y => ?_, h2, ?_⟩
  ·rw [relax, h1]
   by_cases hy : y = u
   ·subst hy
    rw [if_neg hd1, if_pos (by simp), e]
   ·have : decC c u y = c y := by simp [decC, hy]
    simp [this, hy]
  ·rw [relax]
   refine h3.trans ?_
   have hf : us.filter (fun x => decide (decC c u x - 1 = 0)) = us.filter fun x => decide (c x - 1 = 0) := by
    apply List.filter_congr
    intro x hx
    have : x ≠ u := fun q => hd1 (q ▸ hx)
    simp [decC, this]
   rw [hf, e]
   by_cases hz : c u - 1 = 0
   ·rw [if_pos hz, List.filter_cons_of_pos (by simpa using hz)]
    refine ((hpush_heap h u).2.append_right _).trans ?_
    rw [List.append_assoc]
    exact List.Perm.refl _
   ·rw [if_neg hz, List.filter_cons_of_neg (by simpa using hz)]
def wantN (ns R : List Spt) : Nat := (ns.filter fun n => R.contains n).length
theorem filter_ne (p : Spt → Bool) (x : Spt) : ∀ (l : List Spt), l.Nodup → (l.filter fun n => decide (n ≠ x) && p n).length + (if x ∈ l ∧ p x = true then 1 else 0) = (l.filter p).length
 | [], _ => by simp
 | y :: l, hd => by
  have ih := filter_ne p x l (List.nodup_cons.1 hd).2
  have hy := (List.nodup_cons.1 hd).1
  by_cases hxy : y = x
  ·subst hxy
   rw [List.filter_cons_of_neg (by simp)]
   have h0 : ¬ (y ∈ l ∧ p y = true) := fun h => hy h.1
   rw [if_neg h0] at ih
   cases hp : p y with
   | true => rw [if_pos ⟨by simp, rfl⟩, List.filter_cons_of_pos hp, List.length_cons, ← ih]
   | false => rw [if_neg (by simp), List.filter_cons_of_neg (by simp [hp]), ← ih]
  ·have h1 : (x ∈ y :: l ∧ p x = true) ↔ (x ∈ l ∧ p x = true) := by
    have : x ≠ y := fun e => hxy e.symm
    simp [this]
   simp only [h1]
   cases hp : p y with
   | true => rw [List.filter_cons_of_pos (by simp [hxy, hp]), List.filter_cons_of_pos hp, List.length_cons, List.length_cons, ← ih]; omega
   | false => rw [List.filter_cons_of_neg (by simp [hp]), List.filter_cons_of_neg (by simp [hp]), ih]
theorem want_erase {ns R : List Spt} (hn : ns.Nodup) (hR : R.Nodup) {x : Spt} (hx : x ∈ R) : wantN ns (R.erase x) = if x ∈ ns then wantN ns R - 1 else wantN ns R := by
 have h := filter_ne (fun n => R.contains n) x ns hn
 have e : (ns.filter fun n => (R.erase x).contains n) = ns.filter fun n => decide (n ≠ x) && R.contains n := by
  apply List.filter_congr
  intro n _
  rw [Bool.eq_iff_iff]
  simp [hR.mem_erase_iff]
 unfold wantN
 rw [e]
 by_cases hxn : x ∈ ns
 ·rw [if_pos ⟨hxn, by simpa using hx⟩] at h
  rw [if_pos hxn]; omega
 ·rw [if_neg (fun q => hxn q.1)] at h
  rw [if_neg hxn]; omega
theorem want_zero {ns R : List Spt} : wantN ns R = 0 ↔ waits ns R = false := by
 unfold wantN waits
 rw [List.length_eq_zero_iff, List.filter_eq_nil_iff, List.any_eq_false]
theorem filter_sub : ∀ {R F : List Spt}, F.Nodup → R.Sublist F → (F.filter fun s => R.contains s) = R
 | _, [], _, h => by cases h; rfl
 | R, f :: F, hd, h => by
  have hd1 := (List.nodup_cons.1 hd).1
  have hd2 := (List.nodup_cons.1 hd).2
  cases h with
  | cons _ h =>
   have hf : f ∉ R := fun q => hd1 (h.mem q)
   rw [List.filter_cons_of_neg (by simpa using hf)]
   exact filter_sub hd2 h
  | cons_cons _ h =>
   rename_i R
   rw [List.filter_cons_of_pos (by simp)]
   congr 1
   have e : (F.filter fun s => (f :: R).contains s) = F.filter fun s => R.contains s := by
    apply List.filter_congr
    intro s hs
    have : s ≠ f := fun q => hd1 (q ▸ hs)
    simp [this]
   rw [e]
   exact filter_sub hd2 h
structure OInv (nd : Spt → List Spt) (F R : List Spt) (c : Spt → Nat) (q : List Spt) : Prop where
 sub : R.Sublist F
 ris : Ris F
 nod : ∀ s ∈ F, (nd s).Nodup
 cnt : ∀ s ∈ F, c s = wantN (nd s) R
 gone : ∀ s ∈ F, s ∉ R → c s = 0
 up : Up q q.length
 perm : q.Perm (R.filter fun s => decide (c s = 0))
theorem OInv.risR {nd : Spt → List Spt} {F R : List Spt} {c : Spt → Nat} {q : List Spt} (I : OInv nd F R c q) : Ris R := I.ris.sub I.sub
theorem OInv.filter {nd : Spt → List Spt} {F R : List Spt} {c : Spt → Nat} {q : List Spt} (I : OInv nd F R c q) : (R.filter fun s => decide (c s = 0)) = R.filter fun s => !waits (nd s) R := by
 apply List.filter_congr
 intro s hs
 have h := I.cnt s (I.sub.mem hs)
 rw [h, Bool.eq_iff_iff, decide_eq_true_iff, want_zero]
 simp
theorem OInv.pick {nd : Spt → List Spt} {F R : List Spt} {c : Spt → Nat} {q : List Spt} (I : OInv nd F R c q) {x : Spt} (hx : q[0]? = some x) : pickR nd R = some x ∧ x ∈ R ∧ c x = 0 := by
 have hm := (hpop_heap I.up hx).2.2
 have hxq : x ∈ q := List.mem_of_getElem? hx
 have hxf := I.perm.mem_iff.1 hxq
 have hall : ∀ y ∈ R.filter (fun s => decide (c s = 0)), spLe x y := fun y hy => hm y (I.perm.mem_iff.2 hy)
 have hx2 : x ∈ R ∧ c x = 0 := by simpa using hxf
 refine ⟨?_, hx2⟩
 unfold pickR
 rw [← List.head?_filter, ← I.filter]
 have hs : Ris (R.filter fun s => decide (c s = 0)) := I.risR.sub List.filter_sublist
 revert hxf hall hs
 generalize R.filter (fun s => decide (c s = 0)) = f
 intro hxf hall hs
 cases f with
 | nil => cases hxf
 | cons y t =>
  rcases List.mem_cons.1 hxf with rfl | hxt
  ·rfl
  ·have h1 := (List.pairwise_cons.1 hs).1 x hxt
   have h2 := hall y (by simp)
   unfold spLe at h2
   rw [h1] at h2
   cases h2
theorem OInv.step {nd : Spt → List Spt} {F R : List Spt} {c : Spt → Nat} {q : List Spt} (I : OInv nd F R c q) {x : Spt} (hx : q[0]? = some x) :
  OInv nd F (R.erase x) (relax (usersR nd F x) c (hpopL q)).1 (relax (usersR nd F x) c (hpopL q)).2 := by
 obtain ⟨_, hxR, hx0⟩ := I.pick hx
 obtain ⟨hu, hp, _⟩ := hpop_heap I.up hx
 have hRn := I.risR.nodup
 have hFn := I.ris.nodup
 have hun : (usersR nd F x).Nodup := hFn.filter _
 obtain ⟨h1, h2, h3⟩ := relax_ok (usersR nd F x) c (hpopL q) hun hu
 have hmem : ∀ u, u ∈ usersR nd F x ↔ u ∈ F ∧ x ∈ nd u := fun u => by unfold usersR; simp
 have huR : ∀ u ∈ usersR nd F x, u ∈ R ∧ u ≠ x ∧ 1 ≤ c u := fun u hu => by
  obtain ⟨h4, h5⟩ := (hmem u).1 hu
  have h6 : 1 ≤ c u := by
   rw [I.cnt u h4]
   unfold wantN
   have : x ∈ (nd u).filter fun n => R.contains n := by simp [h5, hxR]
   exact List.length_pos_of_mem this
  refine ⟨?_, fun e => ?_, h6⟩
  ·by_cases h7 : u ∈ R
   ·exact h7
   ·have := I.gone u h4 h7; omega
  ·subst e; omega
 have hcnt : ∀ s ∈ F, (relax (usersR nd F x) c (hpopL q)).1 s = wantN (nd s) (R.erase x) := fun s hs => by
  rw [h1, want_erase (I.nod s hs) hRn hxR, I.cnt s hs]
  by_cases h4 : x ∈ nd s
  ·rw [if_pos ((hmem s).2 ⟨hs, h4⟩), if_pos h4]
  ·rw [if_neg (fun h => h4 ((hmem s).1 h).2), if_neg h4]
 refine ⟨List.erase_sublist.trans I.sub, I.ris, I.nod, hcnt, fun s hs hsR => ?_, h2, ?_⟩
 ·rw [h1]
  rw [hRn.mem_erase_iff] at hsR
  by_cases hsx : s = x
  ·subst hsx
   split <;> omega
  ·have h4 : s ∉ R := fun h => hsR ⟨hsx, h⟩
   have := I.gone s hs h4
   split <;> omega
 ·
  refine h3.trans ?_
  have hqn : q.Nodup := I.perm.nodup_iff.2 (hRn.filter _)
  have hxn : (x :: hpopL q).Nodup := hp.nodup_iff.2 hqn
  have hx1 := (List.nodup_cons.1 hxn).1
  have hmq : ∀ a, a ∈ hpopL q ↔ a ≠ x ∧ a ∈ R ∧ c a = 0 := fun a => by
   have h4 : a ∈ q ↔ a = x ∨ a ∈ hpopL q := by rw [← hp.mem_iff, List.mem_cons]
   have h5 : a ∈ q ↔ a ∈ R ∧ c a = 0 := by rw [I.perm.mem_iff]; simp
   constructor
   ·intro h
    exact ⟨fun e => hx1 (e ▸ h), h5.1 (h4.2 (.inr h))⟩
   ·rintro ⟨h6, h7⟩
    rcases h4.1 (h5.2 h7) with h8 | h8
    ·exact absurd h8 h6
    ·exact h8
  refine (List.perm_ext_iff_of_nodup ?_ ?_).2 fun a => ?_
  ·refine List.nodup_append.2 ⟨(List.nodup_cons.1 hxn).2, hun.filter _, fun a ha b hb e => ?_⟩
   subst e
   have h4 := ((hmq a).1 ha).2.2
   have h5 := (huR a (List.mem_filter.1 hb).1).2.2
   omega
  ·exact (hRn.erase x).filter _
  ·rw [List.mem_append, hmq, List.mem_filter, List.mem_filter, hRn.mem_erase_iff, h1]
   simp only [decide_eq_true_iff]
   by_cases hau : a ∈ usersR nd F x
   ·obtain ⟨h4, h5, h6⟩ := huR a hau
    rw [if_pos hau]
    constructor
    ·rintro (⟨_, _, h7⟩ | ⟨_, h7⟩)
     ·omega
     ·exact ⟨⟨h5, h4⟩, h7⟩
    ·rintro ⟨_, h7⟩
     exact .inr ⟨hau, h7⟩
   ·rw [if_neg hau]
    constructor
    ·rintro (⟨h7, h8, h9⟩ | ⟨h7, _⟩)
     ·exact ⟨⟨h7, h8⟩, h9⟩
     ·exact absurd h7 hau
    ·rintro ⟨⟨h7, h8⟩, h9⟩
     exact .inl ⟨h7, h8, h9⟩
theorem OInv.stop {nd : Spt → List Spt} {F R : List Spt} {c : Spt → Nat} (I : OInv nd F R c []) : pickR nd R = none ∧ (F.filter fun s => decide (0 < c s)) = R := by
 have hnil : (R.filter fun s => decide (c s = 0)) = [] := List.Perm.eq_nil I.perm.symm
 refine ⟨?_, ?_⟩
 ·unfold pickR
  rw [← List.head?_filter, ← I.filter, hnil]
  rfl
 ·have hall : ∀ s ∈ R, 0 < c s := fun s hs => by
   have := List.filter_eq_nil_iff.1 hnil s hs
   simp only [decide_eq_true_iff] at this
   omega
  have e1 : (F.filter fun s => decide (0 < c s)) = F.filter fun s => R.contains s := by
   apply List.filter_congr
   intro s hs
   rw [Bool.eq_iff_iff, decide_eq_true_iff]
   simp only [List.contains_iff_mem]
   constructor
   ·intro h
    by_cases h2 : s ∈ R
    ·exact h2
    ·have := I.gone s hs h2; omega
   ·exact hall s
  rw [e1]
  exact filter_sub I.ris.nodup I.sub
theorem OInv.start {nd : Spt → List Spt} {F : List Spt} (hF : Ris F) (hn : ∀ s ∈ F, (nd s).Nodup) {q : List Spt} (hu : Up q q.length) (hp : q.Perm (F.filter fun s => decide (wantN (nd s) F = 0))) : OInv nd F F (fun s => wantN (nd s) F) q :=
 ⟨List.Sublist.refl _, hF, hn, fun _ _ => rfl, fun s hs h => absurd hs h, hu, hp⟩
theorem orderR_some {nd : Spt → List Spt} {f : Nat} {R : List Spt} {x : Spt} (h : pickR nd R = some x) : orderR nd (f + 1) R = (x :: (orderR nd f (R.erase x)).1, (orderR nd f (R.erase x)).2) := by rw [orderR, h]
theorem orderR_none {nd : Spt → List Spt} {f : Nat} {R : List Spt} (h : pickR nd R = none) : orderR nd f R = ([], R) := by
 cases f with
 | zero => rfl
 | succ f => rw [orderR, h]
theorem pickR_mem {nd : Spt → List Spt} {R : List Spt} {x : Spt} (h : pickR nd R = some x) : x ∈ R := List.mem_of_find?_eq_some h
theorem orderR_more {nd : Spt → List Spt} : ∀ (f g : Nat) (R : List Spt), R.length ≤ f → R.length ≤ g → orderR nd f R = orderR nd g R
 | 0, g, R, hf, _ => by
  have : R = [] := List.length_eq_zero_iff.1 (by omega)
  subst this
  rw [orderR_none (f := g) rfl]; rfl
 | f + 1, 0, R, _, hg => by
  have : R = [] := List.length_eq_zero_iff.1 (by omega)
  subst this
  rw [orderR_none (f := f + 1) rfl]; rfl
 | f + 1, g + 1, R, hf, hg => by
  cases h : pickR nd R with
  | none => rw [orderR_none h, orderR_none h]
  | some x =>
   have hx := pickR_mem h
   have hl := List.length_erase_of_mem hx
   have hp := List.length_pos_of_mem hx
   rw [orderR_some h, orderR_some h, orderR_more f g (R.erase x) (by omega) (by omega)]
end Go.Proofs.YtbchdlelmkmagaaGreatDoor.VM
namespace Go.Proofs.YtbchdlelmkmagaaGreatDoor.VM
open Go
set_option linter.unusedVariables false
theorem ris_ext : ∀ {l m : List Spt}, Ris l → Ris m → (∀ a, a ∈ l ↔ a ∈ m) → l = m
 | [], [], _, _, _ => rfl
 | [], b :: m, _, _, h => by have := (h b).2 (by simp); cases this
 | a :: l, [], _, _, h => by have := (h a).1 (by simp); cases this
 | a :: l, b :: m, hl, hm, h => by
  have h1 := List.pairwise_cons.1 hl
  have h2 := List.pairwise_cons.1 hm
  have hab : a = b := by
   rcases List.mem_cons.1 ((h a).1 (by simp)) with e | ha
   ·exact e
   ·rcases List.mem_cons.1 ((h b).2 (by simp)) with e | hb
    ·exact e.symm
    ·have k1 := h2.1 a ha
     have k2 := h1.1 b hb
     have := spLt_trans k1 k2
     rw [spLt_irr] at this; cases this
  subst hab
  congr 1
  refine ris_ext h1.2 h2.2 fun x => ?_
  have hx := h x
  simp only [List.mem_cons] at hx
  constructor
  ·intro k
   have : x ≠ a := fun e => by subst e; have := h1.1 x k; rw [spLt_irr] at this; cases this
   rcases hx.1 (.inr k) with e | e
   ·exact absurd e this
   ·exact e
  ·intro k
   have : x ≠ a := fun e => by subst e; have := h2.1 x k; rw [spLt_irr] at this; cases this
   rcases hx.2 (.inr k) with e | e
   ·exact absurd e this
   ·exact e
def compL : List Spt → List Spt
 | [] => []
 | [a] => [a]
 | a :: b :: l => if a = b then compL (b :: l) else a :: compL (b :: l)
theorem compL_mem : ∀ (l : List Spt) (x : Spt), x ∈ compL l ↔ x ∈ l
 | [], x => Iff.rfl
 | [a], x => Iff.rfl
 | a :: b :: l, x => by
  rw [compL]
  split
  ·rename_i h
   subst h
   rw [compL_mem (a :: l) x]
   simp
  ·rw [List.mem_cons, compL_mem (b :: l) x]
   simp
theorem compL_ris : ∀ (l : List Spt), l.Pairwise spLe → Ris (compL l)
 | [], _ => List.Pairwise.nil
 | [a], _ => List.pairwise_singleton _ _
 | a :: b :: l, h => by
  have h1 := List.pairwise_cons.1 h
  rw [compL]
  split
  ·exact compL_ris (b :: l) h1.2
  ·rename_i hab
   refine List.pairwise_cons.2 ⟨fun x hx => ?_, compL_ris (b :: l) h1.2⟩
   rw [compL_mem] at hx
   have hle := h1.1 x hx
   have hab2 := (h1.1 b (by simp)).cases
   rcases hab2 with e | hlt
   ·exact absurd e hab
   ·rcases List.mem_cons.1 hx with rfl | hx
    ·exact hlt
    ·have h3 := (List.pairwise_cons.1 h1.2).1 x hx
     rcases h3.cases with e | h3
     ·exact e ▸ hlt
     ·exact spLt_trans hlt h3
structure Sht where
 name : List Nat
 cols : Nat
 rows : List (List (List Nat))
abbrev Bok := List Sht
def rowSpots (nm : List Nat) (r : Nat) (row : List (List Nat)) : List Spt := (List.range row.length).map fun c => ⟨nm, r, c⟩
def rowsSpots (nm : List Nat) : Nat → List (List (List Nat)) → List Spt
 | _, [] => []
 | r, row :: rows => rowSpots nm r row ++ rowsSpots nm (r + 1) rows
def allSpots : Bok → List Spt
 | [] => []
 | s :: b => rowsSpots s.name 0 s.rows ++ allSpots b
theorem rowSpots_mem {nm : List Nat} {r : Nat} {row : List (List Nat)} {x : Spt} : x ∈ rowSpots nm r row ↔ x.s = nm ∧ x.r = r ∧ x.c < row.length := by
 unfold rowSpots
 rw [List.mem_map]
 constructor
 ·rintro ⟨c, hc, rfl⟩
  exact ⟨rfl, rfl, List.mem_range.1 hc⟩
 ·rintro ⟨h1, h2, h3⟩
  obtain ⟨a, b, c⟩ := x
  simp only at h1 h2 h3
  subst h1; subst h2
  exact ⟨c, List.mem_range.2 h3, rfl⟩
theorem rowsSpots_mem {nm : List Nat} {x : Spt} : ∀ {rows : List (List (List Nat))} {r : Nat}, x ∈ rowsSpots nm r rows ↔ x.s = nm ∧ r ≤ x.r ∧ ∃ row, rows[x.r - r]? = some row ∧ x.c < row.length
 | [], r => by simp [rowsSpots]
 | row :: rows, r => by
  rw [rowsSpots, List.mem_append, rowSpots_mem, rowsSpots_mem (rows := rows) (r := r + 1)]
  constructor
  ·rintro (⟨h1, h2, h3⟩ | ⟨h1, h2, row', h3, h4⟩)
   ·exact ⟨h1, by omega, row, by rw [show x.r - r = 0 by omega]; rfl, h3⟩
   ·exact ⟨h1, by omega, row', by rw [show x.r - r = (x.r - (r + 1)) + 1 by omega]; exact h3, h4⟩
  ·rintro ⟨h1, h2, row', h3, h4⟩
   by_cases he : x.r = r
   ·rw [show x.r - r = 0 by omega] at h3
    cases h3
    exact .inl ⟨h1, he, h4⟩
   ·rw [show x.r - r = (x.r - (r + 1)) + 1 by omega] at h3
    exact .inr ⟨h1, by omega, row', h3, h4⟩
theorem allSpots_mem {x : Spt} : ∀ {b : Bok}, x ∈ allSpots b ↔ ∃ s ∈ b, x.s = s.name ∧ ∃ row, s.rows[x.r]? = some row ∧ x.c < row.length
 | [] => by simp [allSpots]
 | s :: b => by
  rw [allSpots, List.mem_append, rowsSpots_mem, allSpots_mem (b := b)]
  simp only [List.mem_cons, Nat.sub_zero, Nat.zero_le, true_and]
  constructor
  ·rintro (h | ⟨t, h, k⟩)
   ·exact ⟨s, .inl rfl, h⟩
   ·exact ⟨t, .inr h, k⟩
  ·rintro ⟨t, rfl | h, k⟩
   ·exact .inl k
   ·exact .inr ⟨t, h, k⟩
def Rises (b : Bok) : Prop := b.Pairwise fun s t => slt s.name t.name = true
theorem rowSpots_ris (nm : List Nat) (r : Nat) (row : List (List Nat)) : Ris (rowSpots nm r row) := by
 unfold rowSpots Ris
 rw [List.pairwise_map]
 refine List.Pairwise.imp (fun {a b} h => ?_) List.pairwise_lt_range
 rw [spLt_iff]
 exact .inr ⟨rfl, .inr ⟨rfl, h⟩⟩
theorem rowsSpots_ris (nm : List Nat) : ∀ (rows : List (List (List Nat))) (r : Nat), Ris (rowsSpots nm r rows)
 | [], r => List.Pairwise.nil
 | row :: rows, r => by
  rw [rowsSpots]
  refine List.pairwise_append.2 ⟨rowSpots_ris nm r row, rowsSpots_ris nm rows (r + 1), fun a ha b hb => ?_⟩
  obtain ⟨h1, h2, _⟩ := rowSpots_mem.1 ha
  obtain ⟨h3, h4, _⟩ := rowsSpots_mem.1 hb
  rw [spLt_iff]
  exact .inr ⟨by rw [h1, h3], .inl (by omega)⟩
theorem allSpots_ris : ∀ {b : Bok}, Rises b → Ris (allSpots b)
 | [], _ => List.Pairwise.nil
 | s :: b, h => by
  have h1 := List.pairwise_cons.1 h
  rw [allSpots]
  refine List.pairwise_append.2 ⟨rowsSpots_ris _ _ _, allSpots_ris h1.2, fun a ha x hx => ?_⟩
  obtain ⟨h3, _⟩ := rowsSpots_mem.1 ha
  obtain ⟨t, ht, h4, _⟩ := allSpots_mem.1 hx
  rw [spLt_iff, h3, h4]
  exact .inl (h1.1 t ht)
structure Rct where
 s : List Nat
 r0 : Nat
 c0 : Nat
 r1 : Nat
 c1 : Nat
def Rct.has (k : Rct) (x : Spt) : Bool := decide (k.s = x.s) && decide (k.r0 ≤ x.r) && decide (x.r ≤ k.r1) && decide (k.c0 ≤ x.c) && decide (x.c ≤ k.c1)
def named (ks : List Rct) (x : Spt) : Bool := ks.any fun k => k.has x
def needsR (ks : List Rct) (b : Bok) : List Spt := (allSpots b).filter (named ks)
def findR (b : Bok) (nm : List Nat) : Option Sht := b.find? fun s => decide (s.name = nm)
def colsL (nm : List Nat) (r c0 c1 : Nat) : List Spt := (List.range (c1 - c0)).map fun i => ⟨nm, r, c0 + i⟩
def rowsL (k : Rct) (rows : List (List (List Nat))) : Nat → Nat → List Spt
 | 0, _ => []
 | n + 1, r => colsL k.s r k.c0 (min (k.c1 + 1) ((rows[r]?).getD []).length) ++ rowsL k rows n (r + 1)
def rectL (b : Bok) (k : Rct) : List Spt := match findR b k.s with
 | none => []
 | some s => rowsL k s.rows (min (k.r1 + 1) s.rows.length - k.r0) k.r0
theorem colsL_mem {nm : List Nat} {r c0 c1 : Nat} {x : Spt} : x ∈ colsL nm r c0 c1 ↔ x.s = nm ∧ x.r = r ∧ c0 ≤ x.c ∧ x.c < c1 := by
 unfold colsL
 rw [List.mem_map]
 constructor
 ·rintro ⟨i, hi, rfl⟩
  have := List.mem_range.1 hi
  exact ⟨rfl, rfl, by simp, by simp only; omega⟩
 ·rintro ⟨h1, h2, h3, h4⟩
  obtain ⟨a, b, c⟩ := x
  simp only at h1 h2 h3 h4
  subst h1; subst h2
  exact ⟨c - c0, List.mem_range.2 (by omega), by congr 1; omega⟩
theorem rowsL_mem {k : Rct} {rows : List (List (List Nat))} {x : Spt} : ∀ {n r : Nat}, x ∈ rowsL k rows n r ↔ x.s = k.s ∧ r ≤ x.r ∧ x.r < r + n ∧ k.c0 ≤ x.c ∧ x.c < min (k.c1 + 1) ((rows[x.r]?).getD []).length
 | 0, r => by
  simp only [rowsL, List.not_mem_nil, false_iff]
  rintro ⟨_, h1, h2, _⟩
  omega
 | n + 1, r => by
  rw [rowsL, List.mem_append, colsL_mem, rowsL_mem (n := n) (r := r + 1)]
  constructor
  ·rintro (⟨h1, h2, h3, h4⟩ | ⟨h1, h2, h3, h4⟩)
   ·subst h2; exact ⟨h1, by omega, by omega, h3, h4⟩
   ·exact ⟨h1, by omega, by omega, h4⟩
  ·rintro ⟨h1, h2, h3, h4, h5⟩
   by_cases he : x.r = r
   ·exact .inl ⟨h1, he, h4, he ▸ h5⟩
   ·exact .inr ⟨h1, by omega, by omega, h4, h5⟩
theorem findR_some {b : Bok} (hb : Rises b) {s : Sht} (hs : s ∈ b) : findR b s.name = some s := by
 induction b with
 | nil => cases hs
 | cons t b ih =>
  have h1 := List.pairwise_cons.1 hb
  unfold findR
  rw [List.find?_cons]
  rcases List.mem_cons.1 hs with rfl | hs
  ·simp
  ·have : t.name ≠ s.name := fun e => by
    have := h1.1 s hs
    rw [e, slt_irr] at this; cases this
   simp only [this, decide_false]
   exact ih h1.2 hs
theorem rectL_mem {b : Bok} (hb : Rises b) {k : Rct} {x : Spt} : x ∈ rectL b k ↔ k.has x = true ∧ x ∈ allSpots b := by
 have hh : k.has x = true ↔ k.s = x.s ∧ k.r0 ≤ x.r ∧ x.r ≤ k.r1 ∧ k.c0 ≤ x.c ∧ x.c ≤ k.c1 := by simp [Rct.has, and_assoc]
 rw [hh, allSpots_mem]
 unfold rectL
 cases hf : findR b k.s with
 | none =>
  simp only [List.not_mem_nil, false_iff]
  rintro ⟨⟨h1, _⟩, s, hs, h2, _⟩
  have := findR_some hb hs
  rw [← h2, ← h1, hf] at this
  cases this
 | some s =>
  have hs : s ∈ b := List.mem_of_find?_eq_some hf
  have hn : s.name = k.s := by have := List.find?_some hf; simpa using this
  simp only [rowsL_mem]
  constructor
  ·rintro ⟨h1, h2, h3, h4, h5⟩
   have hr : x.r < s.rows.length := by omega
   obtain ⟨row, hrow⟩ : ∃ row, s.rows[x.r]? = some row := ⟨_, List.getElem?_eq_getElem hr⟩
   rw [hrow] at h5
   simp only [Option.getD_some] at h5
   exact ⟨⟨h1.symm, h2, by omega, h4, by omega⟩, s, hs, by rw [h1, hn], row, hrow, by omega⟩
  ·rintro ⟨⟨h1, h2, h3, h4, h5⟩, t, ht, h6, row, h7, h8⟩
   have e : t = s := by
    have := findR_some hb ht
    rw [← h6, ← h1, hf] at this
    exact (Option.some.inj this).symm
   subst e
   have := (List.getElem?_eq_some_iff.1 h7).1
   rw [h7]
   simp only [Option.getD_some]
   exact ⟨h1.symm, h2, by omega, h4, by omega⟩
theorem needs_law {b : Bok} (hb : Rises b) (ks : List Rct) {l : List Spt} (hp : l.Perm (ks.flatMap (rectL b))) (hs : l.Pairwise spLe) : compL l = needsR ks b := by
 refine ris_ext (compL_ris l hs) ((allSpots_ris hb).sub List.filter_sublist) fun x => ?_
 rw [compL_mem, hp.mem_iff, List.mem_flatMap]
 unfold needsR named
 rw [List.mem_filter, List.any_eq_true]
 constructor
 ·rintro ⟨k, hk, hx⟩
  obtain ⟨h1, h2⟩ := (rectL_mem hb).1 hx
  exact ⟨h2, k, hk, h1⟩
 ·rintro ⟨h2, k, hk, h1⟩
  exact ⟨k, hk, (rectL_mem hb).2 ⟨h1, h2⟩⟩
theorem needsR_nodup {b : Bok} (hb : Rises b) (ks : List Rct) : (needsR ks b).Nodup := ((allSpots_ris hb).sub List.filter_sublist).nodup
theorem needsR_sub {b : Bok} {ks : List Rct} {x : Spt} (h : x ∈ needsR ks b) : x ∈ allSpots b := (List.mem_filter.1 h).1
end Go.Proofs.YtbchdlelmkmagaaGreatDoor.VM
namespace Go.Proofs.YtbchdlelmkmagaaGreatDoor.VM
open Go
set_option linter.unusedVariables false
section
variable {nd : Spt → List Spt}
theorem orderR_perm : ∀ (f : Nat) (R : List Spt), R.length ≤ f → ((orderR nd f R).1 ++ (orderR nd f R).2).Perm R
 | 0, R, _ => by simp [orderR]
 | f + 1, R, hf => by
  cases h : pickR nd R with
  | none => rw [orderR_none h]; simp
  | some x =>
   have hx := pickR_mem h
   have hl := List.length_erase_of_mem hx
   have hp := List.length_pos_of_mem hx
   rw [orderR_some h]
   simp only [List.cons_append]
   exact ((orderR_perm f (R.erase x) (by omega)).cons x).trans (List.perm_cons_erase hx).symm
theorem orderR_pre : ∀ (f : Nat) (R : List Spt) (i : Nat) (s : Spt), (orderR nd f R).1[i]? = some s → ∀ n ∈ nd s, n ∈ R → n ∈ (orderR nd f R).1.take i
 | 0, R, i, s, hs, n, _, _ => by simp [orderR] at hs
 | f + 1, R, i, s, hs, n, hn, hnR => by
  cases h : pickR nd R with
  | none => rw [orderR_none h] at hs; simp at hs
  | some x =>
   rw [orderR_some h] at hs ⊢
   cases i with
   | zero =>
    simp only [List.getElem?_cons_zero, Option.some.injEq] at hs
    subst hs
    have := List.find?_some h
    simp only [Bool.not_eq_true'] at this
    unfold waits at this
    rw [List.any_eq_false] at this
    exact absurd (by simpa using hnR) (this n hn)
   | succ i =>
    simp only [List.getElem?_cons_succ] at hs
    rw [List.take_succ_cons, List.mem_cons]
    by_cases e : n = x
    ·exact .inl e
    ·exact .inr (orderR_pre f (R.erase x) i s hs n hn ((List.mem_erase_of_ne e).2 hnR))
def atR : List Spt → Spt → Nat → Option Nat
 | [], _, _ => none
 | a :: l, s, i => if a = s then some i else atR l s (i + 1)
end
end Go.Proofs.YtbchdlelmkmagaaGreatDoor.VM
namespace Go.Proofs.YtbchdlelmkmagaaGreatDoor.VM
open Go
set_option linter.unusedVariables false
set_option linter.unusedSimpArgs false
noncomputable section
attribute [local instance] syZ
variable {E : Env}
theorem rdCells_out {h : Hp} {b : Nat} {vs : List V} (hb : rdCells h b = some vs) : ∃ e ro, h.t.get b = some (.cells vs e ro) := by
 unfold rdCells at hb
 split at hb
 ·rename_i us e ro heq
  cases hb
  exact ⟨e, ro, heq⟩
 ·cases hb
theorem rd_get1 {h : Hp} {v : V} {len : Nat} {cs : List V} (r : Rd h 1 v len cs) {t e : TypeId} (ht : IsSl E t e) {z : List V} (he : El E e 1 z false) {i : Nat} {x : V} (hx : cs[i]? = some x) :
  ∃ b o, (∀ (k : IntKind) (q : V → Prop), (Pu E).iaddr t v (.int k i) q ↔ q (.ptr b o)) ∧ (∀ q : V → Prop, (Pu E).load h e (.ptr b o) q ↔ q x) ∧ blkOf v = some b := by
 have hi : i < len := by have := (List.getElem?_eq_some_iff.1 hx).1; have := r.sized; omega
 obtain ⟨b, o, h0, h1, h2, _⟩ := rd_at r ht he (fun _ => rfl) (by omega) hi
 refine ⟨b, o, h1, fun q => (h2 q).trans ?_, h0⟩
 unfold elemAt
 rw [hx]
 rfl
theorem rd_getS {h : Hp} {sz : Nat} {v : V} {len : Nat} {cs : List V} (r : Rd h sz v len cs) {t e : TypeId} (ht : IsSl E t e) {z : List V} (he : El E e sz z true) (hpos : 0 < sz) {i : Nat} (hi : i < len) {l : List V} (hl : (cs.drop (i * sz)).take sz = l) :
  ∃ b o, (∀ (k : IntKind) (q : V → Prop), (Pu E).iaddr t v (.int k i) q ↔ q (.ptr b o)) ∧ (∀ q : V → Prop, (Pu E).load h e (.ptr b o) q ↔ q (.agg l)) ∧ blkOf v = some b ∧
   ∃ vs f ro, h.t.get b = some (.cells vs f ro) ∧ sub vs o sz = some l ∧ ∀ (k : Nat) (x : V), l[k]? = some x → vs[o + k]? = some x := by
 obtain ⟨b, o, h0, h1, h2, vs, h3, h4, h5⟩ := rd_at r ht he (fun e => by cases e) hpos hi
 obtain ⟨f, ro, h6⟩ := rdCells_out h3
 subst hl
 refine ⟨b, o, h1, fun q => (h2 q).trans ?_, h0, vs, f, ro, h6, ?_, fun k x hx => ?_⟩
 ·unfold elemAt
  rw [if_pos rfl]
 ·unfold sub
  have : ((cs.drop (i * sz)).take sz).length = sz := by
   rw [← h4]
   simp only [List.length_take, List.length_drop]
   omega
  simp only [h4, this, Nat.beq_refl, cond_true]
 ·rw [← h4, List.getElem?_take] at hx
  split at hx
  ·rw [← hx, List.getElem?_drop]
  ·cases hx
theorem Rd.nil (h : Hp) (sz : Nat) : Rd h sz .nils 0 [] := ⟨by simp, .inl ⟨.inl rfl, rfl⟩⟩
def spC (s : Spt) : List V := [.str s.s, .int .i64 s.r, .int .i64 s.c]
def spV (s : Spt) : V := .agg (spC s)
def spCs (l : List Spt) : List V := l.flatMap spC
theorem spCs_len (l : List Spt) : (spCs l).length = l.length * 3 := by
 unfold spCs
 induction l with
 | nil => rfl
 | cons a l ih => rw [List.flatMap_cons, List.length_append, ih]; simp [spC]; omega
theorem spCs_app (l m : List Spt) : spCs (l ++ m) = spCs l ++ spCs m := by simp [spCs]
theorem spCs_cells (l : List Spt) : allCells (spCs l) = true := by
 unfold spCs
 induction l with
 | nil => rfl
 | cons a l ih => rw [List.flatMap_cons]; simpa [spC, allCells, V.isCell] using ih
theorem spCs_at : ∀ (l : List Spt) (i : Nat) (s : Spt), l[i]? = some s → ((spCs l).drop (i * 3)).take 3 = spC s
 | [], i, s, h => by simp at h
 | a :: l, 0, s, h => by
  simp only [List.getElem?_cons_zero, Option.some.injEq] at h
  subst h
  simp [spCs, spC]
 | a :: l, i + 1, s, h => by
  simp only [List.getElem?_cons_succ] at h
  have := spCs_at l i s h
  have e : (spCs (a :: l)).drop ((i + 1) * 3) = (spCs l).drop (i * 3) := by
   have : (i + 1) * 3 = 3 + i * 3 := by omega
   rw [this]
   unfold spCs
   rw [List.flatMap_cons, ← List.drop_drop]
   congr 1
  rw [e, this]
def Sps (h : Hp) (v : V) (l : List Spt) : Prop := Rd h 3 v l.length (spCs l)
theorem Sps.ext {N : Nat} {h h' : Hp} {v : V} {l : List Spt} (s : Sps h v l) (x : Ext N h h') (hi : In N v) : Sps h' v l := Rd.ext s x hi
theorem sps_get {h : Hp} {v : V} {l : List Spt} (s : Sps h v l) {t e : TypeId} (ht : IsSl E t e) {z : List V} (he : El E e 3 z true) {i : Nat} {x : Spt} (hx : l[i]? = some x) :
  ∃ b o, (∀ (k : IntKind) (q : V → Prop), (Pu E).iaddr t v (.int k i) q ↔ q (.ptr b o)) ∧ (∀ q : V → Prop, (Pu E).load h e (.ptr b o) q ↔ q (spV x)) ∧ blkOf v = some b ∧
   ∃ vs f ro, h.t.get b = some (.cells vs f ro) ∧ sub vs o 3 = some (spC x) ∧ ∀ (k : Nat) (y : V), (spC x)[k]? = some y → vs[o + k]? = some y :=
 rd_getS s ht he (by omega) (List.getElem?_eq_some_iff.1 hx).1 (spCs_at l i x hx)
def RowAt (N : Nat) (h : Hp) (v : V) (r : List (List Nat)) : Prop := Rd h 1 v r.length (r.map V.str) ∧ In N v
def RowsAt (N : Nat) (h : Hp) (v : V) (rs : List (List (List Nat))) : Prop := ∃ vs : List V, Rd h 1 v rs.length vs ∧ In N v ∧ ∀ (i : Nat) (r : List (List Nat)), rs[i]? = some r → ∃ w, vs[i]? = some w ∧ RowAt N h w r
def shtC (s : Sht) (rv : V) : List V := [.str s.name, .int .i64 s.cols, rv]
def ShsAt (N : Nat) (h : Hp) (v : V) (b : Bok) : Prop := ∃ cs : List V, Rd h 3 v b.length cs ∧ In N v ∧ ∀ (i : Nat) (s : Sht), b[i]? = some s → ∃ rv, (cs.drop (i * 3)).take 3 = shtC s rv ∧ RowsAt N h rv s.rows
def BokAt (N : Nat) (h : Hp) (v : V) (b : Bok) : Prop := ∃ sv, v = .agg [sv] ∧ ShsAt N h sv b
section
variable {N : Nat} {h h' : Hp}
theorem RowAt.ext {v : V} {r : List (List Nat)} (a : RowAt N h v r) (x : Ext N h h') : RowAt N h' v r := ⟨a.1.ext x a.2, a.2⟩
theorem RowsAt.ext {v : V} {rs : List (List (List Nat))} (a : RowsAt N h v rs) (x : Ext N h h') : RowsAt N h' v rs := by
 obtain ⟨vs, h1, h2, h3⟩ := a
 exact ⟨vs, h1.ext x h2, h2, fun i r hr => by obtain ⟨w, h4, h5⟩ := h3 i r hr; exact ⟨w, h4, h5.ext x⟩⟩
theorem ShsAt.ext {v : V} {b : Bok} (a : ShsAt N h v b) (x : Ext N h h') : ShsAt N h' v b := by
 obtain ⟨cs, h1, h2, h3⟩ := a
 exact ⟨cs, h1.ext x h2, h2, fun i s hs => by obtain ⟨rv, h4, h5⟩ := h3 i s hs; exact ⟨rv, h4, h5.ext x⟩⟩
theorem BokAt.ext {v : V} {b : Bok} (a : BokAt N h v b) (x : Ext N h h') : BokAt N h' v b := by
 obtain ⟨sv, h1, h2⟩ := a; exact ⟨sv, h1, h2.ext x⟩
theorem ShsAt.rd {v : V} {b : Bok} (a : ShsAt N h v b) : ∃ cs, Rd h 3 v b.length cs := by obtain ⟨cs, h1, _⟩ := a; exact ⟨cs, h1⟩
theorem RowsAt.rd {v : V} {rs : List (List (List Nat))} (a : RowsAt N h v rs) : ∃ vs, Rd h 1 v rs.length vs := by obtain ⟨cs, h1, _⟩ := a; exact ⟨cs, h1⟩
theorem row_get {v : V} {r : List (List Nat)} (a : RowAt N h v r) {t e : TypeId} (ht : IsSl E t e) {z : List V} (he : El E e 1 z false) {i : Nat} {s : List Nat} (hs : r[i]? = some s) :
  ∃ b o, (∀ (k : IntKind) (q : V → Prop), (Pu E).iaddr t v (.int k i) q ↔ q (.ptr b o)) ∧ (∀ q : V → Prop, (Pu E).load h e (.ptr b o) q ↔ q (.str s)) := by
 obtain ⟨b, o, h1, h2, _⟩ := rd_get1 a.1 ht he (i := i) (x := .str s) (by rw [List.getElem?_map, hs]; rfl)
 exact ⟨b, o, h1, h2⟩
theorem rows_get {v : V} {rs : List (List (List Nat))} (a : RowsAt N h v rs) {t e : TypeId} (ht : IsSl E t e) {z : List V} (he : El E e 1 z false) {i : Nat} {r : List (List Nat)} (hr : rs[i]? = some r) :
  ∃ b o w, (∀ (k : IntKind) (q : V → Prop), (Pu E).iaddr t v (.int k i) q ↔ q (.ptr b o)) ∧ (∀ q : V → Prop, (Pu E).load h e (.ptr b o) q ↔ q w) ∧ RowAt N h w r := by
 obtain ⟨vs, h1, h2, h3⟩ := a
 obtain ⟨w, h4, h5⟩ := h3 i r hr
 obtain ⟨b, o, h6, h7, _⟩ := rd_get1 h1 ht he h4
 exact ⟨b, o, w, h6, h7, h5⟩
theorem sht_get {v : V} {b : Bok} (a : ShsAt N h v b) {t e : TypeId} (ht : IsSl E t e) {z : List V} (he : El E e 3 z true) {i : Nat} {s : Sht} (hs : b[i]? = some s) :
  ∃ b o rv, (∀ (k : IntKind) (q : V → Prop), (Pu E).iaddr t v (.int k i) q ↔ q (.ptr b o)) ∧ (∀ q : V → Prop, (Pu E).load h e (.ptr b o) q ↔ q (.agg (shtC s rv))) ∧ RowsAt N h rv s.rows ∧
   ∃ vs f ro, h.t.get b = some (.cells vs f ro) ∧ ∀ (k : Nat) (x : V), (shtC s rv)[k]? = some x → vs[o + k]? = some x := by
 obtain ⟨cs, h1, h2, h3⟩ := a
 obtain ⟨rv, h4, h5⟩ := h3 i s hs
 obtain ⟨b, o, h6, h7, _, vs, f, ro, h8, _, h9⟩ := rd_getS h1 ht he (by omega) (List.getElem?_eq_some_iff.1 hs).1 h4
 exact ⟨b, o, rv, h6, h7, h5, vs, f, ro, h8, h9⟩
end
end
end Go.Proofs.YtbchdlelmkmagaaGreatDoor.VM
namespace Go.Proofs.YtbchdlelmkmagaaGreatDoor.VM
open Go
set_option linter.unusedVariables false
noncomputable section
structure Vl where
 k : Nat
 n : Int
 s : List Nat
 deriving DecidableEq
def vl0 : Vl := ⟨0, 0, []⟩
def vlN (n : Int) : Vl := ⟨1, n, []⟩
def vlE (e : Nat) : Vl := ⟨4, e, []⟩
def vlB (b : Bool) : Vl := ⟨3, if b then 1 else 0, []⟩
def vlT (s : List Nat) : Vl := if s.length ≤ 200 then ⟨2, 0, s⟩ else vlE 1
def Fit64 (z : Int) : Prop := -9223372036854775808 ≤ z ∧ z ≤ 9223372036854775807
instance (z : Int) : Decidable (Fit64 z) := by unfold Fit64; infer_instance
structure MayV (v : Vl) : Prop where
 k : v.k ≤ 4
 s : v.k ≠ 2 → v.s = []
 n : v.k ≠ 1 → v.k ≠ 4 → v.k ≠ 3 → v.n = 0
 b : v.k = 3 → v.n = 0 ∨ v.n = 1
 e : v.k = 4 → 1 ≤ v.n ∧ v.n ≤ 6
 f : Fit64 v.n
 l : v.s.length ≤ 200
 c : ∀ x ∈ v.s, x < 256
def intV (v : Vl) : Option Int := if v.k ≤ 1 then some v.n else none
def truthV (v : Vl) : Option Bool := if v.k ≤ 1 ∨ v.k = 3 then some (decide (v.n ≠ 0)) else none
def digL (n : Int) : List Nat := (Lib.itoa n).map UInt8.toNat
def textV (v : Vl) : List Nat :=
 if v.k = 1 then digL v.n else if v.k = 2 then v.s else if v.k = 3 then (if v.n = 1 then [84, 82, 85, 69] else [70, 65, 76, 83, 69]) else []
def numS (z : Int) : Vl := if Fit64 z then vlN z else vlE 2
def gtV (a b : Vl) : Bool :=
 let ka := if a.k = 0 then b.k else a.k
 let kb := if b.k = 0 then a.k else b.k
 decide (kb < ka) || (decide (kb = ka) && (decide (b.n < a.n) || (decide (b.n = a.n) && slt b.s a.s)))
def twoS (k : Nat) (a b : Vl) : Vl :=
 if a.k = 4 then a else if b.k = 4 then b
 else if k = 15 then vlT (textV a ++ textV b)
 else if k = 13 then vlB (gtV a b)
 else match intV a, intV b with
  | some x, some y => if k = 16 then numS (x + y) else if k = 18 then numS (x * y) else if y = 0 then vlE 3 else vlN (x.tdiv y)
  | _, _ => vlE 1
def addAll : List Vl → Vl → Vl
 | [], a => a
 | v :: l, a => addAll l (if v.k = 1 then twoS 16 a v else a)
def sumS (l : List Vl) : Vl := match l.find? fun v => decide (v.k = 4) with
 | some e => e
 | none => addAll l (vlN 0)
def ifS (c x y : Vl) : Vl := if c.k = 4 then c else match truthV c with
 | none => vlE 1
 | some true => x
 | some false => y
abbrev Grd := List (List (List Vl))
def getG (g : Grd) (i r c : Nat) : Vl := (((((g[i]?).getD [])[r]?).getD [])[c]?).getD vl0
def setG (g : Grd) (i r c : Nat) (v : Vl) : Grd := g.modify i fun rows => rows.modify r fun row => row.set c v
structure Nk where
 k : Nat
 n : Int
 t : List Nat
 s : List Nat
 c : Nat
 r : Nat
 ab : Bool
 c1 : Nat
 r1 : Nat
 kids : List Nat
def plainS (t : List Nat) : Vl := match t with
 | [] => vl0
 | 39 :: r => vlT r
 | [d] => vlN (d - 48 : Nat)
 | _ => vlE 1
end
end Go.Proofs.YtbchdlelmkmagaaGreatDoor.VM
namespace Go.Proofs.YtbchdlelmkmagaaGreatDoor
namespace VM
open Go Go.RowKit
set_option linter.unusedVariables false
set_option linter.unusedSectionVars false
set_option maxRecDepth 20000
noncomputable section
def txt (n : Nat) : List Nat :=
 match n % 13 with
 | 0 => []
 | 1 => []
 | 2 => []
 | 3 => [48 + n / 13 % 9]
 | 4 => [48 + n / 13 % 9]
 | 5 => [39, 97 + n / 13 % 5]
 | 6 => [61, 65, 49 + n / 13 % 5]
 | 7 => [61, 66, 49 + n / 13 % 4, 43, 49]
 | 8 => [61, 83, 85, 77, 40, 65, 49, 58, 66, 49 + n / 13 % 5, 41]
 | 9 => [61, 66, 33, 65 + n / 13 % 4, 50, 42, 50]
 | 10 => [61, 73, 70, 40, 36, 65, 36, 49, 62, 50, 44, 67, 49 + n / 13 % 4, 44, 34, 120, 34, 41]
 | 11 => [61, 67, 33, 65, 49, 38, 34, 121, 34]
 | _ => [61, 49, 47, 48 + n / 13 % 2]
def codeL : List Nat := [0] ++ (List.range 9).map (fun i => 3 + 13 * i) ++ (List.range 5).map (fun i => 5 + 13 * i) ++ (List.range 5).map (fun i => 6 + 13 * i) ++ (List.range 4).map (fun i => 7 + 13 * i) ++ (List.range 5).map (fun i => 8 + 13 * i) ++ (List.range 4).map (fun i => 9 + 13 * i) ++ (List.range 4).map (fun i => 10 + 13 * i) ++ [11] ++ (List.range 2).map (fun i => 12 + 13 * i)
def textL : List (List Nat) := codeL.map txt
def allR (n : Nat) (p : Nat → Bool) : Bool := Nat.rec (motive := fun _ => Bool) true (fun k ih => p k && ih) n
theorem allR_get {p : Nat → Bool} : ∀ {n k : Nat}, allR n p = true → k < n → p k = true
 | 0, _, _, hk => by omega
 | n + 1, k, h, hk => by
  have h2 : p n = true ∧ allR n p = true := by
   have : (p n && allR n p) = true := h
   simpa using this
  by_cases e : k = n
  ·subst e; exact h2.1
  ·exact allR_get h2.2 (by omega)
theorem txt_in' : allR 256 (fun n => textL.any fun t => seq t (txt n)) = true := by kernel_rfl
theorem txt_in {n : Nat} (h : n < 256) : txt n ∈ textL := by
 have := allR_get txt_in' h
 obtain ⟨t, h1, h2⟩ := List.any_eq_true.1 this
 rw [seq_dec, decide_eq_true_iff] at h2
 rw [← h2]; exact h1
def txOK (n : Nat) : Bool :=
 match look [] 400 (callOf Ed (exec Ed 3000) 15 [.int .i64 (Int.ofNat n)] ⟨.leaf, 0⟩) with
 | some (.str s, []) => seq s (txt n)
 | _ => false
def allB (a n : Nat) : Bool := allR n fun k => txOK (a + k)
theorem tx0 : allB 0 64 = true := by kernel_rfl
theorem tx1 : allB 64 64 = true := by kernel_rfl
theorem tx2 : allB 128 64 = true := by kernel_rfl
theorem tx3 : allB 192 64 = true := by kernel_rfl
theorem txOK_all {n : Nat} (h : n < 256) : txOK n = true := by
 rcases (by omega : n < 64 ∨ (64 ≤ n ∧ n < 128) ∨ (128 ≤ n ∧ n < 192) ∨ 192 ≤ n) with k | k | k | k
 ·have := allR_get tx0 k; rwa [Nat.zero_add] at this
 ·have := allR_get tx1 (k := n - 64) (by omega); rwa [show 64 + (n - 64) = n by omega] at this
 ·have := allR_get tx2 (k := n - 128) (by omega); rwa [show 128 + (n - 128) = n by omega] at this
 ·have := allR_get tx3 (k := n - 192) (by omega); rwa [show 192 + (n - 192) = n by omega] at this
def txMemo (n : Nat) : Memo := ⟨[.int .i64 (Int.ofNat n)], .str (txt n), []⟩
def txM : List Memo := (List.range 256).map txMemo
theorem txMemo_ok [Sy] (hg : GlobOK Tryz.prog Sy.tab globs) {n : Nat} (h : n < 256) : MemoOK Tryz.prog 15 (txMemo n) := by
 have hr := txOK_all h
 unfold txOK at hr
 split at hr
 ·rename_i s heq
  rw [seq_dec, decide_eq_true_iff] at hr
  subst hr
  exact @memoOK_of _ Tryz.prog (Ed) (envD hg) (@idleD _) (@hooksD _) nameOK 15 3000 400 [] (txMemo n) (by unfold txMemo; rw [heq]; simp [V.ren]) rfl rfl (by decide)
 ·cases hr
theorem txM_ok [Sy] (hg : GlobOK Tryz.prog Sy.tab globs) : ∀ m ∈ txM, MemoOK Tryz.prog 15 m := fun m hm => by
 unfold txM at hm
 obtain ⟨n, h1, rfl⟩ := List.mem_map.1 hm
 exact txMemo_ok hg (List.mem_range.1 h1)
def nNum (n : Int) : Nk := ⟨1, n, [], [], 0, 0, false, 0, 0, []⟩
def nTxt (t : List Nat) : Nk := ⟨2, 0, t, [], 0, 0, false, 0, 0, []⟩
def nRef (s : List Nat) (c r : Nat) (ab : Bool) : Nk := ⟨5, 0, [], s, c, r, ab, 0, 0, []⟩
def nTwo (k a b : Nat) : Nk := ⟨k, 0, [], [], 0, 0, false, 0, 0, [a, b]⟩
def nksT (t : List Nat) : Option (List Nk) := match t with
 | [61, 65, d] => some [nRef [] 0 (d - 49) false]
 | [61, 66, d, 43, 49] => some [nRef [] 1 (d - 49) false, nNum 1, nTwo 16 0 1]
 | [61, 83, 85, 77, 40, 65, 49, 58, 66, d, 41] => some [⟨6, 0, [], [], 0, 0, false, 1, d - 49, []⟩, ⟨7, 0, [83, 85, 77], [], 0, 0, false, 0, 0, [0]⟩]
 | [61, 66, 33, d, 50, 42, 50] => some [nRef [66] (d - 65) 1 false, nNum 2, nTwo 18 0 1]
 | [61, 73, 70, 40, 36, 65, 36, 49, 62, 50, 44, 67, d, 44, 34, 120, 34, 41] => some [nRef [] 0 0 true, nNum 2, nTwo 13 0 1, nRef [] 2 (d - 49) false, nTxt [120], ⟨7, 0, [73, 70], [], 0, 0, false, 0, 0, [2, 3, 4]⟩]
 | [61, 67, 33, 65, 49, 38, 34, 121, 34] => some [nRef [67] 0 0 false, nTxt [121], nTwo 15 0 1]
 | [61, 49, 47, d] => some [nNum 1, nNum ((d - 48 : Nat) : Int), nTwo 19 0 1]
 | _ => none
def kidV (b : Nat) (d : Nk) : V := match d.kids with
 | [] => .nils
 | _ :: _ => bif Nat.beq d.k 7 then .slo b 0 d.kids.length d.kids.length 1 else .sl b 0 d.kids.length d.kids.length
def nkC (b : Nat) (d : Nk) : List V := [.int .i64 (.ofNat d.k), .int .i64 d.n, .str d.t, .str d.s, .int .i64 (.ofNat d.c), .int .i64 (.ofNat d.r), .bool d.ab, .bool d.ab, .str [], .int .i64 (.ofNat d.c1), .int .i64 (.ofNat d.r1), .bool false, .bool false, kidV b d]
def nxK (b : Nat) (d : Nk) : Nat := match d.kids with
 | [] => b
 | _ :: _ => b + 1
def nkCs : Nat → List Nk → List V
 | _, [] => []
 | b, d :: l => nkC b d ++ nkCs (nxK b d) l
def intsV (l : List Nat) : List V := l.map fun n => .int .i64 (.ofNat n)
def kidBs (ro : Bool) : List Nk → List Blk
 | [] => []
 | d :: l => match d.kids with
  | [] => kidBs ro l
  | _ :: _ => .cells (intsV d.kids) 3 ro :: kidBs ro l
def memoOf (t : List Nat) : Memo := match nksT t with
 | none => ⟨[.str t], .tup [.nils, .bool false], []⟩
 | some l => ⟨[.str t], .tup [.slo 0 0 l.length l.length 14, .bool true], .cells (nkCs 1 l) 88 false :: kidBs false l⟩
def LkF (f c : Nat) (ρ : List Nat) (K : Nat) : Prop := look ρ K (callOf Ed (exec Ed 3000) f [.str (txt c)] ⟨.leaf, 0⟩) = some ((memoOf (txt c)).v.ren (rn ρ K), (memoOf (txt c)).bs.map (Blk.ren (rn ρ K)))
theorem memoOf_al (t : List Nat) : (memoOf t).al = [.str t] := by unfold memoOf; split <;> rfl
theorem kidBs_ro : ∀ l : List Nk, (kidBs false l).all Blk.noRo = true
 | [] => rfl
 | d :: l => by
  unfold kidBs
  split
  ·exact kidBs_ro l
  ·rw [List.all_cons, kidBs_ro l]; rfl
theorem memoOf_ro (t : List Nat) : (memoOf t).bs.all Blk.noRo = true := by
 unfold memoOf
 split
 ·rfl
 ·rw [List.all_cons, kidBs_ro]; rfl
theorem lkF_ok [Sy] (hg : GlobOK Tryz.prog Sy.tab globs) {f c : Nat} {ρ : List Nat} {K : Nat} (h : LkF f c ρ K) (hn : ρ.Nodup) : MemoOK Tryz.prog f (memoOf (txt c)) :=
 @memoOK_of _ Tryz.prog (Ed) (envD hg) (@idleD _) (@hooksD _) nameOK f 3000 K ρ (memoOf (txt c)) (by rw [memoOf_al]; exact h) (by rw [memoOf_al]; rfl) (memoOf_ro _) hn
def mOK (t : List Nat) : Bool := match look [] 6000 (callOf Ed (exec Ed 3000) 47 [.str t] ⟨.leaf, 0⟩) with
 | some (.bool true, []) => true
 | _ => false
def mOKs (a n : Nat) : Bool := ((codeL.drop a).take n).all fun c => mOK (txt c)
def plOK (f : Nat) (t : List Nat) : Bool := match look [] 6000 (callOf Ed (exec Ed 3000) f [.str t] ⟨.leaf, 0⟩) with
 | some (.agg [.int .i64 (.ofNat k), .int .i64 n, .str s], []) => Nat.beq k (plainS t).k && ieq n (plainS t).n && seq s (plainS t).s
 | _ => false
end
end VM
end Go.Proofs.YtbchdlelmkmagaaGreatDoor
