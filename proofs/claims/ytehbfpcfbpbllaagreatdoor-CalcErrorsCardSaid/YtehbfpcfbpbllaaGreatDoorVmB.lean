/- The machine of plain data: its types, parts, cells stand for the model's. No program in sight. -/
import Derived.Test.YtehbfpcfbpbllaaGreatDoorVmR
import Derived.Laws.Cells
import Derived.Laws.Entries
namespace Go.Proofs.YtehbfpcfbpbllaaGreatDoor.VM
open Go Go.RowKit
set_option linter.unusedSectionVars false
variable [Sy]

/-- what something stands for -/
def den : V → V
  | .symI k j => .int k (Sy.i j)
  | .symS j => .str (Sy.s j)
  | v => v
theorem den_rep {σ : Mp} {v : V} {x : Value} (h : Rep σ v x) : Rep σ (den v) x := by
  cases v <;> first | exact h | skip
  case symI k j => cases h; exact .int _ _
  case symS j => cases h with | symS _ hs => exact .str _ hs
theorem rep_den {σ : Mp} {v : V} {x : Value} (h : Rep σ (den v) x) : Rep σ v x := by
  cases v <;> first | exact h | skip
  case symI k j => cases h; exact .symI k j
  case symS j => cases h with | str _ hs => exact .symS j hs
structure SopOK (E : Env) : Prop where
  bin : ∀ op a b v, E.so (.bin op) [a, b] = some v → vbin op (den a) (den b) = some (den v)
  conv : ∀ k a v, E.so (.conv k) [a] = some v → ∃ l n, den a = .int l n ∧ den v = .int k (k.wrap n)
  idx : ∀ a l n v, E.so .idx [a, .int l (.ofNat n)] = some v → ∃ s, den a = .str s ∧ ∃ b, s[n]? = some b ∧ den v = .int .u8 (.ofNat b)
  len : ∀ a v, E.so .len [a] = some v → ∃ s, den a = .str s ∧ v = .int .i64 (.ofNat s.length)
  cut : ∀ a l h v, E.so .cut [a, .int .i64 (.ofNat l), .int .i64 (.ofNat h)] = some v → ∃ s, den a = .str s ∧ den v = .str ((s.take h).drop l)
  bytes : ∀ a l, E.so .bytes [a] = some (.tup l) → ∃ s, den a = .str s ∧ l.map den = bytesV s
  text : ∀ l v, E.so .text l = some v → ∃ s, strV (l.map den) = some s ∧ den v = .str s
  char : ∀ k j v, E.so .char [.symI k j] = some v → ∃ n, n < 128 ∧ Sy.i j = Int.ofNat n ∧ den v = .str [n]
  min : ∀ lt l v, E.so (.min lt) l = some v → vmin lt (l.map den) = some (den v)
/-- tables as the program's -/
structure EnvOK (P : Program) (E : Env) : Prop where
  ty : ∀ t i, E.ty.get t = some i → tiOf P t = some i
  fn : ∀ f fn, E.fn.get f = some fn → P.funcs[f]? = some fn
  mixed : P.follows .mixedOrders = true
  so : SopOK E
  glob : ∀ g off t v, E.so (.glob g off t) [] = some v → ∀ w : World, (∀ p ∈ Sy.tab, w.heap[p.1]? = some p.2) → ∃ x, (loadVar t ⟨g, off, none⟩).run P w = .ok x w ∧ ∀ σ, Rep σ v x
/-- what a type's row tells -/
structure TyIs (P : Program) (t : TypeId) (i : TI) (d : TypeDesc) (inf : TypeInfo) : Prop where
  info : P.info? t = some inf
  und : P.underlying t = some d
  k : i.k = kOf d
  size : i.size = inf.size
  bytes : i.bytes = inf.bytes
  zero : i.zero = inf.zero.bind fun z => ofCells z.cells.toList
  meths : i.meths = inf.methods
  plain : i.plain = plainOf P t d
  zv : i.zv = inf.zero.bind ofVal
theorem EnvOK.is {P : Program} {E : Env} (hE : EnvOK P E) {t : TypeId} {i : TI} (h : E.ty.get t = some i) : ∃ d inf, TyIs P t i d inf := by
  have h2 := hE.ty t i h
  unfold tiOf at h2
  split at h2
  · rename_i inf d h3 h4
    cases h2
    exact ⟨d, inf, h3, h4, rfl, rfl, rfl, rfl, rfl, rfl, rfl⟩
  · cases h2
theorem kOf_sl {d : TypeDesc} {e : Nat} (h : K.sl e = kOf d) : d = .slice e := by cases d <;> simp [kOf] at h; simp [h]
theorem kOf_ptr {d : TypeDesc} {e : Nat} (h : K.ptr e = kOf d) : d = .pointer e := by cases d <;> simp [kOf] at h; simp [h]
theorem kOf_arr {d : TypeDesc} {n e : Nat} (h : K.arr n e = kOf d) : d = .array n e := by cases d <;> simp [kOf] at h; simp [h]
theorem kOf_map {d : TypeDesc} {n e : Nat} (h : K.map n e = kOf d) : d = .map n e := by cases d <;> simp [kOf] at h; simp [h]
theorem kOf_int {d : TypeDesc} {k : IntKind} (h : K.int k = kOf d) : d = .int k := by cases d <;> simp [kOf] at h; simp [h]
theorem kOf_str {d : TypeDesc} (h : K.str = kOf d) : d = .string := by cases d <;> simp [kOf] at h; simp
theorem kOf_struct {d : TypeDesc} {fs : List Field} (h : K.struct fs = kOf d) : d = .struct fs.toArray := by cases d <;> simp [kOf] at h; simp [h]
theorem kOf_iface {d : TypeDesc} {ms : Array (String × TypeId)} (h : K.iface ms = kOf d) : d = .interface ms := by cases d <;> simp [kOf] at h; simp [h]

section
variable {P : Program} {w : World}
theorem run_typeInfo {t : TypeId} {inf : TypeInfo} (h : P.info? t = some inf) : (typeInfo t).run P w = .ok inf w := by simp [typeInfo, h]
theorem run_sizeOf {t : TypeId} {inf : TypeInfo} (h : P.info? t = some inf) : (sizeOf t).run P w = .ok inf.size w := by simp [Go.sizeOf, run_typeInfo h]
theorem run_zeroValue {t : TypeId} {inf : TypeInfo} {z : Value} (h : P.info? t = some inf) (hz : inf.zero = some z) : (zeroValue t).run P w = .ok z w := by simp [zeroValue, run_typeInfo h, hz]
def aggD : TypeDesc → Bool
  | .struct _ | .array _ _ => true
  | _ => false
theorem run_isAgg {t : TypeId} {d : TypeDesc} (h : P.underlying t = some d) : (isAgg t).run P w = .ok (aggD d) w := by
  simp only [isAgg, Sem.run_bind, run_underlying h, Result.andThen_ok]
  cases d <;> simp [aggD]
def aggK : K → Bool
  | .struct _ | .arr .. => true
  | _ => false
theorem aggK_kOf (d : TypeDesc) : aggK (kOf d) = aggD d := by cases d <;> rfl
end

theorem toUInt8_toNat {n : Nat} (h : n < 256) : n.toUInt8.toNat = n := by simp [Nat.toUInt8, Nat.mod_eq_of_lt h]
theorem bytesOf_strOf (s : ByteArray) : bytesOf (strOf s) = s := by
  obtain ⟨⟨l⟩⟩ := s
  simp only [bytesOf, strOf, List.map_map]
  congr 1
  congr 1
  have : (Nat.toUInt8 ∘ UInt8.toNat) = id := by funext x; simp [Nat.toUInt8]
  simp [this]
theorem strOf_lt (s : ByteArray) : ∀ b ∈ strOf s, b < 256 := by
  intro b hb
  obtain ⟨x, _, rfl⟩ := List.mem_map.1 hb
  exact x.toNat_lt
theorem ofCell_rep {σ : Mp} {x : Value} {v : V} (h : ofCell x = some v) : Rep σ v x := by
  unfold ofCell at h
  split at h <;> first | cases h | skip
  · exact .bool _
  · exact .int _ _
  · rename_i s
    have := Rep.str (σ := σ) (strOf s) (strOf_lt s)
    rwa [bytesOf_strOf] at this
  · exact .nilp
  · exact .nils
  · exact .nilm
  · exact .nilf
  · exact .nili
theorem ofCells_rep {σ : Mp} : ∀ {l : List Value} {m : List V}, ofCells l = some m → RepL σ m l
  | [], m, h => by simp [ofCells] at h; subst h; exact .nil
  | x :: r, m, h => by
    simp only [ofCells, Option.bind_eq_some_iff] at h
    obtain ⟨v, h1, l, h2, h3⟩ := h
    cases h3
    exact .cons _ _ _ _ (ofCell_rep h1) (ofCells_rep h2)
theorem ofVal_rep {σ : Mp} {x : Value} {v : V} (h : ofVal x = some v) : Rep σ v x := by
  unfold ofVal at h
  split at h
  · rename_i cs
    simp only [Option.bind_eq_some_iff] at h
    obtain ⟨l, h1, h2⟩ := h
    cases h2
    have := Rep.agg (σ := σ) l cs.toList (ofCells_rep h1)
    simpa using this
  · rename_i cs
    simp only [Option.bind_eq_some_iff] at h
    obtain ⟨l, h1, h2⟩ := h
    cases h2
    have := Rep.tup (σ := σ) l cs.toList (ofCells_rep h1)
    simpa using this
  · exact ofCell_rep h
theorem ev_rep {σ : Mp} {t : Tm} {n : Nat} {a : Act} (hT : RepT σ t n a.tmps) {x : Operand} {v : V} (h : ev t x = some v) : Rep σ v (a.eval x) := by
  cases x with
  | tmp i => simp only [ev, Option.some.injEq] at h; subst h; exact hT.at_ i
  | const c => exact ofVal_rep h
  | global g => simp only [ev, Option.some.injEq] at h; subst h; exact .gptr _ _
  | func f => simp only [ev, Option.some.injEq] at h; subst h; exact .fn _ _ _ [] [] .nil .nil
theorem evs_rep {σ : Mp} {t : Tm} {ρ : Operand → Value} : ∀ {l : List Operand} {vs : List V}, (∀ x ∈ l, ∀ v, ev t x = some v → Rep σ v (ρ x)) → evs t l = some vs → RepL σ vs (l.map ρ)
  | [], vs, _, h => by simp [evs] at h; subst h; exact .nil
  | x :: r, vs, hρ, h => by
    simp only [evs, Option.bind_eq_some_iff] at h
    obtain ⟨v, h1, l, h2, h3⟩ := h
    cases h3
    exact .cons _ _ _ _ (hρ x (by simp) v h1) (evs_rep (fun y hy => hρ y (by simp [hy])) h2)
theorem sub_some {l r : List V} {off n : Nat} (h : sub l off n = some r) : r = (l.drop off).take n ∧ r.length = n ∧ off + n ≤ max l.length off := by
  unfold sub at h
  cases hb : Nat.beq ((l.drop off).take n).length n with
  | false => simp only [hb, cond_false] at h; cases h
  | true =>
    simp only [hb, cond_true, Option.some.injEq] at h
    subst h
    have := Nat.eq_of_beq_eq_true hb
    refine ⟨rfl, this, ?_⟩
    simp at this
    omega
section
variable {P : Program} {E : Env} {σ : Mp}
theorem part_sound (hE : EnvOK P E) {t : TypeId} {cs : List V} {xs : List Value} {off : Nat} {v : V} {w : World} (h : partV E t cs off = some v) (hr : RepL σ cs xs) : ∃ x, (part t xs.toArray off).run P w = .ok x w ∧ Rep σ v x := by
  simp only [partV, Option.bind_eq_some_iff] at h
  obtain ⟨i, hi, h⟩ := h
  obtain ⟨d, inf, T⟩ := hE.is hi
  have ha := aggK_kOf d
  rw [← T.k] at ha
  simp only [part, Sem.run_bind, run_isAgg T.und, Result.andThen_ok]
  split at h
  · rename_i fs hk
    rw [hk] at ha
    simp only [aggK] at ha
    simp only [Option.bind_eq_some_iff] at h
    obtain ⟨l, h1, h2⟩ := h
    cases h2
    obtain ⟨rfl, _⟩ := sub_some h1
    simp only [← ha, if_true, Sem.run_bind, run_sizeOf T.info, Result.andThen_ok, Sem.run_pure]
    refine ⟨_, rfl, ?_⟩
    have := Rep.agg _ _ ((hr.drop off).take i.size)
    rw [T.size] at this ⊢
    simpa [List.extract_toArray, List.extract] using this
  · rename_i n e hk
    rw [hk] at ha
    simp only [aggK] at ha
    simp only [Option.bind_eq_some_iff] at h
    obtain ⟨l, h1, h2⟩ := h
    cases h2
    obtain ⟨rfl, _⟩ := sub_some h1
    simp only [← ha, if_true, Sem.run_bind, run_sizeOf T.info, Result.andThen_ok, Sem.run_pure]
    refine ⟨_, rfl, ?_⟩
    have := Rep.agg _ _ ((hr.drop off).take i.size)
    rw [T.size] at this ⊢
    simpa [List.extract_toArray, List.extract] using this
  · rename_i h3 h4
    have ha' : aggD d = false := by
      rw [← ha]
      cases hk : i.k <;> simp [aggK]
      · exact h4 _ _ hk
      · exact h3 _ hk
    obtain ⟨x, hx, hrx⟩ := hr.get h
    refine ⟨x, ?_, hrx⟩
    simp [ha', hx]

/-- a block of cells in the world: what is told at its head -/
structure At (σ : Mp) (w : World) (b n : Nat) (vs : List V) : Prop where
  out : ∃ el xs ys fz, w.heap[b]? = some (.cells (xs ++ ys).toArray el fz) ∧ RepL σ vs xs ∧ (xs ++ ys).length = n
theorem Rel.at_ {N : Nat} {h : Hp} {w : World} (R : Rel N σ h w) {B b n : Nat} (e : σ B = some (b, n)) {vs : List V} (hv : rdCells h B = some vs) : At σ w b n vs := by
  obtain ⟨el, xs, ys, fz, h1, h2, h3, _⟩ := R.cells e hv
  exact ⟨el, xs, ys, fz, h1, h2, h3⟩
theorem At.cell {w : World} {b n : Nat} {vs : List V} (A : At σ w b n vs) {off : Nat} {v : V} (h : vs[off]? = some v) : ∃ x, w.cell? ⟨b, off, none⟩ = some x ∧ Rep σ v x := by
  obtain ⟨el, xs, ys, fz, h1, h2, h3⟩ := A.out
  obtain ⟨x, hx, hr⟩ := h2.get h
  refine ⟨x, ?_, hr⟩
  simp only [World.cell?, h1]
  have hlt : off < xs.length := (List.getElem?_eq_some_iff.1 hx).1
  simp [List.getElem?_append_left hlt, hx]
theorem addr_add (b off i : Nat) : (⟨b, off, none⟩ : Addr).add i = ⟨b, off + i, none⟩ := by
  unfold Addr.add
  split
  · rename_i h; subst h; rfl
  · rfl
theorem At.cells {w : World} {b n : Nat} {vs : List V} (A : At σ w b n vs) {off m : Nat} {l : List V} (h : sub vs off m = some l) :
    ∃ xs, RepL σ l xs ∧ (loadCells ⟨b, off, none⟩ m).run P w = .ok xs.toArray w := by
  obtain ⟨rfl, hl, _⟩ := sub_some h
  obtain ⟨el, xs, ys, fz, h1, h2, h3⟩ := A.out
  have hr := (h2.drop off).take m
  refine ⟨_, hr, ?_⟩
  have hlen := hr.length
  rw [hl] at hlen
  have := run_loadCells_list (P := P) (w := w) ⟨b, off, none⟩ ((xs.drop off).take m) (fun j v hv => by
    rw [addr_add]
    simp only [World.cell?, h1]
    have hj : j < m := by
      have := (List.getElem?_eq_some_iff.1 hv).1
      simp at this; omega
    rw [List.getElem?_take_of_lt hj, List.getElem?_drop] at hv
    have hlt := (List.getElem?_eq_some_iff.1 hv).1
    simp [List.getElem?_append_left hlt, hv])
  rw [← hlen] at this
  simpa using this
theorem loadVar_sound (hE : EnvOK P E) {w : World} {b n : Nat} {vs : List V} (A : At σ w b n vs) {t : TypeId} {off : Nat} {v : V} (h : partV E t vs off = some v) :
    ∃ x, (loadVar t ⟨b, off, none⟩).run P w = .ok x w ∧ Rep σ v x := by
  simp only [partV, Option.bind_eq_some_iff] at h
  obtain ⟨i, hi, h⟩ := h
  obtain ⟨d, inf, T⟩ := hE.is hi
  have ha := aggK_kOf d
  rw [← T.k] at ha
  simp only [loadVar, Sem.run_bind, run_isAgg T.und, Result.andThen_ok]
  split at h
  · rename_i fs hk
    rw [hk] at ha
    simp only [aggK] at ha
    simp only [Option.bind_eq_some_iff] at h
    obtain ⟨l, h1, h2⟩ := h
    cases h2
    obtain ⟨xs, hr, hx⟩ := A.cells (P := P) h1
    rw [T.size] at hx
    simp only [← ha, if_true, Sem.run_bind, run_sizeOf T.info, Result.andThen_ok, Sem.run_pure, hx]
    exact ⟨_, rfl, .agg _ _ hr⟩
  · rename_i m e hk
    rw [hk] at ha
    simp only [aggK] at ha
    simp only [Option.bind_eq_some_iff] at h
    obtain ⟨l, h1, h2⟩ := h
    cases h2
    obtain ⟨xs, hr, hx⟩ := A.cells (P := P) h1
    rw [T.size] at hx
    simp only [← ha, if_true, Sem.run_bind, run_sizeOf T.info, Result.andThen_ok, Sem.run_pure, hx]
    exact ⟨_, rfl, .agg _ _ hr⟩
  · rename_i h3 h4
    have ha' : aggD d = false := by
      rw [← ha]
      cases hk : i.k <;> simp [aggK]
      · exact h4 _ _ hk
      · exact h3 _ hk
    obtain ⟨x, hx, hrx⟩ := A.cell h
    refine ⟨x, ?_, hrx⟩
    simp [ha', hx]
end
end Go.Proofs.YtehbfpcfbpbllaaGreatDoor.VM
