/- Words for memory: a slice that reads as a list; what is kept when memory grows. No program in sight. -/
import Derived.WalkKit
import Derived.Deep.Draws
import Derived.Deep.AppendLies
import Derived.Laws.IdiomStrings
import Derived.Maps.AppendAt
namespace Go.Proofs.YtehbfpcfbpbllaaGreatDoor
open Go.RowKit

theorem block_of_add (a : Addr) (n : Nat) : (a.add n).block = a.block := by unfold Addr.add; split <;> rfl
theorem add_of_add (a : Addr) (i j : Nat) : (a.add i).add j = a.add (i + j) := by
  unfold Addr.add
  by_cases hi : i = 0 <;> by_cases hj : j = 0 <;> simp [hi, hj, Nat.add_assoc]
theorem add_zero_ (a : Addr) : a.add 0 = a := by unfold Addr.add; simp

/-- The slice '.slice A l.length _' reads as l, a cell an element, each stored as 'f x'. -/
def At1 {α : Type} (f : α → Value) (w : World) (A : Option Addr) (l : List α) : Prop :=
  l.length ≤ 9223372036854775807 ∧ (0 < l.length → ∃ ad, A = some ad ∧ ∀ i x, l[i]? = some x → w.cell? (ad.add i) = some (f x))

abbrev vInt : Int → Value := Value.int .i64
abbrev vByte : UInt8 → Value := fun c => Value.int .u8 (c.toNat : Int)
abbrev vStr : ByteArray → Value := Value.string

section
variable {α : Type} {f : α → Value} {w w' : World} {A : Option Addr} {l : List α}

theorem At1.nil (f : α → Value) (w : World) (A : Option Addr) : At1 f w A [] := ⟨by simp, fun h => absurd h (by simp)⟩
theorem At1.keep (h : At1 f w A l) (hk : ∀ p : Addr, p.block < w.heap.size → w'.cell? p = w.cell? p) : At1 f w' A l :=
  ⟨h.1, fun hn => by
    obtain ⟨ad, e, hc⟩ := h.2 hn
    exact ⟨ad, e, fun i x hx => (hk _ (World.block_lt_of_cell? w _ (hc i x hx))).trans (hc i x hx)⟩⟩
theorem At1.below (h : At1 f w A l) (hb : Below w.heap.size w w') : At1 f w' A l := h.keep fun _ hp => hb.cell hp
theorem At1.drewN (h : At1 f w A l) (n : Nat) : At1 f (w.drewN n) A l := h
theorem At1.drew (h : At1 f w A l) : At1 f w.drew A l := h
theorem At1.alloc (h : At1 f w A l) (o : Obj) : At1 f (w.alloc o) A l := h.keep fun p hp => World.cell?_alloc_lt w o p hp
theorem At1.at_ (h : At1 f w A l) {k : Nat} (hk : k < l.length) : ∃ ad, A = some ad ∧ w.cell? (ad.add k) = some (f l[k]) := by
  obtain ⟨ad, e, hc⟩ := h.2 (by omega)
  exact ⟨ad, e, hc k _ (List.getElem?_eq_getElem hk)⟩
theorem At1.cut (h : At1 f w A l) {k cap : Nat} (hk : k ≤ l.length) (hc : l.length ≤ cap) :
    At1 f w (if cap = k then A else A.map (·.add k)) (l.drop k) := by
  refine ⟨by have := h.1; simp; omega, fun hn => ?_⟩
  have hn' : k < l.length := by simp at hn; omega
  obtain ⟨ad, rfl, hcell⟩ := h.2 (by omega)
  rw [if_neg (by omega)]
  refine ⟨ad.add k, rfl, fun j u hu => ?_⟩
  rw [add_of_add]
  exact hcell _ u (by rw [← hu, List.getElem?_drop])
theorem At1.take (h : At1 f w A l) (k : Nat) : At1 f w A (l.take k) := by
  refine ⟨by have := h.1; simp; omega, fun hn => ?_⟩
  have hn' : 0 < l.length := by simp at hn; omega
  obtain ⟨ad, rfl, hcell⟩ := h.2 hn'
  refine ⟨ad, rfl, fun j u hu => hcell j u ?_⟩
  rw [List.getElem?_take] at hu
  split at hu
  · exact hu
  · cases hu
/-- What the call owns reads as a list. -/
theorem At1.of_own {base : Nat} {e : TypeId} {c n : Nat} (h : w.ownsRow base e 1 (.slice A n c) n (l.map f)) (hm : l.length ≤ 9223372036854775807) : At1 f w A l := by
  refine ⟨hm, fun hn => ?_⟩
  have hl : l.length = n := by simpa using h.1
  obtain ⟨g, cap, hv, _, hlt⟩ := h.form (by omega)
  have hA : A = some ⟨g, 0, none⟩ := by injection hv
  subst hA
  exact ⟨_, rfl, fun i x hx => h.cells (g := g) rfl i _ (by rw [List.getElem?_map, hx]; rfl)⟩
end

/-- a slice over a block whose cells are known -/
theorem at1_lit {α : Type} {f : α → Value} {w : World} {g : Nat} {cs : Array Value} {e : TypeId} {fr : Nat × Nat} {l : List α} (hl : l.length ≤ 9223372036854775807) (h : w.heap[g]? = some (.cells cs e fr)) (hc : ∀ (i : Nat) (x : α), l[i]? = some x → cs[i]? = some (f x)) :
    At1 f w (some ⟨g, 0, none⟩) l := by
  refine ⟨hl, fun _ => ⟨_, rfl, fun i x hx => ?_⟩⟩
  have e : (⟨g, 0, none⟩ : Addr).add i = ⟨g, i, none⟩ := by unfold Addr.add; split <;> simp_all
  rw [e]
  simp [World.cell?, h, hc i x hx]

theorem below_drewN {B : Nat} {a w : World} (h : Below B a w) (n : Nat) : Below B a (w.drewN n) := ⟨h.os, h.tape, h.output, h.size, h.block⟩
theorem below_of_drewN {B : Nat} (w : World) (n : Nat) : Below B w (w.drewN n) := below_drewN (Below.refl _ _) n

/-- a slice value that the call owns has this form -/
theorem own_form {w : World} {base : Nat} {e : TypeId} {size n : Nat} {v : Value} {xs : List Value} (h : w.ownsRow base e size v n xs) : ∃ A c, v = .slice A n c ∧ n ≤ c ∧ c ≤ maxLen := by
  rcases h.2 with ⟨rfl, rfl⟩ | ⟨g, cap, cur, rfl, _, _, h1, h2, _⟩
  · exact ⟨none, 0, rfl, Nat.le_refl _, by simp [maxLen]⟩
  · exact ⟨_, cap, rfl, h1, h2⟩

theorem take_snoc {α : Type} {l : List α} {k : Nat} (h : k < l.length) : l.take (k + 1) = l.take k ++ [l[k]] := by rw [List.take_succ_eq_append_getElem h]
theorem map_take_snoc {α β : Type} (f : α → β) {l : List α} {k : Nat} (h : k < l.length) : (l.take (k + 1)).map f = (l.take k).map f ++ [f l[k]] := by rw [take_snoc h, List.map_append]; rfl

theorem run_max2 {P : Program} (ts : Array TypeId) (t : TypeId) (k k' : IntKind) (x y : Int) (w : World) : (Builtin.max_ ts t #[.int k x, .int k' y]).run P w = .ok (.int k (max x y)) w := by
  rw [run_max_int2]
  congr 2
  split <;> omega

theorem toList_inj {a b : ByteArray} (h : a.toList = b.toList) : a = b := by
  rw [ByteArray.toList_eq, ByteArray.toList_eq] at h
  cases a; cases b
  congr 1
  exact Array.toList_inj.1 h
theorem str_eq_true {a b : ByteArray} (h : a = b) : (a.toList == b.toList) = true := by rw [h]; simp
theorem str_eq_false {a b : ByteArray} (h : a ≠ b) : (a.toList == b.toList) = false := by
  rw [beq_eq_false_iff_ne]
  exact fun e => h (toList_inj e)

/-- 'string([]byte{c})' -/
theorem run_str1 {P : Program} {src dst e : TypeId} (hs : P.underlying src = some (.slice e)) (he : P.underlying e = some (.int .u8)) (hd : P.underlying dst = some .string) (w : World) (x : UInt8) (n : Int) (hn : n = (x.toNat : Int)) :
    (convert src dst (.slice (some ⟨w.heap.size, 0, none⟩) 1 1)).run P (w.alloc (.cells #[.int .u8 n] e)) = .ok (.string ⟨#[x]⟩) (w.alloc (.cells #[.int .u8 n] e)) := by
  subst hn
  refine run_convert_bytes_back (P := P) _ src dst e ⟨w.heap.size, 0, none⟩ 1 [x] hs he hd fun j hj => ?_
  have : j = 0 := by simpa using hj
  subst this
  rw [add_zero_, World.cell?_alloc_mark]
  rfl

/-! ## append of one element, of a list, onto a row of the call's own -/
/-- What the program's table says of a slice type T with elements e. -/
def EInfo (P : Program) (T e : TypeId) (z : Value) (size bytes : Nat) : Prop :=
  P.underlying T = some (.slice e) ∧ (P.info? e).map (fun i => (i.zero, i.size, i.bytes)) = some (some z, size, bytes) ∧ z.cells.size = size ∧ 0 < size ∧ 0 < bytes

theorem grown_trans' {a b c : World} {row : Option Nat} (h : a.grownBy b row) (k : b.grownBy c row) : a.grownBy c row :=
  ⟨k.os.trans h.os, k.tape.trans h.tape, k.output.trans h.output, Nat.le_trans h.size k.size, fun i hi hn => (k.block i (Nat.lt_of_lt_of_le hi h.size) hn).trans (h.block i hi hn)⟩
theorem grown_alloc (w : World) (o : Obj) (row : Option Nat) : w.grownBy (w.alloc o) row := World.grownBy_alloc w o row
theorem below_grown {B base : Nat} {w w0 w' : World} {e : TypeId} {size n : Nat} {v : Value} {xs : List Value} (hb : Below B w w0) (hown : w0.ownsRow base e size v n xs) (hg : w0.grownBy w' v.ownBlock) (hB : B ≤ base) (hs : B ≤ w0.heap.size) : Below B w w' :=
  hb.grown hg hs fun k hk => Nat.le_trans hB (hown.lt k hk).1

theorem len_of_bytes {n bytes : Nat} (hb : 0 < bytes) (h : n * bytes ≤ 140737488355328) : n ≤ maxLen := by
  have : n ≤ n * bytes := Nat.le_mul_of_pos_right n hb
  unfold maxLen; omega

section
variable {P : Program} {T e : TypeId} {z : Value} {size bytes : Nat}
/-- 'out = append(out, u)' -/
theorem wpList_app1 {ops : Array Oper} {rest : List Oper} {o : Oper} {a : Act} {Q : Exit → Act → World → Prop} {w0 : World} {s x : Operand} {v u : Value} {n base G : Nat} {xs : List Value} (E : EInfo P T e z 1 bytes) (hgd : o.guard = none)
    (ho : o.op = .call { callee := .builtin .append, args := #[s, x], argTypes := #[T, T] }) (hown : w0.ownsRow base e 1 v n xs) (hs : a.eval s = v)
    (hx : a.eval x = .slice (some ⟨G, 0, none⟩) 1 1) (hG : w0.heap.size = G) (h1 : u.oneCell' = true) (hbytes : (n + 1) * bytes ≤ 140737488355328) (hbase : base ≤ w0.heap.size)
    (h : ∀ v' w', w'.ownsRow base e 1 v' (n + 1) (xs ++ [u]) → w0.grownBy w' v.ownBlock → (v'.ownBlock = v.ownBlock ∨ v'.ownBlock = some (w0.heap.size + 1)) → wpList P ops Q rest (a.put o.dst v') w') :
    wpList P ops Q (o :: rest) a (w0.alloc (.cells #[u] e)) := by
  obtain ⟨ht, hinfo, hzs, hsz, hby0⟩ := E
  obtain ⟨i, hi, hz, hsize, hby⟩ := info_parts hinfo
  subst hG
  refine wpList_append_own_at (P := P) _ hgd s x T ho base e i z 1 bytes ht hi hz hsize hby hzs hsz v n xs hs (hown.alloc _) ⟨w0.heap.size, 0, none⟩ 1 1 [u] hx rfl (cell_one_new _ _ _) (fun y hy => by simp at hy; subst hy; exact h1)
    (len_of_bytes hby0 hbytes) hbytes (by simp; omega) fun v' w' h2 h3 _ h5 => h v' w' h2 (grown_trans' (grown_alloc _ _ _) h3) (by simpa using h5)

/-- 'out = append(out, xs...)' where xs reads as a list -/
theorem wpList_appAll {ops : Array Oper} {rest : List Oper} {o : Oper} {a : Act} {Q : Exit → Act → World → Prop} {w0 : World} {s x : Operand} {v : Value} {n base : Nat} {xs : List Value} {α : Type} {f : α → Value} {A : Option Addr} {c m : Nat} {l : List α}
    (E : EInfo P T e z 1 bytes) (hgd : o.guard = none) (ho : o.op = .call { callee := .builtin .append, args := #[s, x], argTypes := #[T, T] }) (hown : w0.ownsRow base e 1 v n xs) (hs : a.eval s = v)
    (hx : a.eval x = .slice A m c) (hm : m = l.length) (hl : At1 f w0 A l) (h1 : ∀ y, (f y).oneCell' = true) (hbytes : (n + l.length) * bytes ≤ 140737488355328) (hbase : base ≤ w0.heap.size)
    (h : ∀ v' w', w'.ownsRow base e 1 v' (n + l.length) (xs ++ l.map f) → w0.grownBy w' v.ownBlock → (v'.ownBlock = v.ownBlock ∨ v'.ownBlock = some w0.heap.size) → wpList P ops Q rest (a.put o.dst v') w') :
    wpList P ops Q (o :: rest) a w0 := by
  obtain ⟨ht, hinfo, hzs, hsz, hby0⟩ := E
  obtain ⟨i, hi, hz, hsize, hby⟩ := info_parts hinfo
  subst hm
  by_cases hn : l = []
  · subst hn
    rcases A with _ | ad
    · refine wpList_plain hgd fun K hK => ?_
      unfold Oper.wp execOp
      have hrun : (Builtin.append_ #[T, T] o.type #[v, .slice none 0 c]).run P w0 = .ok v w0 := by
        rcases hown.2 with ⟨rfl, rfl⟩ | ⟨g, cap, cur, rfl, _, _, hnc, _⟩
        · simp [Builtin.append_, run_underlying ht, sizeOf, typeInfo, hi, Builtin.lenOf, Builtin.firstCells]
        · simp [Builtin.append_, run_underlying ht, sizeOf, typeInfo, hi, Builtin.lenOf, Builtin.firstCells, hnc, storeCells]
      simp only [List.length_nil] at hx
      simp only [ho, resolve, invoke, builtin, Sem.run_bind, Sem.run_pure, Result.andThen_ok, List.map_toArray, List.map_cons, List.map_nil, hs, hx, hrun]
      exact hK _ _ (h v w0 (by simpa using hown) (World.grownBy.refl _ _) (.inl rfl))
    · exact wpList_append_own_at (P := P) _ hgd s x T ho base e i z 1 bytes ht hi hz hsize hby hzs hsz v n xs hs hown ad 0 c [] hx rfl (fun j u hu => by simp at hu) (fun y hy => by simp at hy)
        (len_of_bytes hby0 hbytes) hbytes hbase fun v' w' h2 h3 _ h5 => h v' w' h2 h3 h5
  · obtain ⟨ad, rfl, hc⟩ := hl.2 (List.length_pos_iff.2 hn)
    refine wpList_append_own_at (P := P) _ hgd s x T ho base e i z 1 bytes ht hi hz hsize hby hzs hsz v n xs hs hown ad l.length c (l.map f) hx (by simp) (fun j u hu => ?_) (fun y hy => ?_)
      (len_of_bytes hby0 hbytes) hbytes hbase fun v' w' h2 h3 _ h5 => h v' w' h2 h3 h5
    · rw [List.getElem?_map] at hu
      cases hj : l[j]? with
      | none => rw [hj] at hu; cases hu
      | some y => rw [hj] at hu; injection hu with hu; rw [← hu]; exact hc j y hj
    · obtain ⟨y', _, rfl⟩ := List.mem_map.1 hy
      exact h1 y'
end

theorem own_base {w : World} {base base' : Nat} {e : TypeId} {size n : Nat} {v : Value} {xs : List Value} (h : w.ownsRow base e size v n xs) (hb : base' ≤ base) : w.ownsRow base' e size v n xs := by
  refine ⟨h.1, ?_⟩
  rcases h.2 with h | ⟨g, cap, cur, hv, hg, r⟩
  · exact .inl h
  · exact .inr ⟨g, cap, cur, hv, Nat.le_trans hb hg, r⟩

/-! ## two rows of the call's own -/
def Apart (v u : Value) : Prop := ∀ k, v.ownBlock = some k → u.ownBlock ≠ some k
theorem Apart.nil (u : Value) : Apart (.slice none 0 0) u := fun k h => by simp [Value.ownBlock] at h
theorem Apart.symm {v u : Value} (h : Apart v u) : Apart u v := fun k h1 h2 => h k h2 h1
/-- behind 'x = append(x, ..)': the other row is as it was -/
theorem own_other {w0 w1 : World} {e' : TypeId} {base' s' m : Nat} {x y : Value} {ys : List Value} (hy : w0.ownsRow base' e' s' y m ys) (hap : Apart x y) (g1 : w0.grownBy w1 x.ownBlock) : w1.ownsRow base' e' s' y m ys := by
  refine hy.kept g1 ?_
  cases hk : y.ownBlock with
  | none => exact .inl rfl
  | some k => exact .inr (fun e => hap k e.symm hk)
theorem apart_grown {w0 : World} {e' : TypeId} {base' s' m : Nat} {x x' y : Value} {ys : List Value} (hy : w0.ownsRow base' e' s' y m ys) (hap : Apart x y) {G : Nat} (b1 : x'.ownBlock = x.ownBlock ∨ x'.ownBlock = some G) (hG : w0.heap.size ≤ G) : Apart x' y := by
  intro k hk hy'
  rcases b1 with b | b
  · exact hap k (by rw [← b]; exact hk) hy'
  · have h1 := (hy.lt k hy').2
    rw [b] at hk
    injection hk with hk
    omega

end Go.Proofs.YtehbfpcfbpbllaaGreatDoor
