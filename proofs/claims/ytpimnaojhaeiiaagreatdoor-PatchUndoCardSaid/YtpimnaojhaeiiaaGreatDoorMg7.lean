/- Words for memory: a slice that reads as a list; what is kept when memory grows. No program in sight. · More words for memory. No program in sight. · Rows of the call's own: a cell read, a cell written; an empty literal. No program in sight. · Append of a value of several cells onto a row of the call's own; what else lies in memory stays. · slices.Clone and slices.Backward of steps, patch.turned, at worlds. · slices.Backward of steps, as an iterator. · A region that draws its order, whose reads are stable while memory only grows, and whose calls stand in one order: ONE WALK SERVES EVERY ORDER. No program in sight. · A region that draws its order, by a fixed plan: reads that are stable while memory grows come first; effects in one order, or two of them in either; behind the last read memory may be written. No program in sight. · patch.Undo: the region whose order is drawn. · patch.Undo at worlds. · patch.Undo as a hook of the machine: it is sound. -/
import Derived.WalkKit
import Derived.Deep.Draws
import Derived.Deep.AppendLies
import Derived.Laws.IdiomStrings
import Derived.Maps.AppendAt
import Derived.Laws.BytesArg
import Derived.Deep.OwnRows
import Derived.OwnWalk
import Derived.Lib.LazyBuf
import Derived.RangeFuncNested
import Derived.RangeFuncBound
import Derived.RangeFuncCalls
import Derived.RangeFuncLeaves
import Derived.RangeFuncBox
import Derived.Shelf.Abstract
import Derived.Shelf.RegionOpen
import Derived.OwnWalkIn
import Derived.TacticsInMore
import Derived.LoopNIn
import Derived.LoopIn
import Derived.Lib.Hide
import Derived.Deep.MidRow
import Derived.OrdersHeld
import Derived.Deep.Quiet
import Derived.Deep.RegionHeld
import Derived.Deep.RegionHeld3
import Derived.Test.YtpimnaojhaeiiaaGreatDoorMg6
namespace Go.Proofs.YtpimnaojhaeiiaaGreatDoor
open Go.RowKit

theorem block_of_add (a : Addr) (n : Nat) : (a.add n).block = a.block := by unfold Addr.add; split <;> rfl
theorem add_of_add (a : Addr) (i j : Nat) : (a.add i).add j = a.add (i + j) := by
  unfold Addr.add
  by_cases hi : i = 0 <;> by_cases hj : j = 0 <;> simp [hi, hj, Nat.add_assoc]
theorem add_zero_ (a : Addr) : a.add 0 = a := by unfold Addr.add; simp

/-- The slice '.slice A l.length _' reads as l, a cell an element, each stored as 'f x'. -/
def At1 {α : Type} (f : α → Value) (w : World) (A : Option Addr) (l : List α) : Prop :=
  l.length ≤ 9223372036854775807 ∧ (0 < l.length → ∃ ad, A = some ad ∧ ∀ i x, l[i]? = some x → w.cell? (ad.add i) = some (f x))

abbrev vInt : Int → Value := Value.int .i64
abbrev vByte : UInt8 → Value := fun c => Value.int .u8 (c.toNat : Int)
abbrev vStr : ByteArray → Value := Value.string

section
variable {α : Type} {f : α → Value} {w w' : World} {A : Option Addr} {l : List α}

theorem At1.nil (f : α → Value) (w : World) (A : Option Addr) : At1 f w A [] := ⟨by simp, fun h => absurd h (by simp)⟩
theorem At1.keep (h : At1 f w A l) (hk : ∀ p : Addr, p.block < w.heap.size → w'.cell? p = w.cell? p) : At1 f w' A l :=
  ⟨h.1, fun hn => by
    obtain ⟨ad, e, hc⟩ := h.2 hn
    exact ⟨ad, e, fun i x hx => (hk _ (World.block_lt_of_cell? w _ (hc i x hx))).trans (hc i x hx)⟩⟩
theorem At1.below (h : At1 f w A l) (hb : Below w.heap.size w w') : At1 f w' A l := h.keep fun _ hp => hb.cell hp
theorem At1.drewN (h : At1 f w A l) (n : Nat) : At1 f (w.drewN n) A l := h
theorem At1.drew (h : At1 f w A l) : At1 f w.drew A l := h
theorem At1.alloc (h : At1 f w A l) (o : Obj) : At1 f (w.alloc o) A l := h.keep fun p hp => World.cell?_alloc_lt w o p hp
theorem At1.at_ (h : At1 f w A l) {k : Nat} (hk : k < l.length) : ∃ ad, A = some ad ∧ w.cell? (ad.add k) = some (f l[k]) := by
  obtain ⟨ad, e, hc⟩ := h.2 (by omega)
  exact ⟨ad, e, hc k _ (List.getElem?_eq_getElem hk)⟩
theorem At1.cut (h : At1 f w A l) {k cap : Nat} (hk : k ≤ l.length) (hc : l.length ≤ cap) :
    At1 f w (if cap = k then A else A.map (·.add k)) (l.drop k) := by
  refine ⟨by have := h.1; simp; omega, fun hn => ?_⟩
  have hn' : k < l.length := by simp at hn; omega
  obtain ⟨ad, rfl, hcell⟩ := h.2 (by omega)
  rw [if_neg (by omega)]
  refine ⟨ad.add k, rfl, fun j u hu => ?_⟩
  rw [add_of_add]
  exact hcell _ u (by rw [← hu, List.getElem?_drop])
theorem At1.take (h : At1 f w A l) (k : Nat) : At1 f w A (l.take k) := by
  refine ⟨by have := h.1; simp; omega, fun hn => ?_⟩
  have hn' : 0 < l.length := by simp at hn; omega
  obtain ⟨ad, rfl, hcell⟩ := h.2 hn'
  refine ⟨ad, rfl, fun j u hu => hcell j u ?_⟩
  rw [List.getElem?_take] at hu
  split at hu
  · exact hu
  · cases hu
/-- What the call owns reads as a list. -/
theorem At1.of_own {base : Nat} {e : TypeId} {c n : Nat} (h : w.ownsRow base e 1 (.slice A n c) n (l.map f)) (hm : l.length ≤ 9223372036854775807) : At1 f w A l := by
  refine ⟨hm, fun hn => ?_⟩
  have hl : l.length = n := by simpa using h.1
  obtain ⟨g, cap, hv, _, hlt⟩ := h.form (by omega)
  have hA : A = some ⟨g, 0, none⟩ := by injection hv
  subst hA
  exact ⟨_, rfl, fun i x hx => h.cells (g := g) rfl i _ (by rw [List.getElem?_map, hx]; rfl)⟩
end

/-- a slice over a block whose cells are known -/
theorem at1_lit {α : Type} {f : α → Value} {w : World} {g : Nat} {cs : Array Value} {e : TypeId} {fr : Nat × Nat} {l : List α} (hl : l.length ≤ 9223372036854775807) (h : w.heap[g]? = some (.cells cs e fr)) (hc : ∀ (i : Nat) (x : α), l[i]? = some x → cs[i]? = some (f x)) :
    At1 f w (some ⟨g, 0, none⟩) l := by
  refine ⟨hl, fun _ => ⟨_, rfl, fun i x hx => ?_⟩⟩
  have e : (⟨g, 0, none⟩ : Addr).add i = ⟨g, i, none⟩ := by unfold Addr.add; split <;> simp_all
  rw [e]
  simp [World.cell?, h, hc i x hx]

theorem below_drewN {B : Nat} {a w : World} (h : Below B a w) (n : Nat) : Below B a (w.drewN n) := ⟨h.os, h.tape, h.output, h.size, h.block⟩
theorem below_of_drewN {B : Nat} (w : World) (n : Nat) : Below B w (w.drewN n) := below_drewN (Below.refl _ _) n

/-- a slice value that the call owns has this form -/
theorem own_form {w : World} {base : Nat} {e : TypeId} {size n : Nat} {v : Value} {xs : List Value} (h : w.ownsRow base e size v n xs) : ∃ A c, v = .slice A n c ∧ n ≤ c ∧ c ≤ maxLen := by
  rcases h.2 with ⟨rfl, rfl⟩ | ⟨g, cap, cur, rfl, _, _, h1, h2, _⟩
  · exact ⟨none, 0, rfl, Nat.le_refl _, by simp [maxLen]⟩
  · exact ⟨_, cap, rfl, h1, h2⟩

theorem take_snoc {α : Type} {l : List α} {k : Nat} (h : k < l.length) : l.take (k + 1) = l.take k ++ [l[k]] := by rw [List.take_succ_eq_append_getElem h]
theorem map_take_snoc {α β : Type} (f : α → β) {l : List α} {k : Nat} (h : k < l.length) : (l.take (k + 1)).map f = (l.take k).map f ++ [f l[k]] := by rw [take_snoc h, List.map_append]; rfl

theorem run_max2 {P : Program} (ts : Array TypeId) (t : TypeId) (k k' : IntKind) (x y : Int) (w : World) : (Builtin.max_ ts t #[.int k x, .int k' y]).run P w = .ok (.int k (max x y)) w := by
  rw [run_max_int2]
  congr 2
  split <;> omega

theorem toList_inj {a b : ByteArray} (h : a.toList = b.toList) : a = b := by
  rw [ByteArray.toList_eq, ByteArray.toList_eq] at h
  cases a; cases b
  congr 1
  exact Array.toList_inj.1 h
theorem str_eq_true {a b : ByteArray} (h : a = b) : (a.toList == b.toList) = true := by rw [h]; simp
theorem str_eq_false {a b : ByteArray} (h : a ≠ b) : (a.toList == b.toList) = false := by
  rw [beq_eq_false_iff_ne]
  exact fun e => h (toList_inj e)

/-- 'string([]byte{c})' -/
theorem run_str1 {P : Program} {src dst e : TypeId} (hs : P.underlying src = some (.slice e)) (he : P.underlying e = some (.int .u8)) (hd : P.underlying dst = some .string) (w : World) (x : UInt8) (n : Int) (hn : n = (x.toNat : Int)) :
    (convert src dst (.slice (some ⟨w.heap.size, 0, none⟩) 1 1)).run P (w.alloc (.cells #[.int .u8 n] e)) = .ok (.string ⟨#[x]⟩) (w.alloc (.cells #[.int .u8 n] e)) := by
  subst hn
  refine run_convert_bytes_back (P := P) _ src dst e ⟨w.heap.size, 0, none⟩ 1 [x] hs he hd fun j hj => ?_
  have : j = 0 := by simpa using hj
  subst this
  rw [add_zero_, World.cell?_alloc_mark]
  rfl

/-! ## append of one element, of a list, onto a row of the call's own -/
/-- What the program's table says of a slice type T with elements e. -/
def EInfo (P : Program) (T e : TypeId) (z : Value) (size bytes : Nat) : Prop :=
  P.underlying T = some (.slice e) ∧ (P.info? e).map (fun i => (i.zero, i.size, i.bytes)) = some (some z, size, bytes) ∧ z.cells.size = size ∧ 0 < size ∧ 0 < bytes

theorem grown_trans' {a b c : World} {row : Option Nat} (h : a.grownBy b row) (k : b.grownBy c row) : a.grownBy c row :=
  ⟨k.os.trans h.os, k.tape.trans h.tape, k.output.trans h.output, Nat.le_trans h.size k.size, fun i hi hn => (k.block i (Nat.lt_of_lt_of_le hi h.size) hn).trans (h.block i hi hn)⟩
theorem grown_alloc (w : World) (o : Obj) (row : Option Nat) : w.grownBy (w.alloc o) row := World.grownBy_alloc w o row
theorem below_grown {B base : Nat} {w w0 w' : World} {e : TypeId} {size n : Nat} {v : Value} {xs : List Value} (hb : Below B w w0) (hown : w0.ownsRow base e size v n xs) (hg : w0.grownBy w' v.ownBlock) (hB : B ≤ base) (hs : B ≤ w0.heap.size) : Below B w w' :=
  hb.grown hg hs fun k hk => Nat.le_trans hB (hown.lt k hk).1

theorem len_of_bytes {n bytes : Nat} (hb : 0 < bytes) (h : n * bytes ≤ 140737488355328) : n ≤ maxLen := by
  have : n ≤ n * bytes := Nat.le_mul_of_pos_right n hb
  unfold maxLen; omega

section
variable {P : Program} {T e : TypeId} {z : Value} {size bytes : Nat}
/-- 'out = append(out, u)' -/
theorem wpList_app1 {ops : Array Oper} {rest : List Oper} {o : Oper} {a : Act} {Q : Exit → Act → World → Prop} {w0 : World} {s x : Operand} {v u : Value} {n base G : Nat} {xs : List Value} (E : EInfo P T e z 1 bytes) (hgd : o.guard = none)
    (ho : o.op = .call { callee := .builtin .append, args := #[s, x], argTypes := #[T, T] }) (hown : w0.ownsRow base e 1 v n xs) (hs : a.eval s = v)
    (hx : a.eval x = .slice (some ⟨G, 0, none⟩) 1 1) (hG : w0.heap.size = G) (h1 : u.oneCell' = true) (hbytes : (n + 1) * bytes ≤ 140737488355328) (hbase : base ≤ w0.heap.size)
    (h : ∀ v' w', w'.ownsRow base e 1 v' (n + 1) (xs ++ [u]) → w0.grownBy w' v.ownBlock → (v'.ownBlock = v.ownBlock ∨ v'.ownBlock = some (w0.heap.size + 1)) → wpList P ops Q rest (a.put o.dst v') w') :
    wpList P ops Q (o :: rest) a (w0.alloc (.cells #[u] e)) := by
  obtain ⟨ht, hinfo, hzs, hsz, hby0⟩ := E
  obtain ⟨i, hi, hz, hsize, hby⟩ := info_parts hinfo
  subst hG
  refine wpList_append_own_at (P := P) _ hgd s x T ho base e i z 1 bytes ht hi hz hsize hby hzs hsz v n xs hs (hown.alloc _) ⟨w0.heap.size, 0, none⟩ 1 1 [u] hx rfl (cell_one_new _ _ _) (fun y hy => by simp at hy; subst hy; exact h1)
    (len_of_bytes hby0 hbytes) hbytes (by simp; omega) fun v' w' h2 h3 _ h5 => h v' w' h2 (grown_trans' (grown_alloc _ _ _) h3) (by simpa using h5)

/-- 'out = append(out, xs...)' where xs reads as a list -/
theorem wpList_appAll {ops : Array Oper} {rest : List Oper} {o : Oper} {a : Act} {Q : Exit → Act → World → Prop} {w0 : World} {s x : Operand} {v : Value} {n base : Nat} {xs : List Value} {α : Type} {f : α → Value} {A : Option Addr} {c m : Nat} {l : List α}
    (E : EInfo P T e z 1 bytes) (hgd : o.guard = none) (ho : o.op = .call { callee := .builtin .append, args := #[s, x], argTypes := #[T, T] }) (hown : w0.ownsRow base e 1 v n xs) (hs : a.eval s = v)
    (hx : a.eval x = .slice A m c) (hm : m = l.length) (hl : At1 f w0 A l) (h1 : ∀ y, (f y).oneCell' = true) (hbytes : (n + l.length) * bytes ≤ 140737488355328) (hbase : base ≤ w0.heap.size)
    (h : ∀ v' w', w'.ownsRow base e 1 v' (n + l.length) (xs ++ l.map f) → w0.grownBy w' v.ownBlock → (v'.ownBlock = v.ownBlock ∨ v'.ownBlock = some w0.heap.size) → wpList P ops Q rest (a.put o.dst v') w') :
    wpList P ops Q (o :: rest) a w0 := by
  obtain ⟨ht, hinfo, hzs, hsz, hby0⟩ := E
  obtain ⟨i, hi, hz, hsize, hby⟩ := info_parts hinfo
  subst hm
  by_cases hn : l = []
  · subst hn
    rcases A with _ | ad
    · refine wpList_plain hgd fun K hK => ?_
      unfold Oper.wp execOp
      have hrun : (Builtin.append_ #[T, T] o.type #[v, .slice none 0 c]).run P w0 = .ok v w0 := by
        rcases hown.2 with ⟨rfl, rfl⟩ | ⟨g, cap, cur, rfl, _, _, hnc, _⟩
        · simp [Builtin.append_, run_underlying ht, sizeOf, typeInfo, hi, Builtin.lenOf, Builtin.firstCells]
        · simp [Builtin.append_, run_underlying ht, sizeOf, typeInfo, hi, Builtin.lenOf, Builtin.firstCells, hnc, storeCells]
      simp only [List.length_nil] at hx
      simp only [ho, resolve, invoke, builtin, Sem.run_bind, Sem.run_pure, Result.andThen_ok, List.map_toArray, List.map_cons, List.map_nil, hs, hx, hrun]
      exact hK _ _ (h v w0 (by simpa using hown) (World.grownBy.refl _ _) (.inl rfl))
    · exact wpList_append_own_at (P := P) _ hgd s x T ho base e i z 1 bytes ht hi hz hsize hby hzs hsz v n xs hs hown ad 0 c [] hx rfl (fun j u hu => by simp at hu) (fun y hy => by simp at hy)
        (len_of_bytes hby0 hbytes) hbytes hbase fun v' w' h2 h3 _ h5 => h v' w' h2 h3 h5
  · obtain ⟨ad, rfl, hc⟩ := hl.2 (List.length_pos_iff.2 hn)
    refine wpList_append_own_at (P := P) _ hgd s x T ho base e i z 1 bytes ht hi hz hsize hby hzs hsz v n xs hs hown ad l.length c (l.map f) hx (by simp) (fun j u hu => ?_) (fun y hy => ?_)
      (len_of_bytes hby0 hbytes) hbytes hbase fun v' w' h2 h3 _ h5 => h v' w' h2 h3 h5
    · rw [List.getElem?_map] at hu
      cases hj : l[j]? with
      | none => rw [hj] at hu; cases hu
      | some y => rw [hj] at hu; injection hu with hu; rw [← hu]; exact hc j y hj
    · obtain ⟨y', _, rfl⟩ := List.mem_map.1 hy
      exact h1 y'
end

theorem own_base {w : World} {base base' : Nat} {e : TypeId} {size n : Nat} {v : Value} {xs : List Value} (h : w.ownsRow base e size v n xs) (hb : base' ≤ base) : w.ownsRow base' e size v n xs := by
  refine ⟨h.1, ?_⟩
  rcases h.2 with h | ⟨g, cap, cur, hv, hg, r⟩
  · exact .inl h
  · exact .inr ⟨g, cap, cur, hv, Nat.le_trans hb hg, r⟩

/-! ## two rows of the call's own -/
def Apart (v u : Value) : Prop := ∀ k, v.ownBlock = some k → u.ownBlock ≠ some k
theorem Apart.nil (u : Value) : Apart (.slice none 0 0) u := fun k h => by simp [Value.ownBlock] at h
theorem Apart.symm {v u : Value} (h : Apart v u) : Apart u v := fun k h1 h2 => h k h2 h1
/-- behind 'x = append(x, ..)': the other row is as it was -/
theorem own_other {w0 w1 : World} {e' : TypeId} {base' s' m : Nat} {x y : Value} {ys : List Value} (hy : w0.ownsRow base' e' s' y m ys) (hap : Apart x y) (g1 : w0.grownBy w1 x.ownBlock) : w1.ownsRow base' e' s' y m ys := by
  refine hy.kept g1 ?_
  cases hk : y.ownBlock with
  | none => exact .inl rfl
  | some k => exact .inr (fun e => hap k e.symm hk)
theorem apart_grown {w0 : World} {e' : TypeId} {base' s' m : Nat} {x x' y : Value} {ys : List Value} (hy : w0.ownsRow base' e' s' y m ys) (hap : Apart x y) {G : Nat} (b1 : x'.ownBlock = x.ownBlock ∨ x'.ownBlock = some G) (hG : w0.heap.size ≤ G) : Apart x' y := by
  intro k hk hy'
  rcases b1 with b | b
  · exact hap k (by rw [← b]; exact hk) hy'
  · have h1 := (hy.lt k hy').2
    rw [b] at hk
    injection hk with hk
    omega

end Go.Proofs.YtpimnaojhaeiiaaGreatDoor
namespace Go.Proofs.YtpimnaojhaeiiaaGreatDoor
open Go.RowKit

/-- what the call owns stays while only new blocks come -/
theorem own_below {w w' : World} {base : Nat} {e : TypeId} {size n : Nat} {v : Value} {xs : List Value} (h : w.ownsRow base e size v n xs) (hb : Below w.heap.size w w') : w'.ownsRow base e size v n xs := by
  refine ⟨h.1, ?_⟩
  rcases h.2 with h | ⟨g, cap, cur, hv, hg, hh, r⟩
  · exact .inl h
  · exact .inr ⟨g, cap, cur, hv, hg, (hb.block g (Array.getElem?_eq_some_iff.1 hh).1).trans hh, r⟩
theorem own_drewN {w : World} {base : Nat} {e : TypeId} {size n : Nat} {v : Value} {xs : List Value} (h : w.ownsRow base e size v n xs) (k : Nat) : (w.drewN k).ownsRow base e size v n xs := h
/-- a row of the call's own, as a slice that reads as a list -/
theorem own_reads {α : Type} {f : α → Value} {w : World} {base : Nat} {e : TypeId} {v : Value} {l : List α} (h : w.ownsRow base e 1 v l.length (l.map f)) (hm : l.length ≤ 9223372036854775807) :
    ∃ A c, v = .slice A l.length c ∧ At1 f w A l ∧ l.length ≤ c := by
  obtain ⟨A, c, rfl, h1, _⟩ := own_form h
  exact ⟨A, c, rfl, At1.of_own h hm, h1⟩

/-- 'string(b)' -/
theorem run_str_of {P : Program} {src dst e : TypeId} (hs : P.underlying src = some (.slice e)) (he : P.underlying e = some (.int .u8)) (hd : P.underlying dst = some .string) {w : World} {A : Option Addr} {l : List UInt8} {n c : Nat} (hn : n = l.length) (h : At1 vByte w A l) :
    (convert src dst (.slice A n c)).run P w = .ok (.string ⟨l.toArray⟩) w := by
  subst hn
  by_cases h0 : l = []
  · subst h0
    rcases A with _ | ad
    · exact run_convert_bytes_nil (P := P) w src e hs he 0 c dst hd
    · exact run_convert_bytes_back (P := P) w src dst e ad c [] hs he hd (fun j hj => absurd hj (by simp))
  · obtain ⟨ad, rfl, hc⟩ := h.2 (List.length_pos_iff.2 h0)
    exact run_convert_bytes_back (P := P) w src dst e ad c l hs he hd (fun j hj => hc j _ (List.getElem?_eq_getElem hj))

end Go.Proofs.YtpimnaojhaeiiaaGreatDoor
namespace Go.Proofs.YtpimnaojhaeiiaaGreatDoor
open Go.RowKit

theorem own_cell {w : World} {base g n cap : Nat} {e : TypeId} {xs : List Value} (h : w.ownsRow base e 1 (.slice (some ⟨g, 0, none⟩) n cap) n xs) {i : Nat} {x : Value} (hx : xs[i]? = some x) :
    w.cell? ⟨g, i, none⟩ = some x ∧ w.frozen? ⟨g, i, none⟩ = false ∧ i < n ∧ n ≤ cap ∧ base ≤ g ∧ g < w.heap.size := by
  obtain ⟨hlen, hh⟩ := h
  rcases hh with ⟨hv, _⟩ | ⟨g', cap', cur, hv, hb, hh, h1, h2, h3, h4⟩
  · cases hv
  · injection hv with hv1 hv2 hv3
    injection hv1 with hv1
    injection hv1 with hv1
    subst hv1; subst hv3
    rw [Nat.mul_one] at *
    have hi := (List.getElem?_eq_some_iff.1 hx).1
    rw [← h4, List.getElem?_take] at hx
    split at hx
    · refine ⟨?_, ?_, by omega, h1, hb, (Array.getElem?_eq_some_iff.1 hh).1⟩
      · simp [World.cell?, hh]
        simpa using hx
      · simp [World.frozen?, hh]
    · cases hx

theorem own_set {w : World} {base g n cap : Nat} {e : TypeId} {xs : List Value} (h : w.ownsRow base e 1 (.slice (some ⟨g, 0, none⟩) n cap) n xs) {i : Nat} (u : Value) :
    (w.setCell ⟨g, i, none⟩ u).ownsRow base e 1 (.slice (some ⟨g, 0, none⟩) n cap) n (xs.set i u) := by
  obtain ⟨hlen, hh⟩ := h
  rcases hh with ⟨hv, _⟩ | ⟨g', cap', cur, hv, hb, hh, h1, h2, h3, h4⟩
  · cases hv
  · injection hv with hv1 hv2 hv3
    injection hv1 with hv1
    injection hv1 with hv1
    subst hv1; subst hv3
    refine ⟨by rw [List.length_set]; exact hlen, .inr ⟨g, cap, cur.setIfInBounds i u, rfl, hb, ?_, h1, h2, by simpa using h3, ?_⟩⟩
    · simp [World.setCell, Array.getElem?_modify, hh]
    · rw [← h4]
      simp [List.take_set]

/-- a row made -/
theorem own_made {w : World} {base n : Nat} {e : TypeId} {z : Value} (hb : base ≤ w.heap.size) (hn : n ≤ maxLen) : (w.alloc (.cells (madeCells #[z] n) e)).ownsRow base e 1 (.slice (some ⟨w.heap.size, 0, none⟩) n n) n (List.replicate n z) := by
  refine ⟨by simp, .inr ⟨w.heap.size, n, _, rfl, hb, heap_alloc_new w _, Nat.le_refl _, hn, by rw [size_madeCells]; simp, ?_⟩⟩
  apply List.ext_getElem?
  intro i
  rw [Nat.mul_one, List.getElem?_take, List.getElem?_replicate]
  split
  · simp [madeCells, *, Nat.mod_one]
  · rfl
/-- an empty literal -/
theorem own_lit0 {w : World} {base : Nat} {e : TypeId} (hb : base ≤ w.heap.size) : (w.alloc (.cells #[] e)).ownsRow base e 1 (.slice (some ⟨w.heap.size, 0, none⟩) 0 0) 0 [] :=
  ⟨rfl, .inr ⟨w.heap.size, 0, #[], rfl, hb, heap_alloc_new w _, Nat.le_refl _, Nat.zero_le _, rfl, rfl⟩⟩
end Go.Proofs.YtpimnaojhaeiiaaGreatDoor
namespace Go.Proofs.YtpimnaojhaeiiaaGreatDoor
open Go.RowKit
/-- 'out = append(out, u)' where u is of several cells -/
theorem wpList_appN {P : Program} {T e : TypeId} {z : Value} {size bytes : Nat} {ops : Array Oper} {rest : List Oper} {o : Oper} {a : Act} {Q : Exit → Act → World → Prop} {w0 : World} {s x : Operand} {v : Value} {cs : Array Value} {n base G : Nat} {xs : List Value} (E : EInfo P T e z size bytes) (hgd : o.guard = none)
    (ho : o.op = .call { callee := .builtin .append, args := #[s, x], argTypes := #[T, T] }) (hown : w0.ownsRow base e size v n xs) (hs : a.eval s = v)
    (hx : a.eval x = .slice (some ⟨G, 0, none⟩) 1 1) (hG : w0.heap.size = G) (hcs : cs.size = size) (h1 : ∀ u ∈ cs.toList, u.oneCell' = true) (hbytes : (n + 1) * bytes ≤ 140737488355328) (hbase : base ≤ w0.heap.size)
    (h : ∀ v' w', w'.ownsRow base e size v' (n + 1) (xs ++ cs.toList) → w0.grownBy w' v.ownBlock → (v'.ownBlock = v.ownBlock ∨ v'.ownBlock = some (w0.heap.size + 1)) → wpList P ops Q rest (a.put o.dst v') w') :
    wpList P ops Q (o :: rest) a (w0.alloc (.cells cs e)) := by
  obtain ⟨ht, hinfo, hzs, hsz, hby0⟩ := E
  obtain ⟨i, hi, hz, hsize, hby⟩ := info_parts hinfo
  subst hG
  refine wpList_append_own_at (P := P) _ hgd s x T ho base e i z size bytes ht hi hz hsize hby hzs hsz v n xs hs (hown.alloc _) ⟨w0.heap.size, 0, none⟩ 1 1 cs.toList hx (by simp [hcs]) (fun j u hu => ?_) h1
    (len_of_bytes hby0 hbytes) hbytes (by simp; omega) fun v' w' h2 h3 _ h5 => h v' w' h2 (grown_trans' (grown_alloc _ _ _) h3) (by simpa using h5)
  have e1 : (⟨w0.heap.size, 0, none⟩ : Addr).add j = ⟨w0.heap.size, j, none⟩ := by unfold Addr.add; split <;> simp_all
  rw [e1]
  have := heap_alloc_new w0 (.cells cs e)
  simp only [World.cell?]
  rw [this]
  simpa using hu
theorem own_kind {w : World} {base n size : Nat} {e : TypeId} {v : Value} {xs : List Value} (h : w.ownsRow base e size v n xs) {k : Nat} (hk : v.ownBlock = some k) : ∃ cur, w.heap[k]? = some (.cells cur e (0, 0)) := by
  rcases h.2 with ⟨rfl, _⟩ | ⟨g, cap, cur, rfl, hb, hg, _⟩
  · simp [Value.ownBlock] at hk
  · simp [Value.ownBlock] at hk; subst hk; exact ⟨cur, hg⟩
theorem own_ne_kind {w : World} {base n size g : Nat} {e e' : TypeId} {v : Value} {xs : List Value} {cs : Array Value} {fr : Nat × Nat} (h : w.ownsRow base e size v n xs) (hg : w.heap[g]? = some (.cells cs e' fr)) (hne : e' ≠ e) : v.ownBlock ≠ some g := fun hk => by
  obtain ⟨cur, hc⟩ := own_kind h hk
  rw [hg] at hc
  injection hc with hc
  injection hc with _ hc
  exact hne hc
theorem grown_block {w w' : World} {base n size g : Nat} {e e' : TypeId} {v : Value} {xs : List Value} {cs : Array Value} {fr : Nat × Nat} (h : w.ownsRow base e size v n xs) (hg : w.heap[g]? = some (.cells cs e' fr)) (hne : e' ≠ e) (hw : w.grownBy w' v.ownBlock) : w'.heap[g]? = some (.cells cs e' fr) :=
  (hw.block g (Array.getElem?_eq_some_iff.1 hg).1 (fun e => own_ne_kind h hg hne e.symm)).trans hg
end Go.Proofs.YtpimnaojhaeiiaaGreatDoor
namespace Go.Proofs.YtpimnaojhaeiiaaGreatDoor
open Go.RowKit Go.Shelf
open VM (Stp)
/-- a step's cells -/
def vals (x : Stp) : List Value := [.int .i64 x.k, .string (VM.bytesOf x.s), .int .i64 x.a, .int .i64 x.c, .int .i64 x.n, .string (VM.bytesOf x.t)]
def flat (l : List Stp) : List Value := l.flatMap vals
theorem vals_len (x : Stp) : (vals x).length = 6 := rfl
theorem flat_cons (x : Stp) (l : List Stp) : flat (x :: l) = vals x ++ flat l := rfl
theorem flat_app (l m : List Stp) : flat (l ++ m) = flat l ++ flat m := by simp [flat]
theorem flat_len (l : List Stp) : (flat l).length = l.length * 6 := by
  induction l with
  | nil => rfl
  | cons x l ih => rw [flat_cons, List.length_append, vals_len, ih, List.length_cons]; omega
theorem flat_one : ∀ {l : List Stp}, ∀ u ∈ flat l, u.oneCell' = true := by
  intro l u hu
  obtain ⟨x, _, hu⟩ := List.mem_flatMap.1 hu
  simp only [vals, List.mem_cons, List.not_mem_nil, or_false] at hu
  rcases hu with rfl | rfl | rfl | rfl | rfl | rfl <;> rfl
theorem flat_at : ∀ {l : List Stp} {i : Nat} {x : Stp}, l[i]? = some x → ((flat l).drop (i * 6)).take 6 = vals x
  | [], i, x, h => by simp at h
  | y :: l, 0, x, h => by simp at h; subst h; rw [flat_cons]; exact List.take_left' rfl
  | y :: l, i + 1, x, h => by
    have := flat_at (l := l) (i := i) (x := x) (by simpa using h)
    rw [flat_cons, Nat.succ_mul, Nat.add_comm, ← List.drop_drop, List.drop_left' (by rfl)]
    exact this
def At6 (w : World) (A : Option Addr) (l : List Stp) : Prop := l ≠ [] → ∃ b o, A = some ⟨b, o, none⟩ ∧ b < w.heap.size ∧ w.rangeAt b o (flat l)
theorem At6.keep {w w' : World} {A : Option Addr} {l : List Stp} (h : At6 w A l) (hs : w.heap.size ≤ w'.heap.size) (hk : ∀ p : Addr, p.block < w.heap.size → w'.cell? p = w.cell? p) : At6 w' A l := fun hl => by
  obtain ⟨b, o, e, hb, hr⟩ := h hl
  exact ⟨b, o, e, by omega, fun j v hv => (hk _ hb).trans (hr j v hv)⟩
theorem At6.below {w w' : World} {A : Option Addr} {l : List Stp} (h : At6 w A l) (hb : Below w.heap.size w w') : At6 w' A l := h.keep hb.size fun _ hp => hb.cell hp
theorem At6.alloc {w : World} {A : Option Addr} {l : List Stp} (h : At6 w A l) (o : Obj) : At6 (w.alloc o) A l := h.keep (by simp) fun p hp => World.cell?_alloc_lt w o p hp
theorem At6.drew {w : World} {A : Option Addr} {l : List Stp} (h : At6 w A l) : At6 w.drew A l := h
theorem eStep : EInfo Tryz.prog 24 28 (.agg #[.int .i64 0, .string ⟨#[]⟩, .int .i64 0, .int .i64 0, .int .i64 0, .string ⟨#[]⟩]) 6 64 := ⟨Tryz.underlying24, by kernel_rfl, rfl, by decide, by decide⟩
section
variable {P : Program} {T e : TypeId} {z : Value} {bytes : Nat}
theorem wpList_appAll6 {ops : Array Oper} {rest : List Oper} {o : Oper} {a : Act} {Q : Exit → Act → World → Prop} {w0 : World} {s x : Operand} {v : Value} {n base : Nat} {xs : List Value} {A : Option Addr} {c m : Nat} {l : List Stp}
    (E : EInfo P T e z 6 bytes) (hgd : o.guard = none) (ho : o.op = .call { callee := .builtin .append, args := #[s, x], argTypes := #[T, T] }) (hown : w0.ownsRow base e 6 v n xs) (hs : a.eval s = v)
    (hx : a.eval x = .slice A m c) (hm : m = l.length) (hl : At6 w0 A l) (hbytes : (n + l.length) * bytes ≤ 140737488355328) (hbase : base ≤ w0.heap.size)
    (h : ∀ v' w', w'.ownsRow base e 6 v' (n + l.length) (xs ++ flat l) → w0.grownBy w' v.ownBlock → (v'.ownBlock = v.ownBlock ∨ v'.ownBlock = some w0.heap.size) → wpList P ops Q rest (a.put o.dst v') w') :
    wpList P ops Q (o :: rest) a w0 := by
  obtain ⟨ht, hinfo, hzs, hsz, hby0⟩ := E
  obtain ⟨i, hi, hz, hsize, hby⟩ := info_parts hinfo
  subst hm
  by_cases hn : l = []
  · subst hn
    rcases A with _ | ad
    · refine wpList_plain hgd fun K hK => ?_
      unfold Oper.wp execOp
      have hrun : (Builtin.append_ #[T, T] o.type #[v, .slice none 0 c]).run P w0 = .ok v w0 := by
        rcases hown.2 with ⟨rfl, rfl⟩ | ⟨g, cap, cur, rfl, _, _, hnc, _⟩
        · simp [Builtin.append_, run_underlying ht, sizeOf, typeInfo, hi, Builtin.lenOf, Builtin.firstCells]
        · simp [Builtin.append_, run_underlying ht, sizeOf, typeInfo, hi, Builtin.lenOf, Builtin.firstCells, hnc, storeCells]
      simp only [List.length_nil] at hx
      simp only [ho, resolve, invoke, builtin, Sem.run_bind, Sem.run_pure, Result.andThen_ok, List.map_toArray, List.map_cons, List.map_nil, hs, hx, hrun]
      exact hK _ _ (h v w0 (by simpa [flat] using hown) (World.grownBy.refl _ _) (.inl rfl))
    · exact wpList_append_own_at (P := P) _ hgd s x T ho base e i z 6 bytes ht hi hz hsize hby hzs hsz v n xs hs hown ad 0 c [] hx rfl (fun j u hu => by simp at hu) (fun y hy => by simp at hy)
        (len_of_bytes hby0 hbytes) hbytes hbase fun v' w' h2 h3 _ h5 => h v' w' h2 h3 h5
  · obtain ⟨b, of, rfl, hb, hc⟩ := hl hn
    refine wpList_append_own_at (P := P) _ hgd s x T ho base e i z 6 bytes ht hi hz hsize hby hzs hsz v n xs hs hown ⟨b, of, none⟩ l.length c (flat l) hx (flat_len l) (fun j u hu => ?_) flat_one
      (len_of_bytes hby0 hbytes) hbytes hbase fun v' w' h2 h3 _ h5 => h v' w' h2 h3 h5
    rw [Addr.add_mid]
    exact hc j u hu
end
set_option maxRecDepth 100000 in
theorem clone6 (w : World) (A : Option Addr) (l : List Stp) (c : Nat) (hA : At6 w A l) (hl : l.length ≤ 1000) :
    Calls Tryz.prog 14 #[.slice A l.length c] w fun e w' => ∃ v, e = .returned v ∧ w'.ownsRow w.heap.size 28 6 v l.length (flat l) ∧ Below w.heap.size w w' := by
  rcases A with _ | ad
  · have h0 : l = [] := by
      cases l with
      | nil => rfl
      | cons x l => obtain ⟨b, o, e, _⟩ := hA (by simp); cases e
    subst h0
    have he := Go.run_eql_slice_nil (P := Tryz.prog) w 24 28 none 0 c Tryz.underlying24
    go_enter Tryz.func14, Tryz.ntmps14
    go_wp2
    go_ret
    exact ⟨_, rfl, World.ownsRow_nil _ _ _ _, Below.refl _ _⟩
  · have H := Lib.hid hA
    clear hA
    have he := Go.run_eql_slice_nil (P := Tryz.prog) w 24 28 (some ad) l.length c Tryz.underlying24
    go_enter Tryz.func14, Tryz.ntmps14
    have hA1 := H.out.alloc (.cells #[] 28)
    have hown : (w.alloc (.cells #[] 28)).ownsRow w.heap.size 28 6 (.slice (some ⟨w.heap.size, 0, none⟩) 0 0) 0 [] :=
      ⟨rfl, .inr ⟨w.heap.size, 0, #[], rfl, Nat.le_refl _, heap_alloc_new w _, Nat.le_refl _, by decide, rfl, rfl⟩⟩
    go_wp2_with (at_builtin; refine wpList_appAll6 eStep rfl rfl hown rfl rfl rfl hA1 (by omega) (by simp) ?_; intro v3 w3 hown3 hg3 hk3)
    go_ret
    have hb : Below w.heap.size w (w.alloc (.cells #[] 28)) := (Below.refl _ _).alloc (Nat.le_refl _) _
    rw [Nat.zero_add, List.nil_append] at hown3
    exact ⟨_, rfl, hown3, below_grown hb hown hg3 (Nat.le_refl _) (by simp)⟩
/-- the kind that undoes a kind -/
theorem turned_any (w : World) (k : Nat) : Calls Tryz.prog 16 #[.int .i64 k] w fun e w' => e = .returned (.int .i64 (VM.turnK k)) ∧ w' = w := by
  rcases (by omega : k = 1 ∨ k = 2 ∨ k = 3 ∨ k = 4 ∨ k = 5 ∨ k = 6 ∨ (k ≠ 1 ∧ k ≠ 2 ∧ k ≠ 3 ∧ k ≠ 4 ∧ k ≠ 5 ∧ k ≠ 6)) with rfl | rfl | rfl | rfl | rfl | rfl | ⟨n1, n2, n3, n4, n5, n6⟩
  all_goals go_enter Tryz.func16, Tryz.ntmps16
  iterate 6 (go_wp2; go_ret; exact ⟨rfl, rfl⟩)
  have m1 : ¬ ((k : Int) = 1) := by omega
  have m2 : ¬ ((k : Int) = 2) := by omega
  have m3 : ¬ ((k : Int) = 3) := by omega
  have m4 : ¬ ((k : Int) = 4) := by omega
  have m5 : ¬ ((k : Int) = 5) := by omega
  have m6 : ¬ ((k : Int) = 6) := by omega
  have e : VM.turnK k = k := by unfold VM.turnK; rw [if_neg (by omega), if_neg (by omega)]
  go_wp2
  go_ret
  exact ⟨by rw [e]; rfl, rfl⟩
end Go.Proofs.YtpimnaojhaeiiaaGreatDoor
namespace Go.Proofs.YtpimnaojhaeiiaaGreatDoor
open Go.RowKit Go.Shelf
open VM (Stp)
attribute [local go_sem] Oper.semAt_some
/-- a place of a list and what stands there -/
structure SpotS (zs : List Stp) where
  i : Nat
  v : Stp
  h : zs[i]? = some v
def encS {zs : List Stp} (x : SpotS zs) : Array Value := #[.int .i64 (x.i : Int), .agg (vals x.v).toArray]
theorem down_stepS {zs : List Stp} {pre : List (SpotS zs)} {j : Nat} {x : SpotS zs} (hj : j < zs.length) (hx : x.i = j) (h : pre.map SpotS.i = (List.range' (j + 1) (zs.length - (j + 1))).reverse) :
    (pre ++ [x]).map SpotS.i = (List.range' j (zs.length - j)).reverse := by
  rw [List.map_append, h, show zs.length - j = (zs.length - (j + 1)) + 1 from by omega, List.range'_succ, List.reverse_cons]
  simp [hx]
/-- what lies in two blocks stays -/
def KeptS (b1 b2 : Nat) (W W' : World) : Prop := ∀ p : Addr, (p.block = b1 ∨ p.block = b2) → W'.cell? p = W.cell? p
theorem KeptS.refl (b1 b2 : Nat) (W : World) : KeptS b1 b2 W W := fun _ _ => rfl
theorem KeptS.trans {b1 b2 : Nat} {A B C : World} (h : KeptS b1 b2 A B) (k : KeptS b1 b2 B C) : KeptS b1 b2 A C := fun p hp => (k p hp).trans (h p hp)
theorem load_step (g o : Nat) (x : Stp) (W : World) (h : W.rangeAt g o (vals x)) : (Instr.loadAt 28 (.pointer (some ⟨g, o, none⟩))).run Tryz.prog W = .ok (.agg (vals x).toArray) W := by
  simp only [Instr.loadAt, Instr.sureAddr, Sem.run_bind, Sem.run_pure, Result.andThen_ok, run_loadVar_mid W g o 28 (vals x) _ h Tryz.underlying28 rfl (by kernel_rfl)]
theorem range_at {W : World} {g o : Nat} {zs : List Stp} (h : W.rangeAt g o (flat zs)) {j : Nat} {x : Stp} (hx : zs[j]? = some x) : W.rangeAt g (o + j * 6) (vals x) := fun i v hv => by
  have h1 := flat_at hx
  rw [← h1, List.getElem?_take] at hv
  split at hv
  · rw [List.getElem?_drop] at hv
    have := h _ v hv
    rwa [← Nat.add_assoc] at this
  · cases hv
set_option maxRecDepth 100000 in
set_option maxHeartbeats 2000000 in
/-- slices.Backward's closure -/
theorem back1S (F : Fence) (n : Nat) (h7 : F.fn 24) (hro : F.round = none) (hn : 1 ≤ n) (l Bs : Nat) (g o : Nat) (A : Option Addr) (cap : Nat) (zs : List Stp) (hreach : zs.length ≤ 1000) (hA : zs ≠ [] → A = some ⟨g, o, none⟩) (J Jx : List (SpotS zs) → World → Prop)
    (hY : ∀ pre x W, J pre W → pre.length < zs.length → YieldAt F (n - 1) Tryz.prog l (encS (x : SpotS zs)) W fun e W' =>
      (e = .returned (.bool true) ∧ J (pre ++ [x]) W' ∧ KeptS g Bs W W') ∨ (e = .returned (.bool false) ∧ Jx (pre ++ [x]) W'))
    (W : World) (hBs : W.cell? ⟨Bs, 0, none⟩ = some (.slice A zs.length cap)) (hc : W.rangeAt g o (flat zs)) (h0 : J [] W) :
    CallsIn F n Tryz.prog 24 #[.func (.yield l) #[] #[], .pointer (some ⟨Bs, 0, none⟩)] W fun e W' => (∃ v, e = .returned v) ∧
      ((∃ ys, ys.map SpotS.i = (List.range' 0 zs.length).reverse ∧ J ys W') ∨ (∃ pre, True ∧ Jx pre W')) := by
  refine callsIn_of_wp Tryz.func24 rfl h7 ?_ hro
  simp only [Tryz.ntmps24, List.size_toArray, List.length_cons, List.length_nil, Nat.reduceAdd, Nat.reduceSub, Array.replicate_succ, Array.replicate_zero, List.push_toArray, List.append_toArray, List.nil_append, List.cons_append]
  gi_wp2
  gi_loopw [3] (fun i wr => ∃ (j : Nat) (z : Int) (pre : List (SpotS zs)), j ≤ zs.length ∧ i = .int .i64 z ∧ z = (j : Int) - 1 ∧ pre.map SpotS.i = (List.range' j (zs.length - j)).reverse ∧ J pre wr ∧ KeptS g Bs W wr)
    (fun i _ => (intOf i + 1).toNat)
  case atStart => exact ⟨zs.length, _, [], Nat.le_refl _, rfl, by go_num, by simp, h0, KeptS.refl _ _ _⟩
  case round =>
    obtain ⟨j, z, pre, hj, rfl, hz, hpre, hJs, hnx⟩ := hrel
    have hBx := (hnx ⟨Bs, 0, none⟩ (.inr rfl)).trans hBs
    cases j with
    | zero =>
      have hz0 : ¬ ((0 : Int) ≤ z) := by omega
      have HP := Lib.hid hpre
      clear hpre hz
      gi_wp2
      go_end0
      exact ⟨⟨_, rfl⟩, .inl ⟨pre, by simpa using HP.out, hJs⟩⟩
    | succ j =>
      obtain rfl : z = (j : Int) := by omega
      have hx : zs[j]? = some zs[j] := List.getElem?_eq_getElem hj
      generalize zs[j] = v at hx
      obtain rfl := hA (fun e => by rw [e] at hj; simp at hj)
      have hcx : wr.rangeAt g (o + j * 6) (vals v) := fun i u hu => (hnx _ (.inl rfl)).trans (range_at hc hx i u hu)
      have c0 := hcx 0 _ rfl
      have c1 := hcx 1 _ rfl
      have c2 := hcx 2 _ rfl
      have c3 := hcx 3 _ rfl
      have c4 := hcx 4 _ rfl
      have c5 := hcx 5 _ rfl
      rw [Nat.add_zero] at c0
      have hpl : pre.length < zs.length := by have := congrArg List.length hpre; simp at this; omega
      obtain ⟨fn, tmps, assign, body, hy, hR⟩ := hY pre ⟨j, v, hx⟩ wr hJs hpl
      dsimp only [encS, vals] at hy
      have hjl : (j : Int) < (zs.length : Int) := by omega
      have HP := Lib.hid hpre
      have HX := Lib.hid hx
      clear hpre hc hpl hz hcx
      gi_wp2
      refine hR.mono ?_
      rintro e W3 (⟨rfl, hJ3, hk3⟩ | ⟨rfl, hJx3⟩)
      · gi_wp2
        go_roundw
        case rel => exact ⟨j, _, pre ++ [⟨j, v, HX.out⟩], by omega, rfl, by go_num, down_stepS (by omega) rfl HP.out, hJ3, hnx.trans hk3⟩
        case measure => first | (simp [intOf]; done) | (simp [intOf]; omega)
      · gi_wp2
        refine bodyPost_ret (results_none rfl _ _ _) rfl ?_
        exact ⟨⟨_, rfl⟩, .inr ⟨_, trivial, hJx3⟩⟩
set_option maxHeartbeats 1000000 in
theorem backS_in (F : Fence) (n : Nat) (h5 : F.fn 15) (hro : F.round = none) (a : Option Addr) (len cap : Nat) (w : World) :
    CallsIn F n Tryz.prog 15 #[.slice a len cap] w fun e w' => e = .returned (.func (.func 24) #[] #[.pointer (some ⟨w.heap.size, 0, none⟩)]) ∧ w' = w.alloc (.cells #[.slice a len cap] 24) := by
  refine callsIn_of_wp Tryz.func15 rfl h5 ?_ hro
  simp only [Tryz.ntmps15, List.size_toArray, List.length_cons, List.length_nil, Nat.reduceAdd, Nat.reduceSub, Array.replicate_succ, Array.replicate_zero, List.push_toArray, List.append_toArray, List.nil_append, List.cons_append]
  gi_wp2
  go_ret
  exact ⟨rfl, rfl⟩
theorem backS_stops (F : Fence) (n : Nat) (h7 : F.fn 24) (hro : F.round = none) (hn : 1 ≤ n) (Bs g o : Nat) (A : Option Addr) (cap : Nat) (zs : List Stp) (hreach : zs.length ≤ 1000) (hA : zs ≠ [] → A = some ⟨g, o, none⟩) (w : World) (hBs : Bs < w.heap.size)
    (hb : zs ≠ [] → g < w.heap.size) (hc : w.cell? ⟨Bs, 0, none⟩ = some (.slice A zs.length cap)) (hI : w.rangeAt g o (flat zs)) :
    SeqStopsK F n Tryz.prog 24 #[.pointer (some ⟨Bs, 0, none⟩)] (fun x : SpotS zs => encS x) (KeptS g Bs) (fun ys => ys.map SpotS.i = (List.range' 0 zs.length).reverse)
      (fun _ => True) zs.length w := fun l J Jx W hW _ _ hY h0 =>
  back1S F n h7 hro hn l Bs g o A cap zs hreach hA J Jx hY W ((hW.cell (p := ⟨Bs, 0, none⟩) hBs).trans hc) (fun j x hx => by
    have hz : zs ≠ [] := fun e => by rw [e] at hx; simp [flat] at hx
    exact (hW.cell (p := ⟨g, o + j, none⟩) (hb hz)).trans (hI j x hx)) h0
end Go.Proofs.YtpimnaojhaeiiaaGreatDoor
namespace Go.Proofs.YtpimnaojhaeiiaaGreatDoor
open Go.RowKit

/-- memory has only grown -/
def Ext (w W : World) : Prop := Below w.heap.size w W
theorem Ext.refl (w : World) : Ext w w := Below.refl _ _
theorem Ext.trans {a b c : World} (h : Ext a b) (k : Ext b c) : Ext a c := Below.trans h (Below.mono k h.size)

/-- an operation that, where it goes well, hands back a value (no call of a Go function, no store) -/
def plainOp : Op → Bool
  | .move _ | .assign _ | .pick .. | .load .. | .binOp .. | .unOp .. | .convert .. | .slice .. | .fieldAddr .. | .field .. | .indexAddr .. | .index .. | .extract .. | .makeFunc .. | .makeInterface .. | .lookup .. | .build .. | .nilCheck _ => true
  | .call { callee := .builtin .len, .. } | .call { callee := .builtin .max, .. } | .call { callee := .builtin .min, .. } => true
  | _ => false

theorem value_of_v {P : Program} {s : Sem Value} {W w' : World} {nx : Next} (h : ((do pure (Next.value (← s)) : Sem Next)).run P W = .ok nx w') : ∃ u, nx = .value u := by
  simp only [Sem.run_bind] at h
  cases hs : s.run P W with
  | ok a w1 => rw [hs] at h; simp [Result.andThen] at h; exact ⟨_, h.1.symm⟩
  | halt x w1 => rw [hs] at h; simp [Result.andThen] at h

theorem plain_value {P : Program} {o : Oper} {ρ : Operand → Value} {W w' : World} {nx : Next} (hp : plainOp o.op = true) (h : (execOp ρ o).run P W = .ok nx w') : ∃ u, nx = .value u := by
  unfold execOp at h
  cases ho : o.op with
  | move x => rw [ho] at h; simp at h; exact ⟨_, h.1.symm⟩
  | assign x => rw [ho] at h; simp at h; exact ⟨_, h.1.symm⟩
  | pick c a b =>
    rw [ho] at h
    simp only [Sem.run_bind] at h
    cases hs : (asBool (ρ c)).run P W with
    | ok x w1 => rw [hs] at h; simp [Result.andThen] at h; exact ⟨_, h.1.symm⟩
    | halt x w1 => rw [hs] at h; simp [Result.andThen] at h
  | call c =>
    rw [ho] at h hp
    obtain ⟨callee, args, argTypes⟩ := c
    cases callee with
    | builtin b =>
      simp only [resolve, invoke, Sem.run_bind, Sem.run_pure, Result.andThen_ok] at h
      cases b <;> simp [plainOp] at hp <;> exact value_of_v h
    | value f => simp [plainOp] at hp
    | invoke r n => simp [plainOp] at hp
  | load t a => rw [ho] at h; exact value_of_v h
  | binOp op t x y t' => rw [ho] at h; exact value_of_v h
  | unOp op t x => rw [ho] at h; exact value_of_v h
  | convert s d x => rw [ho] at h; exact value_of_v h
  | slice t x lo hi mx => rw [ho] at h; exact value_of_v h
  | fieldAddr s x f => rw [ho] at h; exact value_of_v h
  | field s x f => rw [ho] at h; exact value_of_v h
  | indexAddr t x ix => rw [ho] at h; exact value_of_v h
  | index t x ix => rw [ho] at h; exact value_of_v h
  | extract t ix => rw [ho] at h; exact value_of_v h
  | makeFunc fn f c => rw [ho] at h; exact value_of_v h
  | makeInterface t x => rw [ho] at h; exact value_of_v h
  | lookup t x ix ok => rw [ho] at h; exact value_of_v h
  | build t fs => rw [ho] at h; exact value_of_v h
  | nilCheck x =>
    rw [ho] at h
    simp only at h
    split at h
    · exact absurd h (by simp [runtimePanic])
    · exact absurd h (by simp [runtimePanic])
    · exact absurd h (by simp [runtimePanic])
    · split at h
      · exact absurd h (by simp [runtimePanic])
      · simp only [Sem.run_bind] at h
        simp only [run_program, Result.andThen_ok] at h
        rename_i t1 w1 _
        cases hs : (nilAhead (P.types.size + Made.depth) t1 w1 _).run P W with
        | ok b w2 =>
          rw [hs] at h
          simp only [Result.andThen_ok] at h
          split at h
          · simp [run_unsupported, Result.andThen] at h
          · simp at h; exact ⟨_, h.1.symm⟩
        | halt b w2 => rw [hs] at h; simp [Result.andThen] at h
      · simp at h; exact ⟨_, h.1.symm⟩
    · simp at h; exact ⟨_, h.1.symm⟩
  | _ => rw [ho] at hp; simp [plainOp] at hp
section
variable {P : Program} {ops : Array Oper} {Q : Exit → Act → World → Prop} {md : Region.Mode}

/-- The walk by a plan: '(o, false)': a plain operation, stable while memory grows; '(o, true)': an operation that may make memory, when nothing else may come up. -/
def wpPlan (P : Program) (ops : Array Oper) (Q : Exit → Act → World → Prop) : List (Oper × Bool) → Act → World → Prop
  | [], a, w => Q .normal a w
  | (o, false) :: r, a, w => if Region.wanted o (yielded ops a.tmps) = true then o.quiet P a (Ext w) (fun a' => wpPlan P ops Q r a' w) else wpPlan P ops Q r (a.put o.dst undef) w
  | (o, true) :: r, a, w => if Region.wanted o (yielded ops a.tmps) = true then o.wp P a w (fun a' w' => Ext w w' ∧ wpPlan P ops Q r a' w') Q else wpPlan P ops Q r (a.put o.dst undef) w

def planOk (md : Region.Mode) (ops : Array Oper) : List (Nat × Bool) → Array Bool → Bool
  | [], listed => (Region.ready md ops listed).isEmpty
  | (i, false) :: r, listed => Region.free md ops listed i && (Region.ready md ops listed).contains i && plainOp (ops.getD i default).op && planOk md ops r (listed.setIfInBounds i true)
  | (i, true) :: r, listed => (Region.ready md ops listed == [i]) && planOk md ops r (listed.setIfInBounds i true)

theorem wpAnyH_mono {S S' : World → Prop} (hS : ∀ w, S' w → S w) : ∀ (fuel : Nat) (listed : Array Bool) (a : Act) (w : World), wpAnyH P md ops Q S' fuel listed a w → wpAnyH P md ops Q S fuel listed a w
  | 0, _, _, _, h => h
  | fuel + 1, _, _, _, h => ⟨h.1, fun i hi => wpOp_mono (fun a' w' h' => ⟨hS _ h'.1, wpAnyH_mono hS fuel _ a' w' h'.2⟩) (h.2 i hi)⟩

theorem ready_get {i : Nat} {listed : Array Bool} (h : i ∈ Region.ready md ops listed) : ops[i]? = some (ops.getD i default) := by
  obtain ⟨_, o, ho, _⟩ := mem_ready.1 h
  rw [ho]
  simp [Array.getD, (Array.getElem?_eq_some_iff.1 ho).1, (Array.getElem?_eq_some_iff.1 ho).2]

theorem yieldsIf_of_quiet {o : Oper} {a : Act} {C : World → Prop} {K : Act → Prop} (hp : plainOp o.op = true) (hw : Region.wanted o (yielded ops a.tmps) = true) (h : o.quiet P a C K) : ∃ v, YieldsIf P ops C o v a ∧ K (a.put o.dst v) := by
  obtain ⟨v, h1, h2⟩ := h
  refine ⟨v, .inl ⟨hw, fun w hC => ?_⟩, h2⟩
  have h3 := h1 w hC
  unfold Oper.quietAt at h3
  cases hr : (execOp a.eval o).run P w with
  | halt x w' => rw [hr] at h3; exact h3.elim
  | ok nx w' =>
    obtain ⟨u, rfl⟩ := plain_value hp hr
    rw [hr] at h3
    obtain ⟨e1, e2⟩ := h3
    rw [e1, e2]

theorem plan_sound (hs : Region.noSelect ops = true) (hQ : ∀ c a d v w, Q (.panic c) (a.put d v) w → Q (.panic c) a w) : ∀ (plan : List (Nat × Bool)) (listed : Array Bool) (a : Act) (w : World), planOk md ops plan listed = true →
    wpPlan P ops Q (plan.map fun p => (ops.getD p.1 default, p.2)) a w → wpAnyH P md ops Q (Ext w) plan.length listed a w
  | [], listed, a, w, hok, h => ⟨by simpa [planOk] using hok, h⟩
  | (i, false) :: r, listed, a, w, hok, h => by
    simp only [planOk, Bool.and_eq_true] at hok
    obtain ⟨⟨⟨h1, h2⟩, h3⟩, h4⟩ := hok
    have hi := ready_get (md := md) (ops := ops) (by simpa using h2)
    simp only [List.map_cons, wpPlan] at h
    by_cases hw : Region.wanted (ops.getD i default) (yielded ops a.tmps) = true
    · rw [if_pos hw] at h
      obtain ⟨v, hy, hk⟩ := yieldsIf_of_quiet h3 hw h
      exact wpAnyH_take hi hs h1 h2 (fun c a w => hQ c a _ _ w) hy (Ext.refl w) (plan_sound hs hQ r _ _ w h4 hk)
    · rw [if_neg hw] at h
      exact wpAnyH_take hi hs h1 h2 (fun c a w => hQ c a _ _ w) (.inr ⟨by simpa using hw, rfl⟩) (Ext.refl w) (plan_sound hs hQ r _ _ w h4 h)
  | (i, true) :: r, listed, a, w, hok, h => by
    simp only [planOk, Bool.and_eq_true, beq_iff_eq] at hok
    obtain ⟨h1, h4⟩ := hok
    have hi := ready_get (md := md) (ops := ops) (listed := listed) (i := i) (by rw [h1]; simp)
    refine wpAnyH_all h1 (by simp) fun j hj => ?_
    obtain rfl : j = i := by simpa using hj
    simp only [List.map_cons, wpPlan] at h
    unfold wpOp
    simp only [hi]
    by_cases hw : Region.wanted (ops.getD j default) (yielded ops a.tmps) = true
    · rw [if_pos hw] at h ⊢
      exact .inl (Oper.wp_mono (fun a' w' hh => ⟨hh.1, wpAnyH_mono (fun W hW => hh.1.trans hW) _ _ _ _ (plan_sound hs hQ r _ a' w' h4 hh.2)⟩) h)
    · rw [if_neg hw] at h ⊢
      exact ⟨Ext.refl w, plan_sound hs hQ r _ _ w h4 h⟩

/-- the walk by a plan, closed: so that no tactic opens it unasked -/
structure Planned (P : Program) (ops : Array Oper) (Q : Exit → Act → World → Prop) (r : List (Oper × Bool)) (a : Act) (w : World) : Prop where
  out : wpPlan P ops Q r a w

/-- The region, by a plan. -/
theorem wp_region_plan {id : Nat} {a : Act} {w : World} (plan : List (Nat × Bool)) (hm : P.follows .mixedOrders = true) (hok : (Region.noSelect ops && planOk .any ops plan (Array.replicate ops.size false) && (plan.length == ops.size)) = true)
    (hQ : ∀ c a d v w, Q (.panic c) (a.put d v) w → Q (.panic c) a w) (h : Planned P ops Q (plan.map fun p => (ops.getD p.1 default, p.2)) a w.drew) : (Code.region id ops true).wp P Q a w := by
  simp only [Bool.and_eq_true, beq_iff_eq] at hok
  obtain ⟨⟨h1, h2⟩, h3⟩ := hok
  have := plan_sound h1 hQ plan _ a w.drew h2 h.out
  rw [h3] at this
  exact wp_region_held hm this

variable {a : Act} {w : World} {o : Oper} {r : List (Oper × Bool)}
theorem plan_nil (h : Q .normal a w) : Planned P ops Q [] a w := ⟨h⟩
theorem plan_skip {b : Bool} (hw : Region.wanted o (yielded ops a.tmps) = false) (h : Planned P ops Q r (a.put o.dst undef) w) : Planned P ops Q ((o, b) :: r) a w := by
  refine ⟨?_⟩
  cases b <;> (unfold wpPlan; rw [if_neg (by rw [hw]; exact Bool.false_ne_true)]; exact h.out)
theorem plan_free (hw : Region.wanted o (yielded ops a.tmps) = true) (h : ∀ K : Act → Prop, (∀ a', Planned P ops Q r a' w → K a') → o.quiet P a (Ext w) K) : Planned P ops Q ((o, false) :: r) a w := by
  refine ⟨?_⟩
  unfold wpPlan
  rw [if_pos hw]
  exact h _ fun _ h => h.out
theorem plan_at {v : Value} (hw : Region.wanted o (yielded ops a.tmps) = true) (h1 : ∀ W, Ext w W → (execOp a.eval o).run P W = .ok (.value v) W) (h2 : Planned P ops Q r (a.put o.dst v) w) : Planned P ops Q ((o, false) :: r) a w := by
  refine ⟨?_⟩
  unfold wpPlan
  rw [if_pos hw]
  refine ⟨v, fun W hW => ?_, h2.out⟩
  unfold Oper.quietAt
  rw [h1 W hW]
  exact ⟨rfl, rfl⟩
/-- a conversion of bytes that is stable while memory grows -/
theorem plan_conv {S D : TypeId} {x : Operand} {val v : Value} (ho : o.op = .convert S D x) (hx : a.eval x = val) (hw : Region.wanted o (yielded ops a.tmps) = true) (h1 : ∀ W, Ext w W → (convert S D val).run P W = .ok v W)
    (h2 : Planned P ops Q r (a.put o.dst v) w) : Planned P ops Q ((o, false) :: r) a w := by
  refine plan_at hw (fun W hW => ?_) h2
  unfold execOp
  rw [ho]
  simp only [hx, Sem.run_bind, h1 W hW, Result.andThen_ok]
  rfl
theorem plan_eff (hw : Region.wanted o (yielded ops a.tmps) = true) (h : ∀ K : Act → World → Prop, (∀ a' w', Ext w w' → Planned P ops Q r a' w' → K a' w') → o.wp P a w K Q) : Planned P ops Q ((o, true) :: r) a w := by
  refine ⟨?_⟩
  unfold wpPlan
  rw [if_pos hw]
  exact h _ fun _ _ h1 h2 => ⟨h1, h2.out⟩

/-- THE PLAN: whatever plain operation may come up, first; else the one that is left. -/
def mkPlan (ops : Array Oper) : Nat → Array Bool → List (Nat × Bool)
  | 0, _ => []
  | f + 1, listed =>
    let rs := Region.ready .any ops listed
    match rs.find? (fun i => plainOp (ops.getD i default).op && Region.free .any ops listed i) with
    | some i => (i, false) :: mkPlan ops f (listed.setIfInBounds i true)
    | none => match rs with
      | i :: _ => (i, true) :: mkPlan ops f (listed.setIfInBounds i true)
      | [] => []
end

end Go.Proofs.YtpimnaojhaeiiaaGreatDoor
namespace Go.Proofs.YtpimnaojhaeiiaaGreatDoor
open Go.RowKit
section
variable {P : Program} {ops : Array Oper} {Q : Exit → Act → World → Prop} {md : Region.Mode}

/-- whatever is listed, what it waits for is listed -/
def Closed (md : Region.Mode) (ops : Array Oper) (listed : Array Bool) : Prop :=
  ∀ j oj, ops[j]? = some oj → listed.getD j false = true → ∀ e ∈ oj.after, Region.binds md e = true → listed.getD e.on false = true

/-- j waits for i, directly or by others -/
def waitsT (md : Region.Mode) (ops : Array Oper) : Nat → Nat → Nat → Bool
  | 0, _, _ => false
  | n + 1, j, i => match ops[j]? with
    | some oj => oj.after.any fun e => Region.binds md e && (e.on == i || waitsT md ops n e.on i)
    | none => false

theorem Closed.add {listed : Array Bool} (h : Closed md ops listed) {i : Nat} (hi : i ∈ Region.ready md ops listed) : Closed md ops (listed.setIfInBounds i true) := by
  intro j oj hj hl e he hb
  obtain ⟨_, oi, hoi, hall⟩ := mem_ready.1 hi
  by_cases hji : i = j
  · subst hji
    rw [hj] at hoi; injection hoi with hoi; subst hoi
    exact getD_set_true (hall e he hb)
  · rw [getD_set_ne false hji] at hl
    exact getD_set_true (h j oj hj hl e he hb)

theorem closed_waits {listed : Array Bool} (h : Closed md ops listed) : ∀ (n j i : Nat), waitsT md ops n j i = true → (listed.getD j false = true ∨ j ∈ Region.ready md ops listed) → listed.getD i false = true := by
  intro n
  induction n with
  | zero => intro j i h1; simp [waitsT] at h1
  | succ n ih =>
    intro j i h1 h2
    unfold waitsT at h1
    split at h1
    · rename_i oj hj
      obtain ⟨e, he, hb⟩ := Array.any_eq_true'.1 h1
      simp only [Bool.and_eq_true, Bool.or_eq_true, beq_iff_eq] at hb
      obtain ⟨hb1, hb2⟩ := hb
      have hon : listed.getD e.on false = true := by
        rcases h2 with h2 | h2
        · exact h j oj hj h2 e he hb1
        · obtain ⟨_, oj', hj', hall⟩ := mem_ready.1 h2
          rw [hj] at hj'; injection hj' with hj'; subst hj'
          exact hall e he hb1
      rcases hb2 with rfl | hb2
      · exact hon
      · exact ih e.on i hb2 (.inl hon)
    · cases h1

theorem ready_not_listed {listed : Array Bool} {i : Nat} (h : i ∈ Region.ready md ops listed) : listed.getD i false = true → False := by
  intro h1
  have h0 := (mem_ready.1 h).1
  rcases Nat.lt_or_ge i listed.size with h' | h'
  · simp [h'] at h0 h1; rw [h0] at h1; cases h1
  · simp [Array.getElem?_eq_none h'] at h1

/-- whatever order is picked: till an operation of the tail comes, S holds -/
def wpAnyD (P : Program) (md : Region.Mode) (ops : Array Oper) (Q : Exit → Act → World → Prop) (S : World → Prop) (tail : List Nat) : Nat → Array Bool → Act → World → Prop
  | 0, listed, a, w => Region.ready md ops listed = [] ∧ Q .normal a w
  | fuel + 1, listed, a, w =>
    (Region.ready md ops listed = [] → Q .normal a w) ∧
    ∀ i ∈ Region.ready md ops listed, wpOp P ops Q i (fun a' w' => if tail.contains i = true then wpAny P md ops Q fuel (listed.setIfInBounds i true) a' w' else S w' ∧ wpAnyD P md ops Q S tail fuel (listed.setIfInBounds i true) a' w') a w

variable {S : World → Prop} {tail : List Nat}
theorem wpAny_of_D : ∀ (fuel : Nat) (listed : Array Bool) (a : Act) (w : World), wpAnyD P md ops Q S tail fuel listed a w → wpAny P md ops Q fuel listed a w
  | 0, _, _, _, h => h
  | fuel + 1, _, _, _, h => ⟨h.1, fun i hi => wpOp_mono (fun a' w' h' => by
      split at h'
      · exact h'
      · exact wpAny_of_D fuel _ a' w' h'.2) (h.2 i hi)⟩

theorem wpAnyD_mono {S' : World → Prop} (hS : ∀ w, S' w → S w) : ∀ (fuel : Nat) (listed : Array Bool) (a : Act) (w : World), wpAnyD P md ops Q S' tail fuel listed a w → wpAnyD P md ops Q S tail fuel listed a w
  | 0, _, _, _, h => h
  | fuel + 1, _, _, _, h => ⟨h.1, fun i hi => wpOp_mono (fun a' w' h' => by
      split at h'
      · rw [if_pos (by assumption)]; exact h'
      · rw [if_neg (by assumption)]; exact ⟨hS _ h'.1, wpAnyD_mono hS fuel _ a' w' h'.2⟩) (h.2 i hi)⟩

theorem wpAnyD_first {i : Nat} {oi : Oper} {v : Value} (hi : ops[i]? = some oi) (hsel : ∀ (j : Nat) (o : Oper) cs b, ops[j]? = some o → o.op ≠ .select cs b)
    (hQ : ∀ c a w, Q (.panic c) (a.put oi.dst v) w → Q (.panic c) a w) (ht : ∀ j ∈ tail, waitsT md ops ops.size j i = true) :
    ∀ (fuel : Nat) (listed : Array Bool) (a : Act) (w : World), Closed md ops listed →
      (∀ j oj, ops[j]? = some oj → j ≠ i → listed.getD j true = false → (∀ e ∈ oj.after, Region.binds md e = true → e.on ≠ i) → oi.apart ops oj = true) →
      i ∈ Region.ready md ops listed → YieldsIf P ops S oi v a → S w →
      wpAnyD P md ops Q S tail fuel (listed.setIfInBounds i true) (a.put oi.dst v) w → wpAnyD P md ops Q S tail (fuel + 1) listed a w := by
  intro fuel
  induction fuel with
  | zero =>
    intro listed a w _ _ hr hy hS H
    refine ⟨fun h => (by rw [h] at hr; cases hr), fun j hj => ?_⟩
    by_cases hji : j = i
    · subst hji
      refine hy.wpOp hi hS ?_
      split
      · exact H
      · exact ⟨hS, H⟩
    · have := ready_mono hj hji
      rw [H.1] at this
      cases this
  | succ fuel ih =>
    intro listed a w hcl hfree hr hy hS H
    refine ⟨fun h => (by rw [h] at hr; cases hr), fun j hj => ?_⟩
    by_cases hji : j = i
    · subst hji
      refine hy.wpOp hi hS ?_
      split
      · exact wpAny_of_D _ _ _ _ H
      · exact ⟨hS, H⟩
    · have h1 := H.2 j (ready_mono hj hji)
      have hjt : ¬ tail.contains j = true := fun h => ready_not_listed hr (closed_waits hcl _ j i (ht j (by simpa using h)) (.inr hj))
      simp only [hjt] at h1 ⊢
      obtain ⟨hjun, oj, hoj, hall⟩ := mem_ready.1 hj
      have hnot : ∀ e ∈ oj.after, Region.binds md e = true → e.on ≠ i := fun e he hb heq => ready_not_listed hr (heq ▸ hall e he hb)
      have h2 := wpOp_putIf hoj (hfree j oj hoj hji hjun hnot) (fun cs b => hsel i oi cs b hi) (fun cs b => hsel j oj cs b hoj) hQ hy h1
      have hfree' : ∀ k ok, ops[k]? = some ok → k ≠ i → (listed.setIfInBounds j true).getD k true = false →
          (∀ e ∈ ok.after, Region.binds md e = true → e.on ≠ i) → oi.apart ops ok = true := fun k ok hk hki hun hno => by
        refine hfree k ok hk hki ?_ hno
        by_cases hjk : j = k
        · subst hjk; exact hjun
        · rw [getD_set_ne true hjk] at hun; exact hun
      refine wpOp_mono (fun a' w' h3 => ⟨h3.2.1, ih (listed.setIfInBounds j true) a' w' (hcl.add hj) hfree' (ready_mono hr (Ne.symm hji)) h3.1 h3.2.1 ?_⟩) h2
      rw [Array.setIfInBounds_comm _ _ hji]
      exact h3.2.2

/-- an operation that yields its value in whatever world may be taken first, whatever the tail -/
theorem wpAnyD_pure {i : Nat} {oi : Oper} {v : Value} (hi : ops[i]? = some oi) (hsel : ∀ (j : Nat) (o : Oper) cs b, ops[j]? = some o → o.op ≠ .select cs b)
    (hQ : ∀ c a w, Q (.panic c) (a.put oi.dst v) w → Q (.panic c) a w) (hit : ¬ tail.contains i = true) :
    ∀ (fuel : Nat) (listed : Array Bool) (a : Act) (w : World),
      (∀ j oj, ops[j]? = some oj → j ≠ i → listed.getD j true = false → (∀ e ∈ oj.after, Region.binds md e = true → e.on ≠ i) → oi.apart ops oj = true) →
      i ∈ Region.ready md ops listed → Yields P ops oi v a → S w →
      wpAnyD P md ops Q S tail fuel (listed.setIfInBounds i true) (a.put oi.dst v) w → wpAnyD P md ops Q S tail (fuel + 1) listed a w := by
  intro fuel
  induction fuel with
  | zero =>
    intro listed a w _ hr hy hS H
    refine ⟨fun h => (by rw [h] at hr; cases hr), fun j hj => ?_⟩
    by_cases hji : j = i
    · subst hji
      refine hy.wpOp hi ?_
      simp only [hit]
      exact ⟨hS, H⟩
    · have := ready_mono hj hji
      rw [H.1] at this
      cases this
  | succ fuel ih =>
    intro listed a w hfree hr hy hS H
    refine ⟨fun h => (by rw [h] at hr; cases hr), fun j hj => ?_⟩
    by_cases hji : j = i
    · subst hji
      refine hy.wpOp hi ?_
      simp only [hit]
      exact ⟨hS, H⟩
    · have h1 := H.2 j (ready_mono hj hji)
      obtain ⟨hjun, oj, hoj, hall⟩ := mem_ready.1 hj
      have hnot : ∀ e ∈ oj.after, Region.binds md e = true → e.on ≠ i := fun e he hb heq => ready_not_listed hr (heq ▸ hall e he hb)
      have h2 := wpOp_put hoj (hfree j oj hoj hji hjun hnot) (fun cs b => hsel i oi cs b hi) (fun cs b => hsel j oj cs b hoj) hQ hy h1
      have hfree' : ∀ k ok, ops[k]? = some ok → k ≠ i → (listed.setIfInBounds j true).getD k true = false →
          (∀ e ∈ ok.after, Region.binds md e = true → e.on ≠ i) → oi.apart ops ok = true := fun k ok hk hki hun hno => by
        refine hfree k ok hk hki ?_ hno
        by_cases hjk : j = k
        · subst hjk; exact hjun
        · rw [getD_set_ne true hjk] at hun; exact hun
      refine wpOp_mono (fun a' w' h3 => ?_) h2
      obtain ⟨g1, g2⟩ := h3
      rw [Array.setIfInBounds_comm _ _ (Ne.symm hji)] at g2
      split at g2
      · rw [if_pos (by assumption)]
        exact wpAny_first hi hsel hQ fuel _ a' w' hfree' (ready_mono hr (Ne.symm hji)) g1 g2
      · rw [if_neg (by assumption)]
        exact ⟨g2.1, ih (listed.setIfInBounds j true) a' w' hfree' (ready_mono hr (Ne.symm hji)) g1 g2.1 g2.2⟩

/-- THE PLAN: 'pure': a plain operation that reads no memory; 'free': a plain operation, stable while memory grows; 'eff': the one that may come up; 'alt': two that may come up; 'last': of the tail, the one that may come up. -/
inductive PT where
  | nil
  | pure (i : Nat) (t : PT)
  | free (i : Nat) (t : PT)
  | eff (i : Nat) (t : PT)
  | alt (i : Nat) (s : PT) (j : Nat) (t : PT)
  | last (i : Nat) (t : PT)

def PT.size : PT → Nat
  | .nil => 0
  | .pure _ t | .free _ t | .eff _ t | .last _ t => t.size + 1
  | .alt _ s _ _ => s.size + 1

def ptLast (md : Region.Mode) (ops : Array Oper) : PT → Array Bool → Bool
  | .nil, listed => (Region.ready md ops listed).isEmpty
  | .last i t, listed => (Region.ready md ops listed == [i]) && ptLast md ops t (listed.setIfInBounds i true)
  | _, _ => false
def ptOk (md : Region.Mode) (ops : Array Oper) (tail : List Nat) : PT → Array Bool → Bool
  | .nil, listed => (Region.ready md ops listed).isEmpty
  | .pure i t, listed => Region.free md ops listed i && (Region.ready md ops listed).contains i && plainOp (ops.getD i default).op && !tail.contains i && ptOk md ops tail t (listed.setIfInBounds i true)
  | .free i t, listed => Region.free md ops listed i && (Region.ready md ops listed).contains i && plainOp (ops.getD i default).op && (tail.all fun j => waitsT md ops ops.size j i) && ptOk md ops tail t (listed.setIfInBounds i true)
  | .eff i t, listed => (Region.ready md ops listed == [i]) && !tail.contains i && ptOk md ops tail t (listed.setIfInBounds i true)
  | .alt i s j t, listed => (Region.ready md ops listed == [i, j]) && !tail.contains i && !tail.contains j && (s.size == t.size) && ptOk md ops tail s (listed.setIfInBounds i true) && ptOk md ops tail t (listed.setIfInBounds j true)
  | .last i t, listed => (Region.ready md ops listed == [i]) && tail.contains i && ptLast md ops t (listed.setIfInBounds i true)

/-- the plan with its operations -/
inductive PTo where
  | nil
  | pure (o : Oper) (t : PTo)
  | free (o : Oper) (t : PTo)
  | eff (o : Oper) (t : PTo)
  | alt (o : Oper) (s : PTo) (o' : Oper) (t : PTo)
  | last (o : Oper) (t : PTo)
def PT.at_ (ops : Array Oper) : PT → PTo
  | .nil => .nil
  | .pure i t => .pure (ops.getD i default) (t.at_ ops)
  | .free i t => .free (ops.getD i default) (t.at_ ops)
  | .eff i t => .eff (ops.getD i default) (t.at_ ops)
  | .alt i s j t => .alt (ops.getD i default) (s.at_ ops) (ops.getD j default) (t.at_ ops)
  | .last i t => .last (ops.getD i default) (t.at_ ops)

def wpT (P : Program) (ops : Array Oper) (Q : Exit → Act → World → Prop) : PTo → Act → World → Prop
  | .nil, a, w => Q .normal a w
  | .pure o t, a, w => if Region.wanted o (yielded ops a.tmps) = true then o.quiet P a (fun _ => True) (fun a' => wpT P ops Q t a' w) else wpT P ops Q t (a.put o.dst undef) w
  | .free o t, a, w => if Region.wanted o (yielded ops a.tmps) = true then o.quiet P a (Ext w) (fun a' => wpT P ops Q t a' w) else wpT P ops Q t (a.put o.dst undef) w
  | .eff o t, a, w => if Region.wanted o (yielded ops a.tmps) = true then o.wp P a w (fun a' w' => Ext w w' ∧ wpT P ops Q t a' w') Q else wpT P ops Q t (a.put o.dst undef) w
  | .alt o s o' t, a, w => (if Region.wanted o (yielded ops a.tmps) = true then o.wp P a w (fun a' w' => Ext w w' ∧ wpT P ops Q s a' w') Q else wpT P ops Q s (a.put o.dst undef) w) ∧
      (if Region.wanted o' (yielded ops a.tmps) = true then o'.wp P a w (fun a' w' => Ext w w' ∧ wpT P ops Q t a' w') Q else wpT P ops Q t (a.put o'.dst undef) w)
  | .last o t, a, w => if Region.wanted o (yielded ops a.tmps) = true then o.wp P a w (fun a' w' => wpT P ops Q t a' w') Q else wpT P ops Q t (a.put o.dst undef) w

theorem last_sound : ∀ (t : PT) (listed : Array Bool) (a : Act) (w : World), ptLast md ops t listed = true → wpT P ops Q (t.at_ ops) a w → wpAny P md ops Q t.size listed a w
  | .nil, listed, a, w, hok, h => ⟨by simpa [ptLast] using hok, h⟩
  | .last i t, listed, a, w, hok, h => by
    simp only [ptLast, Bool.and_eq_true, beq_iff_eq] at hok
    obtain ⟨h1, h2⟩ := hok
    refine ⟨fun h => (by rw [h1] at h; cases h), fun j hj => ?_⟩
    obtain rfl : j = i := by rw [h1] at hj; simpa using hj
    have hi := ready_get (md := md) (ops := ops) (listed := listed) (i := j) hj
    simp only [PT.at_, wpT] at h
    unfold wpOp
    simp only [hi]
    by_cases hw : Region.wanted (ops.getD j default) (yielded ops a.tmps) = true
    · rw [if_pos hw] at h ⊢
      exact .inl (Oper.wp_mono (fun a' w' hh => last_sound t _ a' w' h2 hh) h)
    · rw [if_neg hw] at h ⊢
      exact last_sound t _ _ w h2 h
  | .pure _ _, _, _, _, hok, _ => by simp [ptLast] at hok
  | .free _ _, _, _, _, hok, _ => by simp [ptLast] at hok
  | .eff _ _, _, _, _, hok, _ => by simp [ptLast] at hok
  | .alt _ _ _ _, _, _, _, hok, _ => by simp [ptLast] at hok

/-- an effect -/
theorem eff_sound {i : Nat} {listed : Array Bool} {a : Act} {w : World} {n : Nat} {R : Act → World → Prop} (hi : i ∈ Region.ready md ops listed) (htl : ¬ tail.contains i = true)
    (hR : ∀ a' w', R a' w' → wpAnyD P md ops Q (Ext w') tail n (listed.setIfInBounds i true) a' w')
    (h : if Region.wanted (ops.getD i default) (yielded ops a.tmps) = true then (ops.getD i default).wp P a w (fun a' w' => Ext w w' ∧ R a' w') Q else R (a.put (ops.getD i default).dst undef) w) :
    wpOp P ops Q i (fun a' w' => if tail.contains i = true then wpAny P md ops Q n (listed.setIfInBounds i true) a' w' else Ext w w' ∧ wpAnyD P md ops Q (Ext w) tail n (listed.setIfInBounds i true) a' w') a w := by
  have hg := ready_get hi
  unfold wpOp
  simp only [hg, htl]
  by_cases hw : Region.wanted (ops.getD i default) (yielded ops a.tmps) = true
  · rw [if_pos hw] at h ⊢
    exact .inl (Oper.wp_mono (fun a' w' hh => ⟨hh.1, wpAnyD_mono (fun W hW => hh.1.trans hW) _ _ _ _ (hR a' w' hh.2)⟩) h)
  · rw [if_neg hw] at h ⊢
    exact ⟨Ext.refl w, hR _ _ h⟩

theorem pt_sound (hs : Region.noSelect ops = true) (hQ : ∀ c a d v w, Q (.panic c) (a.put d v) w → Q (.panic c) a w) : ∀ (t : PT) (listed : Array Bool) (a : Act) (w : World), Closed md ops listed → ptOk md ops tail t listed = true →
    wpT P ops Q (t.at_ ops) a w → wpAnyD P md ops Q (Ext w) tail t.size listed a w
  | .nil, listed, a, w, _, hok, h => ⟨by simpa [ptOk] using hok, h⟩
  | .pure i t, listed, a, w, hcl, hok, h => by
    simp only [ptOk, Bool.and_eq_true, Bool.not_eq_true'] at hok
    obtain ⟨⟨⟨⟨h1, h2⟩, h3⟩, h5⟩, h4⟩ := hok
    have hr : i ∈ Region.ready md ops listed := by simpa using h2
    have hi := ready_get (md := md) (ops := ops) hr
    simp only [PT.at_, wpT] at h
    by_cases hw : Region.wanted (ops.getD i default) (yielded ops a.tmps) = true
    · rw [if_pos hw] at h
      obtain ⟨v, hy, hk⟩ := yieldsIf_of_quiet h3 hw h
      exact wpAnyD_pure hi (Region.noSelect_spec hs) (fun c a w => hQ c a _ _ w) (by rw [h5]; exact Bool.false_ne_true) _ listed a w (Region.free_spec hi h1) hr (hy.imp (fun ⟨x, y⟩ => ⟨x, fun w => y w trivial⟩) id) (Ext.refl w) (pt_sound hs hQ t _ _ w (hcl.add hr) h4 hk)
    · rw [if_neg hw] at h
      exact wpAnyD_pure hi (Region.noSelect_spec hs) (fun c a w => hQ c a _ _ w) (by rw [h5]; exact Bool.false_ne_true) _ listed a w (Region.free_spec hi h1) hr (.inr ⟨by simpa using hw, rfl⟩) (Ext.refl w) (pt_sound hs hQ t _ _ w (hcl.add hr) h4 h)
  | .free i t, listed, a, w, hcl, hok, h => by
    simp only [ptOk, Bool.and_eq_true] at hok
    obtain ⟨⟨⟨⟨h1, h2⟩, h3⟩, h5⟩, h4⟩ := hok
    have hr : i ∈ Region.ready md ops listed := by simpa using h2
    have hi := ready_get (md := md) (ops := ops) hr
    have ht : ∀ j ∈ tail, waitsT md ops ops.size j i = true := by simpa using h5
    simp only [PT.at_, wpT] at h
    by_cases hw : Region.wanted (ops.getD i default) (yielded ops a.tmps) = true
    · rw [if_pos hw] at h
      obtain ⟨v, hy, hk⟩ := yieldsIf_of_quiet h3 hw h
      exact wpAnyD_first hi (Region.noSelect_spec hs) (fun c a w => hQ c a _ _ w) ht _ listed a w hcl (Region.free_spec hi h1) hr hy (Ext.refl w) (pt_sound hs hQ t _ _ w (hcl.add hr) h4 hk)
    · rw [if_neg hw] at h
      exact wpAnyD_first hi (Region.noSelect_spec hs) (fun c a w => hQ c a _ _ w) ht _ listed a w hcl (Region.free_spec hi h1) hr (.inr ⟨by simpa using hw, rfl⟩) (Ext.refl w) (pt_sound hs hQ t _ _ w (hcl.add hr) h4 h)
  | .eff i t, listed, a, w, hcl, hok, h => by
    simp only [ptOk, Bool.and_eq_true, beq_iff_eq, Bool.not_eq_true'] at hok
    obtain ⟨⟨h1, h2⟩, h4⟩ := hok
    refine ⟨fun h => (by rw [h1] at h; cases h), fun j hj => ?_⟩
    obtain rfl : j = i := by rw [h1] at hj; simpa using hj
    exact eff_sound hj (by rw [h2]; exact Bool.false_ne_true) (fun a' w' h' => pt_sound hs hQ t _ a' w' (hcl.add hj) h4 h') h
  | .alt i s k t, listed, a, w, hcl, hok, h => by
    simp only [ptOk, Bool.and_eq_true, beq_iff_eq, Bool.not_eq_true'] at hok
    obtain ⟨⟨⟨⟨⟨h1, h2⟩, h3⟩, hsz⟩, h4⟩, h5⟩ := hok
    simp only [PT.at_, wpT] at h
    refine ⟨fun h => (by rw [h1] at h; cases h), fun j hj => ?_⟩
    have hj' := hj
    rw [h1] at hj'
    rcases (by simpa using hj' : j = i ∨ j = k) with rfl | rfl
    · exact eff_sound hj (by rw [h2]; exact Bool.false_ne_true) (fun a' w' h' => pt_sound hs hQ s _ a' w' (hcl.add hj) h4 h') h.1
    · rw [hsz]
      exact eff_sound hj (by rw [h3]; exact Bool.false_ne_true) (fun a' w' h' => pt_sound hs hQ t _ a' w' (hcl.add hj) h5 h') h.2
  | .last i t, listed, a, w, hcl, hok, h => by
    simp only [ptOk, Bool.and_eq_true, beq_iff_eq] at hok
    obtain ⟨⟨h1, h2⟩, h4⟩ := hok
    refine ⟨fun h => (by rw [h1] at h; cases h), fun j hj => ?_⟩
    obtain rfl : j = i := by rw [h1] at hj; simpa using hj
    have hi := ready_get (md := md) (ops := ops) (listed := listed) (i := j) hj
    simp only [PT.at_, wpT] at h
    unfold wpOp
    simp only [hi, h2, if_true]
    by_cases hw : Region.wanted (ops.getD j default) (yielded ops a.tmps) = true
    · rw [if_pos hw] at h ⊢
      exact .inl (Oper.wp_mono (fun a' w' hh => last_sound t _ a' w' h4 hh) h)
    · rw [if_neg hw] at h ⊢
      exact last_sound t _ _ w h4 h

theorem closed_none (n : Nat) : Closed md ops (Array.replicate n false) := by
  intro j oj _ hl
  rw [Array.getD_eq_getD_getElem?, Array.getElem?_replicate] at hl
  split at hl <;> simp at hl

/-- the walk by a plan, closed -/
structure PlannedT (P : Program) (ops : Array Oper) (Q : Exit → Act → World → Prop) (t : PTo) (a : Act) (w : World) : Prop where
  out : wpT P ops Q t a w

theorem wp_region_tree {id : Nat} {a : Act} {w : World} (tail : List Nat) (t : PT) (hm : P.follows .mixedOrders = true) (hok : (Region.noSelect ops && ptOk .any ops tail t (Array.replicate ops.size false) && (t.size == ops.size)) = true)
    (hQ : ∀ c a d v w, Q (.panic c) (a.put d v) w → Q (.panic c) a w) (h : PlannedT P ops Q (t.at_ ops) a w.drew) : (Code.region id ops true).wp P Q a w := by
  simp only [Bool.and_eq_true, beq_iff_eq] at hok
  obtain ⟨⟨h1, h2⟩, h3⟩ := hok
  have := wpAny_of_D _ _ _ _ (pt_sound h1 hQ t _ a w.drew (closed_none _) h2 h.out)
  rw [h3] at this
  exact wp_region_any hm this

variable {a : Act} {w : World} {o o' : Oper} {s t : PTo}
theorem pt_nil (h : Q .normal a w) : PlannedT P ops Q .nil a w := ⟨h⟩
theorem pt_free (hw : Region.wanted o (yielded ops a.tmps) = true) (h : ∀ K : Act → Prop, (∀ a', PlannedT P ops Q t a' w → K a') → o.quiet P a (Ext w) K) : PlannedT P ops Q (.free o t) a w := by
  refine ⟨?_⟩
  unfold wpT
  rw [if_pos hw]
  exact h _ fun _ h => h.out
theorem pt_pure (hw : Region.wanted o (yielded ops a.tmps) = true) (h : ∀ K : Act → Prop, (∀ a', PlannedT P ops Q t a' w → K a') → o.quiet P a (fun _ => True) K) : PlannedT P ops Q (.pure o t) a w := by
  refine ⟨?_⟩
  unfold wpT
  rw [if_pos hw]
  exact h _ fun _ h => h.out
theorem pt_pure_skip (hw : Region.wanted o (yielded ops a.tmps) = false) (h : PlannedT P ops Q t (a.put o.dst undef) w) : PlannedT P ops Q (.pure o t) a w := by
  refine ⟨?_⟩
  unfold wpT
  rw [if_neg (by rw [hw]; exact Bool.false_ne_true)]
  exact h.out
theorem pt_at {v : Value} (hw : Region.wanted o (yielded ops a.tmps) = true) (h1 : ∀ W, Ext w W → (execOp a.eval o).run P W = .ok (.value v) W) (h2 : PlannedT P ops Q t (a.put o.dst v) w) : PlannedT P ops Q (.free o t) a w := by
  refine ⟨?_⟩
  unfold wpT
  rw [if_pos hw]
  refine ⟨v, fun W hW => ?_, h2.out⟩
  unfold Oper.quietAt
  rw [h1 W hW]
  exact ⟨rfl, rfl⟩
/-- a load of one cell -/
theorem pt_load {T : TypeId} {x : Operand} {p : Addr} {v : Value} (hrun : ∀ W, W.cell? p = some v → (Instr.loadAt T (.pointer (some p))).run P W = .ok v W) (hc : w.cell? p = some v) (hlt : p.block < w.heap.size)
    (hw : Region.wanted o (yielded ops a.tmps) = true) (ho : o.op = .load T x) (hx : a.eval x = .pointer (some p)) (h2 : PlannedT P ops Q t (a.put o.dst v) w) : PlannedT P ops Q (.free o t) a w := by
  refine pt_at hw (fun W hW => ?_) h2
  unfold execOp
  rw [ho]
  simp only [hx, Sem.run_bind, hrun W ((hW.cell hlt).trans hc), Result.andThen_ok]
  rfl
theorem pt_free_skip (hw : Region.wanted o (yielded ops a.tmps) = false) (h : PlannedT P ops Q t (a.put o.dst undef) w) : PlannedT P ops Q (.free o t) a w := by
  refine ⟨?_⟩
  unfold wpT
  rw [if_neg (by rw [hw]; exact Bool.false_ne_true)]
  exact h.out
theorem pt_eff (hw : Region.wanted o (yielded ops a.tmps) = true) (h : ∀ K : Act → World → Prop, (∀ a' w', Ext w w' → PlannedT P ops Q t a' w' → K a' w') → o.wp P a w K Q) : PlannedT P ops Q (.eff o t) a w := by
  refine ⟨?_⟩
  unfold wpT
  rw [if_pos hw]
  exact h _ fun _ _ h1 h2 => ⟨h1, h2.out⟩
theorem pt_eff_skip (hw : Region.wanted o (yielded ops a.tmps) = false) (h : PlannedT P ops Q t (a.put o.dst undef) w) : PlannedT P ops Q (.eff o t) a w := by
  refine ⟨?_⟩
  unfold wpT
  rw [if_neg (by rw [hw]; exact Bool.false_ne_true)]
  exact h.out
theorem pt_alt (h1 : PlannedT P ops Q (.eff o s) a w) (h2 : PlannedT P ops Q (.eff o' t) a w) : PlannedT P ops Q (.alt o s o' t) a w := by
  have e1 := h1.out
  have e2 := h2.out
  unfold wpT at e1 e2
  refine ⟨?_⟩
  unfold wpT
  exact ⟨e1, e2⟩
theorem pt_last (hw : Region.wanted o (yielded ops a.tmps) = true) (h : ∀ K : Act → World → Prop, (∀ a' w', PlannedT P ops Q t a' w' → K a' w') → o.wp P a w K Q) : PlannedT P ops Q (.last o t) a w := by
  refine ⟨?_⟩
  unfold wpT
  rw [if_pos hw]
  exact h _ fun _ _ h2 => h2.out
end
end Go.Proofs.YtpimnaojhaeiiaaGreatDoor
namespace Go.Proofs.YtpimnaojhaeiiaaGreatDoor
open Go.RowKit Go.Shelf
open VM (Stp)
noncomputable def undoReg : Code := match Tryz.f7.body with | some (.seq _ (.seq r _)) => r | _ => .skip
theorem load_st (p : Addr) (v : Value) (W : World) (h : W.cell? p = some v) : (Instr.loadAt 24 (.pointer (some p))).run Tryz.prog W = .ok v W := by simp [go_sem, h]
structure RegPost (W W2 : World) (O : Nat) (l2 l3 : List Stp) (A5 A6 : Option Addr) (c5 c6 : Nat) : Prop where
  below : Below W.heap.size W W2
  box : W2.heap[O]? = some (.cells #[.slice none 0 0, .slice A5 l3.length c5, .slice A6 l2.length c6] 26 (0, 0))
  o5 : W2.ownsRow W.heap.size 28 6 (.slice A5 l3.length c5) l3.length (flat l3)
  o6 : W2.ownsRow W.heap.size 28 6 (.slice A6 l2.length c6) l2.length (flat l2)
  apart : Apart (.slice A5 l3.length c5) (.slice A6 l2.length c6)
  n5 : (Value.slice A5 l3.length c5).ownBlock ≠ some O
  n6 : (Value.slice A6 l2.length c6).ownBlock ≠ some O
  lo : W.heap.size ≤ O
theorem own_kept {w w' : World} {B base size n : Nat} {e : TypeId} {v : Value} {xs : List Value} (h : w.ownsRow base e size v n xs) (hb : Below B w w') (hB : w.heap.size ≤ B) : w'.ownsRow base e size v n xs := by
  refine ⟨h.1, h.2.imp id ?_⟩
  rintro ⟨g, cap, cur, h1, h2, h3, h4⟩
  exact ⟨g, cap, cur, h1, h2, by rw [hb.block g (Nat.lt_of_lt_of_le (Array.getElem?_eq_some_iff.1 h3).1 hB)]; exact h3, h4⟩
theorem own_less {w : World} {B C size n : Nat} {e : TypeId} {v : Value} {xs : List Value} (h : w.ownsRow B e size v n xs) (hC : C ≤ B) : w.ownsRow C e size v n xs := own_base h hC
theorem reg_fin_a {W w1 w2 : World} {l2 l3 : List Stp} {A5 A6 : Option Addr} {c5 c6 : Nat} (hb1 : Below W.heap.size W w1) (hx2 : Below w1.heap.size w1 w2) (h5 : w1.ownsRow W.heap.size 28 6 (.slice A5 l3.length c5) l3.length (flat l3))
    (h6 : w2.ownsRow w1.heap.size 28 6 (.slice A6 l2.length c6) l2.length (flat l2)) : RegPost W (w2.alloc (.cells #[.slice none 0 0, .slice A5 l3.length c5, .slice A6 l2.length c6] 26)) w2.heap.size l2 l3 A5 A6 c5 c6 := by
  have hb2 : Below W.heap.size W w2 := hb1.trans (hx2.mono hb1.size)
  have h5' := own_kept h5 hx2 (Nat.le_refl _)
  refine ⟨hb2.alloc hb2.size _, heap_alloc_new w2 _, h5'.alloc _, (own_less h6 hb1.size).alloc _, fun k e f => ?_, fun e => ?_, fun e => ?_, hb2.size⟩
  · have := (h5.lt k e).2; have := (h6.lt k f).1; omega
  · have := (h5'.lt _ e).2; omega
  · have := (h6.lt _ e).2; omega
theorem z3facts {w : World} {O : Nat} {a b c : Value} {t : TypeId} (h : w.heap[O]? = some (.cells #[a, b, c] t (0, 0))) :
    w.cell? ⟨O, 0, none⟩ = some a ∧ w.cell? ⟨O, 1, none⟩ = some b ∧ w.cell? ⟨O, 2, none⟩ = some c ∧ w.frozen? ⟨O, 0, none⟩ = false ∧ w.frozen? ⟨O, 1, none⟩ = false ∧ w.frozen? ⟨O, 2, none⟩ = false := by
  refine ⟨?_, ?_, ?_, ?_, ?_, ?_⟩ <;> simp [World.cell?, World.frozen?, h]
theorem reg_fin_b {W w2 : World} {O : Nat} {l2 l3 : List Stp} {A5 A6 : Option Addr} {c5 c6 : Nat} (hb2 : Below W.heap.size W w2) (hz : w2.heap[O]? = some (.cells #[.slice none 0 0, .slice none 0 0, .slice none 0 0] 26 (0, 0)))
    (h5 : w2.ownsRow W.heap.size 28 6 (.slice A5 l3.length c5) l3.length (flat l3)) (h6 : w2.ownsRow W.heap.size 28 6 (.slice A6 l2.length c6) l2.length (flat l2)) (hap : Apart (.slice A5 l3.length c5) (.slice A6 l2.length c6))
    (n5 : (Value.slice A5 l3.length c5).ownBlock ≠ some O) (n6 : (Value.slice A6 l2.length c6).ownBlock ≠ some O) (hO : W.heap.size ≤ O) :
    RegPost W (((w2.setCell ⟨O, 0, none⟩ (.slice none 0 0)).setCell ⟨O, 1, none⟩ (.slice A5 l3.length c5)).setCell ⟨O, 2, none⟩ (.slice A6 l2.length c6)) O l2 l3 A5 A6 c5 c6 := by
  refine ⟨((hb2.setCell (p := ⟨O, 0, none⟩) hO _).setCell (p := ⟨O, 1, none⟩) hO _).setCell (p := ⟨O, 2, none⟩) hO _, by simp [World.setCell, Array.getElem?_modify, hz], ?_, ?_, hap, n5, n6, hO⟩
  · exact ownsRow_setCell_other (ownsRow_setCell_other (ownsRow_setCell_other h5 n5 _ (a := ⟨O, 0, none⟩)) n5 _ (a := ⟨O, 1, none⟩)) n5 _ (a := ⟨O, 2, none⟩)
  · exact ownsRow_setCell_other (ownsRow_setCell_other (ownsRow_setCell_other h6 n6 _ (a := ⟨O, 0, none⟩)) n6 _ (a := ⟨O, 1, none⟩)) n6 _ (a := ⟨O, 2, none⟩)
set_option maxRecDepth 100000 in
set_option maxHeartbeats 4000000 in
theorem undo_reg (W : World) (B R : Nat) (A1 A2 A3 : Option Addr) (l1 l2 l3 : List Stp) (c1 c2 c3 : Nat) (h2 : At6 W A2 l2) (h3 : At6 W A3 l3) (hl2 : l2.length ≤ 1000) (hl3 : l3.length ≤ 1000) (hB : B < W.heap.size)
    (b1 : W.cell? ⟨B, 1, none⟩ = some (.slice A2 l2.length c2)) (b2 : W.cell? ⟨B, 2, none⟩ = some (.slice A3 l3.length c3)) {Q : Exit → Act → World → Prop}
    (hp : ∀ c a d v w, Q (.panic c) (Act.put a d v) w → Q (.panic c) a w)
    (hQ : ∀ W2 O A5 A6 c5 c6, RegPost W W2 O l2 l3 A5 A6 c5 c6 → Q .normal { tmps := #[.agg #[.slice A1 l1.length c1, .slice A2 l2.length c2, .slice A3 l3.length c3], .pointer (some ⟨B, 0, none⟩), .pointer (some ⟨R, 0, none⟩), .pointer (some ⟨O, 0, none⟩), undef, undef,
      .pointer (some ⟨B, 2, none⟩), .slice A3 l3.length c3, .slice A5 l3.length c5, .pointer (some ⟨B, 1, none⟩), .slice A2 l2.length c2, .slice A6 l2.length c6, .agg #[.slice none 0 0, .slice A5 l3.length c5, .slice A6 l2.length c6],
      undef, undef, undef, undef, undef, undef, undef, undef, undef, undef, undef, undef, undef, undef, undef, undef], defers := [] } W2) :
    undoReg.wp Tryz.prog Q { tmps := #[.agg #[.slice A1 l1.length c1, .slice A2 l2.length c2, .slice A3 l3.length c3], .pointer (some ⟨B, 0, none⟩), .pointer (some ⟨R, 0, none⟩), undef, undef, undef, undef, undef, undef, undef, undef, undef, undef, undef, undef, undef, undef, undef, undef, undef, undef, undef, undef, undef, undef, undef, undef, undef, undef], defers := [] } W := by
  unfold undoReg
  conv => arg 2; whnf
  have hs0 : W.drew.heap.size = W.heap.size := rfl
  refine wp_region_tree [8] (.free 0 (.free 1 (.free 3 (.free 4 (.alt 2 (.alt 5 (.free 6 (.eff 7 (.last 8 (.nil)))) 7 (.eff 5 (.free 6 (.last 8 (.nil))))) 7 (.eff 2 (.eff 5 (.free 6 (.last 8 (.nil)))))))))) (by kernel_rfl) (by kernel_rfl) hp ?_
  conv => arg 4; whnf
  conv => arg 4; arg 1; whnf
  refine pt_free (by rfl) (fun K hK => ?_)
  go_big_quiet_op
  refine ⟨_, fun _ _ => rfl, hK _ ?_⟩
  clear hK K
  conv => arg 4; whnf
  conv => arg 4; arg 1; whnf
  refine pt_load (fun W h => load_st _ _ W h) (p := ⟨B, 2, none⟩) b2 hB (by rfl) rfl rfl ?_
  simp only [Act.put, List.setIfInBounds_toArray, List.set_cons_zero, List.set_cons_succ]
  conv => arg 4; whnf
  conv => arg 4; arg 1; whnf
  refine pt_free (by rfl) (fun K hK => ?_)
  go_big_quiet_op
  refine ⟨_, fun _ _ => rfl, hK _ ?_⟩
  clear hK K
  conv => arg 4; whnf
  conv => arg 4; arg 1; whnf
  refine pt_load (fun W h => load_st _ _ W h) (p := ⟨B, 1, none⟩) b1 hB (by rfl) rfl rfl ?_
  simp only [Act.put, List.setIfInBounds_toArray, List.set_cons_zero, List.set_cons_succ]
  conv => arg 4; whnf
  have hd3 : At6 W.drew A3 l3 := h3
  have hd2 : At6 W.drew A2 l2 := h2
  refine pt_alt ?_ ?_
  · skip
    conv => arg 4; whnf
    conv => arg 4; arg 1; whnf
    refine pt_eff (by rfl) (fun K hK => ?_)
    go_wp2_with fail
    refine (clone6 _ A3 l3 c3 hd3 hl3).mono ?_
    rintro e w1 ⟨v, rfl, hown, hx1⟩
    refine hK _ _ hx1 ?_
    clear hK K
    obtain ⟨A5, c5, rfl, hc5⟩ := own_form hown
    conv => arg 4; whnf
    refine pt_alt ?_ ?_
    · skip
      conv => arg 4; whnf
      conv => arg 4; arg 1; whnf
      refine pt_eff (by rfl) (fun K hK => ?_)
      go_wp2_with fail
      refine (clone6 _ A2 l2 c2 (hd2.below hx1) hl2).mono ?_
      rintro e w2 ⟨v, rfl, hown2, hx2⟩
      refine hK _ _ hx2 ?_
      clear hK K
      obtain ⟨A6, c6, rfl, hc6⟩ := own_form hown2
      conv => arg 4; whnf
      conv => arg 4; arg 1; whnf
      refine pt_free (by rfl) (fun K hK => ?_)
      go_big_quiet_op
      refine ⟨_, fun _ _ => rfl, hK _ ?_⟩
      clear hK K
      conv => arg 4; whnf
      conv => arg 4; arg 1; whnf
      refine pt_eff (by rfl) (fun K hK => ?_)
      go_wp2
      refine hK _ _ ((Below.refl _ _).alloc (Nat.le_refl _) _) ?_
      clear hK K
      conv => arg 4; whnf
      conv => arg 4; arg 1; whnf
      refine pt_last (by rfl) (fun K hK => ?_)
      go_wp2
      refine pt_nil (hQ _ _ _ _ _ _ ?_)
      have hb1 : Below W.heap.size W w1 := (Below.refl _ W).drew.trans hx1
      have hb2 : Below W.heap.size W w2 := hb1.trans (hx2.mono hb1.size)
      exact reg_fin_a hb1 hx2 hown hown2
    · skip
      conv => arg 4; whnf
      conv => arg 4; arg 1; whnf
      refine pt_eff (by rfl) (fun K hK => ?_)
      go_wp2
      refine hK _ _ ((Below.refl _ _).alloc (Nat.le_refl _) _) ?_
      clear hK K
      conv => arg 4; whnf
      conv => arg 4; arg 1; whnf
      refine pt_eff (by rfl) (fun K hK => ?_)
      go_wp2_with fail
      refine (clone6 _ A2 l2 c2 ((hd2.below hx1).alloc _) hl2).mono ?_
      rintro e w2 ⟨v, rfl, hown2, hx2⟩
      refine hK _ _ hx2 ?_
      clear hK K
      obtain ⟨A6, c6, rfl, hc6⟩ := own_form hown2
      have zb := (hx2.block w1.heap.size (by rw [World.size_alloc]; exact Nat.lt_succ_self _)).trans (heap_alloc_new w1 _)
      obtain ⟨z0, z1, z2, z3, z4, z5⟩ := z3facts zb
      conv => arg 4; whnf
      conv => arg 4; arg 1; whnf
      refine pt_free (by rfl) (fun K hK => ?_)
      go_big_quiet_op
      refine ⟨_, fun _ _ => rfl, hK _ ?_⟩
      clear hK K
      conv => arg 4; whnf
      conv => arg 4; arg 1; whnf
      refine pt_last (by rfl) (fun K hK => ?_)
      go_wp2
      refine pt_nil (hQ _ _ _ _ _ _ ?_)
      have hb1 : Below W.heap.size W w1 := (Below.refl _ W).drew.trans hx1
      have hb2 : Below W.heap.size W w2 := (hb1.alloc hb1.size _).trans (hx2.mono (by rw [World.size_alloc]; have := hb1.size; omega))
      refine reg_fin_b hb2 zb (own_kept (hown.alloc _) hx2 (Nat.le_refl _)) (own_less hown2 (by rw [World.size_alloc]; have := hb1.size; omega)) (fun k e f => ?_) (fun e => ?_) (fun e => ?_) hb1.size
      · have := (hown.lt k e).2; have := (hown2.lt k f).1; rw [World.size_alloc] at this; omega
      · have := (hown.lt _ e).2; omega
      · have := (hown2.lt _ e).1; rw [World.size_alloc] at this; omega
  · skip
    conv => arg 4; whnf
    conv => arg 4; arg 1; whnf
    refine pt_eff (by rfl) (fun K hK => ?_)
    go_wp2
    refine hK _ _ ((Below.refl _ _).alloc (Nat.le_refl _) _) ?_
    clear hK K
    conv => arg 4; whnf
    conv => arg 4; arg 1; whnf
    refine pt_eff (by rfl) (fun K hK => ?_)
    go_wp2_with fail
    refine (clone6 _ A3 l3 c3 (hd3.alloc _) hl3).mono ?_
    rintro e w1 ⟨v, rfl, hown, hx1⟩
    refine hK _ _ hx1 ?_
    clear hK K
    obtain ⟨A5, c5, rfl, hc5⟩ := own_form hown
    conv => arg 4; whnf
    conv => arg 4; arg 1; whnf
    refine pt_eff (by rfl) (fun K hK => ?_)
    go_wp2_with fail
    refine (clone6 _ A2 l2 c2 ((hd2.alloc _).below hx1) hl2).mono ?_
    rintro e w2 ⟨v, rfl, hown2, hx2⟩
    refine hK _ _ hx2 ?_
    clear hK K
    obtain ⟨A6, c6, rfl, hc6⟩ := own_form hown2
    have za := (hx1.block W.heap.size (by rw [World.size_alloc]; exact Nat.lt_succ_self _)).trans (heap_alloc_new W.drew _)
    have zb := (hx2.block W.heap.size (Array.getElem?_eq_some_iff.1 za).1).trans za
    obtain ⟨z0, z1, z2, z3, z4, z5⟩ := z3facts zb
    conv => arg 4; whnf
    conv => arg 4; arg 1; whnf
    refine pt_free (by rfl) (fun K hK => ?_)
    go_big_quiet_op
    refine ⟨_, fun _ _ => rfl, hK _ ?_⟩
    clear hK K
    conv => arg 4; whnf
    conv => arg 4; arg 1; whnf
    refine pt_last (by rfl) (fun K hK => ?_)
    go_wp2
    refine pt_nil (hQ _ _ _ _ _ _ ?_)
    have e1 : (W.drew.alloc (.cells #[.slice none 0 0, .slice none 0 0, .slice none 0 0] 26)).heap.size = W.heap.size + 1 := by rw [World.size_alloc]; rfl
    have hb0 : Below W.heap.size W (W.drew.alloc (.cells #[.slice none 0 0, .slice none 0 0, .slice none 0 0] 26)) := (Below.refl _ W).drew.alloc (Nat.le_refl _) _
    have hb1 : Below W.heap.size W w1 := hb0.trans (hx1.mono (by omega))
    have hb2 : Below W.heap.size W w2 := hb1.trans (hx2.mono hb1.size)
    have g5 := fun k e => (hown.lt k e)
    have g6 := fun k e => (hown2.lt k e)
    refine reg_fin_b hb2 zb (own_kept (own_less hown (by omega)) hx2 (Nat.le_refl _)) (own_less hown2 hb1.size) (fun k e f => ?_) (fun e => ?_) (fun e => ?_) (Nat.le_refl _)
    · have := (g5 k e).2; have := (g6 k f).1; omega
    · have := (g5 _ e).1; omega
    · have := (g6 _ e).1; have := (Array.getElem?_eq_some_iff.1 za).1; omega
end Go.Proofs.YtpimnaojhaeiiaaGreatDoor
namespace Go.Proofs.YtpimnaojhaeiiaaGreatDoor
open Go.RowKit Go.Shelf
open VM (Stp)
attribute [local go_sem] Oper.semAt_some
/-- a step with the kind that undoes its kind -/
def turnS (x : Stp) : Stp := { x with k := VM.turnK x.k }
structure UndoPost (w w' : World) (l1 l2 l3 : List Stp) (e : Ending) : Prop where
  out : ∃ A4 A5 A6 c4 c5 c6, e = .returned (.agg #[.slice A4 l1.length c4, .slice A5 l3.length c5, .slice A6 l2.length c6]) ∧
    w'.ownsRow w.heap.size 28 6 (.slice A4 l1.length c4) l1.length (flat (l1.reverse.map turnS)) ∧
    w'.ownsRow w.heap.size 28 6 (.slice A5 l3.length c5) l3.length (flat l3) ∧ w'.ownsRow w.heap.size 28 6 (.slice A6 l2.length c6) l2.length (flat l2) ∧
    Apart (.slice A4 l1.length c4) (.slice A5 l3.length c5) ∧ Apart (.slice A4 l1.length c4) (.slice A6 l2.length c6) ∧ Apart (.slice A5 l3.length c5) (.slice A6 l2.length c6) ∧ Below w.heap.size w w'
theorem blkSet {w : World} {k : Nat} {a : Addr} {v : Value} (h : k ≠ a.block) : (w.setCell a v).heap[k]? = w.heap[k]? := by
  simp [World.setCell, Array.getElem?_modify, Ne.symm h]
theorem cells_new (W : World) (x : Stp) (t : TypeId) {G : Nat} (hG : W.heap.size = G) : ∀ j u, (vals x)[j]? = some u → (W.alloc (.cells (vals x).toArray t)).cell? ((⟨G, 0, none⟩ : Addr).add j) = some u := fun j u hu => by
  subst hG
  have e1 : (⟨W.heap.size, 0, none⟩ : Addr).add j = ⟨W.heap.size, j, none⟩ := by unfold Addr.add; split <;> simp_all
  rw [e1]
  simp only [World.cell?]
  rw [heap_alloc_new W (.cells (vals x).toArray t)]
  simpa using hu
theorem own_of_block {W W2 : World} {base size n : Nat} {e : TypeId} {v : Value} {xs : List Value} (h : W.ownsRow base e size v n xs) (hb : ∀ k, v.ownBlock = some k → W2.heap[k]? = W.heap[k]?) : W2.ownsRow base e size v n xs := by
  refine ⟨h.1, h.2.imp id ?_⟩
  rintro ⟨g, cap, cur, rfl, h2, h3, h4⟩
  exact ⟨g, cap, cur, rfl, h2, (hb g rfl).trans h3, h4⟩
theorem spots_v {zs : List Stp} (ys : List (SpotS zs)) (h : ys.map SpotS.i = (List.range' 0 zs.length).reverse) : ys.map (fun x => turnS x.v) = zs.reverse.map turnS := by
  have h1 : ys.map (fun x => turnS x.v) = (ys.map SpotS.i).map (fun i => turnS ((zs[i]?).getD ⟨0, [], 0, 0, 0, []⟩)) := by
    rw [List.map_map]
    apply List.map_congr_left
    intro x _
    simp [x.h]
  rw [h1, h, List.map_reverse, List.map_reverse]
  congr 1
  apply List.ext_getElem?
  intro i
  rw [List.getElem?_map, List.getElem?_map]
  by_cases hi : i < zs.length
  · simp [List.getElem?_range' hi, List.getElem?_eq_getElem hi]
  · rw [List.getElem?_eq_none (by simp; omega), List.getElem?_eq_none (by omega)]; rfl
theorem SpotS.ne : ∀ {zs : List Stp}, SpotS zs → zs ≠ []
  | _, ⟨i, v, h⟩, e => by subst e; simp at h
/-- Patch O, box NX of the iterator; what is done. -/
structure USt (w : World) (O NX : Nat) (l2 l3 : List Stp) (A5 A6 : Option Addr) (c5 c6 : Nat) (v : Value) (done : List Stp) (W : World) : Prop where
  box : W.heap[O]? = some (.cells #[v, .slice A5 l3.length c5, .slice A6 l2.length c6] 26 (0, 0))
  res : W.heap[w.heap.size + 1]? = some (.cells #[.slice none 0 0, .slice none 0 0, .slice none 0 0] 26 (0, 0))
  own : W.ownsRow (NX + 1) 28 6 v done.length (flat done)
  o5 : W.ownsRow w.heap.size 28 6 (.slice A5 l3.length c5) l3.length (flat l3)
  o6 : W.ownsRow w.heap.size 28 6 (.slice A6 l2.length c6) l2.length (flat l2)
  below : Below w.heap.size w W
  size : NX + 1 ≤ W.heap.size
theorem own_not_other {W : World} {base size n r : Nat} {e : TypeId} {v : Value} {xs : List Value} (h : W.ownsRow base e size v n xs) {o : Obj} (ho : W.heap[r]? = some o) (hc : o.isCells = false) : v.ownBlock ≠ some r := fun e => by
  obtain ⟨cur, hk⟩ := own_kind h e
  rw [hk] at ho; cases ho; cases hc
theorem own_other_row {W W' : World} {base size n : Nat} {e : TypeId} {v : Value} {xs : List Value} {row : Option Nat} (h : W.ownsRow base e size v n xs) (hg : W.grownBy W' row) (hr : ∀ r, row = some r → v.ownBlock ≠ some r) : W'.ownsRow base e size v n xs := by
  refine h.kept hg ?_
  cases hk : v.ownBlock with
  | none => exact .inl rfl
  | some k => exact .inr fun e => hr k e.symm hk
theorem cells_other_row {W W' : World} {row : Option Nat} {k : Nat} {cs : Array Value} {t : TypeId} {f : Nat × Nat} (h : W.heap[k]? = some (.cells cs t f)) (hg : W.grownBy W' row) (hr : ∀ r, row = some r → ∃ o : Obj, W.heap[r]? = some o ∧ o.isCells = false) : W'.heap[k]? = some (.cells cs t f) :=
  (hg.block k (Array.getElem?_eq_some_iff.1 h).1 (fun e => by obtain ⟨o, ho, hc⟩ := hr k e.symm; rw [h] at ho; cases ho; cases hc)).trans h
theorem USt.kept {w : World} {O NX : Nat} {l2 l3 : List Stp} {A5 A6 : Option Addr} {c5 c6 : Nat} {v : Value} {done : List Stp} {W W' : World} {row : Option Nat} (h : USt w O NX l2 l3 A5 A6 c5 c6 v done W) (hg : W.grownBy W' row)
    (hr : ∀ r, row = some r → NX + 1 ≤ r ∧ ∃ o : Obj, W.heap[r]? = some o ∧ o.isCells = false) (hN : w.heap.size ≤ NX) : USt w O NX l2 l3 A5 A6 c5 c6 v done W' := by
  have hr2 := fun r e => (hr r e).2
  have no : ∀ {base size n : Nat} {e : TypeId} {u : Value} {xs : List Value}, W.ownsRow base e size u n xs → ∀ r, row = some r → u.ownBlock ≠ some r := fun hu r e => by
    obtain ⟨o, ho, hc⟩ := hr2 r e; exact own_not_other hu ho hc
  exact ⟨cells_other_row h.box hg hr2, cells_other_row h.res hg hr2, own_other_row h.own hg (no h.own), own_other_row h.o5 hg (no h.o5), own_other_row h.o6 hg (no h.o6),
    h.below.grown hg h.below.size (fun k e => by have := (hr k e).1; omega), Nat.le_trans h.size hg.size⟩
set_option maxRecDepth 100000 in
set_option maxHeartbeats 2000000 in
theorem undo_any (w : World) (A1 A2 A3 : Option Addr) (l1 l2 l3 : List Stp) (c1 c2 c3 : Nat) (h1 : At6 w A1 l1) (h2 : At6 w A2 l2) (h3 : At6 w A3 l3) (hl1 : l1.length ≤ 1000) (hl2 : l2.length ≤ 1000) (hl3 : l3.length ≤ 1000) :
    Calls Tryz.prog 7 #[.agg #[.slice A1 l1.length c1, .slice A2 l2.length c2, .slice A3 l3.length c3]] w fun e w' => UndoPost w w' l1 l2 l3 e := by
  refine (callsIn_wide (n := 3)).1 ?_
  refine callsIn_of_wp_marks Tryz.func7 rfl trivial ?_ rfl
  simp only [Tryz.ntmps7, List.size_toArray, List.length_cons, List.length_nil, Nat.reduceAdd, Nat.reduceSub, Array.replicate_succ, Array.replicate_zero, List.push_toArray, List.append_toArray, List.nil_append, List.cons_append]
  have H1 := Lib.hid h1
  have H2 := Lib.hid h2
  have H3 := Lib.hid h3
  clear h1 h2 h3
  gi_wp2
  obtain ⟨W, hW⟩ : ∃ W, W = ((w.alloc (.cells #[.slice A1 l1.length c1, .slice A2 l2.length c2, .slice A3 l3.length c3] 26)).alloc (.cells #[.slice none 0 0, .slice none 0 0, .slice none 0 0] 26)) := ⟨_, rfl⟩
  have b0 : W.cell? ⟨w.heap.size, 0, none⟩ = some (.slice A1 l1.length c1) := by rw [hW]; simp
  have b1 : W.cell? ⟨w.heap.size, 1, none⟩ = some (.slice A2 l2.length c2) := by rw [hW]; simp
  have b2 : W.cell? ⟨w.heap.size, 2, none⟩ = some (.slice A3 l3.length c3) := by rw [hW]; simp
  have k2 : At6 W A2 l2 := by rw [hW]; exact (H2.out.alloc _).alloc _
  have k3 : At6 W A3 l3 := by rw [hW]; exact (H3.out.alloc _).alloc _
  have hs2 : W.heap.size = w.heap.size + 2 := by rw [hW]; simp
  have hbW : Below w.heap.size w W := by rw [hW]; exact ((Below.refl _ _).alloc (Nat.le_refl _) _).alloc (by simp) _
  have hW0 : W.heap[w.heap.size + 1]? = some (.cells #[.slice none 0 0, .slice none 0 0, .slice none 0 0] 26) := by rw [hW]; simpa using heap_alloc_new (w.alloc (.cells #[.slice A1 l1.length c1, .slice A2 l2.length c2, .slice A3 l3.length c3] 26)) (.cells #[.slice none 0 0, .slice none 0 0, .slice none 0 0] 26)
  rw [← hW]
  clear hW
  refine wpIn_wide.2 ?_
  refine wp_region_noPanic ?_
  refine undo_reg W w.heap.size (w.heap.size + 1) A1 A2 A3 l1 l2 l3 c1 c2 c3 k2 k3 hl2 hl3 (by omega) b1 b2 (fun _ _ _ _ _ h => h) ?_
  intro W2 O A5 A6 c5 c6 HP
  refine NoPanic.normal ?_
  have x0 := (HP.below.cell (p := ⟨w.heap.size, 0, none⟩) (by show w.heap.size < W.heap.size; omega)).trans b0
  have hR2 := (HP.below.block (w.heap.size + 1) (by omega)).trans hW0
  have hBw : Below w.heap.size w W2 := hbW.trans (HP.below.mono hbW.size)
  clear b0 b1 b2 k2 k3 hW0 hbW
  gi_wp2_with (refine ⟨trivial, ?_⟩; gi_at_call 15; refine (backS_in Fence.wide 2 trivial rfl _ _ _ _).mono ?_; rintro e w' ⟨rfl, rfl⟩)
  obtain ⟨NX, hNX⟩ : ∃ NX, W2.heap.size = NX := ⟨_, rfl⟩
  obtain ⟨W4, hW4⟩ : ∃ W4, W4 = W2.alloc (.cells #[.slice A1 l1.length c1] 24) := ⟨_, rfl⟩
  have hB4 : Below W2.heap.size W2 W4 := by rw [hW4]; exact (Below.refl _ _).alloc (Nat.le_refl _) _
  have hs4 : W4.heap.size = NX + 1 := by rw [hW4, ← hNX]; simp
  have hx5 : W4.heap[NX]? = some (.cells #[.slice A1 l1.length c1] 24 (0, 0)) := by rw [hW4, ← hNX]; exact heap_alloc_new W2 _
  have hx4 : W4.cell? ⟨NX, 0, none⟩ = some (.slice A1 l1.length c1) := by simp [World.cell?, hx5]
  have hO2 : O < W2.heap.size := (Array.getElem?_eq_some_iff.1 HP.box).1
  have hOlo := HP.lo
  have hw2 := hBw.size
  have F4 : USt w O NX l2 l3 A5 A6 c5 c6 (.slice none 0 0) [] W4 :=
    ⟨(hB4.block O hO2).trans HP.box, (hB4.block _ (by omega)).trans hR2, World.ownsRow_nil _ _ _ _, own_less (own_below HP.o5 hB4) (by omega), own_less (own_below HP.o6 hB4) (by omega), hBw.trans (hB4.mono hBw.size), by omega⟩
  rw [← hW4, hNX]
  clear hW4
  have K1 := H1.out.below (hBw.trans (hB4.mono hBw.size))
  obtain ⟨g, o, hA, hgb, hgN, hg⟩ : ∃ g o, (l1 ≠ [] → A1 = some ⟨g, o, none⟩) ∧ (l1 ≠ [] → g < w.heap.size) ∧ g < NX ∧ W4.rangeAt g o (flat l1) := by
    by_cases h : l1 = []
    · exact ⟨0, 0, fun e => absurd h e, fun e => absurd h e, by omega, by rw [h]; intro i v hv; simp [flat] at hv⟩
    · obtain ⟨b, o, e, _, hr⟩ := K1 h
      obtain ⟨b', o', e', hb, _⟩ := H1.out h
      rw [e] at e'; cases e'
      exact ⟨b, o, fun _ => e, fun _ => hb, by omega, hr⟩
  have hwN : w.heap.size ≤ NX := by omega
  obtain ⟨iS, hiS, hzS, hsS, hbS⟩ := info_parts eStep.2.1
  refine wpIn_rangeFunc_ownH rfl (by omega) (gf := 24) (lb := #[.pointer (some ⟨NX, 0, none⟩)]) rfl trivial (enters_of Tryz.func24 (by kernel_rfl) rfl)
    (backS_stops Fence.wide (3 - 1) trivial rfl (by omega) NX g o A1 c1 l1 hl1 hA W4 (by omega) (fun h => by have := hgb h; omega) hx4 hg)
    (fun h k => h.trans k) (fun W' l o o' hl' ho _ _ => fun p hp => World.cell?_of_block (World.putObj_heap_other (by rcases hp with hp | hp <;> omega))) (Below.refl _ _) (fun _ => rfl)
    (fun pre W' => ∃ v, USt w O NX l2 l3 A5 A6 c5 c6 v (pre.map fun x => turnS x.v) W')
    (fun _ _ _ => False)
    (fun s A B row hs hg hr => by
      obtain ⟨v, F⟩ := hs
      exact ⟨v, F.kept hg (fun r e => by have := hr r e; rw [hs4] at this; exact this) hwN⟩)
    (fun _ _ _ _ _ hs _ _ => hs)
    ⟨_, F4⟩
    (fun x a' W' => ∃ Bx u, NX + 1 ≤ Bx ∧ W'.heap[Bx]? = some (.cells (vals x.v).toArray 28 (0, 0)) ∧ W'.heap[O]? = some (.cells #[u, .slice A5 l3.length c5, .slice A6 l2.length c6] 26 (0, 0)) ∧ u.ownBlock ≠ some Bx ∧
      a' = { tmps := #[.agg #[.slice A1 l1.length c1, .slice A2 l2.length c2, .slice A3 l3.length c3], .pointer (some ⟨w.heap.size, 0, none⟩), .pointer (some ⟨w.heap.size + 1, 0, none⟩), .pointer (some ⟨O, 0, none⟩), undef, .pointer (some ⟨Bx, 0, none⟩),
        .pointer (some ⟨w.heap.size, 2, none⟩), .slice A3 l3.length c3, .slice A5 l3.length c5, .pointer (some ⟨w.heap.size, 1, none⟩), .slice A2 l2.length c2, .slice A6 l2.length c6, .agg #[.slice none 0 0, .slice A5 l3.length c5, .slice A6 l2.length c6],
        .pointer (some ⟨w.heap.size, 0, none⟩), .slice A1 l1.length c1, .func (.func 24) #[] #[.pointer (some ⟨NX, 0, none⟩)], .int .i64 (x.i : Int), .agg (vals x.v).toArray, undef, undef, undef, undef, undef, undef, undef, undef, undef, undef, undef], defers := [] })
    (fun x a' _ A B row hs hg hr => by
      obtain ⟨Bx, u, h1, h2, h3, h4, h5⟩ := hs
      have hr2 := fun r e => (hr r e).2
      exact ⟨Bx, u, h1, cells_other_row h2 hg hr2, cells_other_row h3 hg hr2, h4, h5⟩) ?assign ?body ?done ?stop
  case assign =>
    intro l pre x W' K hI hK
    dsimp only [encS, vals] at hK ⊢
    obtain ⟨v, F⟩ := hI
    have hgx := hgb x.ne
    clear hA
    have hFs := F.size
    gi_wp2
    refine hK _ _ ((KeepsOthers.alloc _ _).from _) (fun p hp => World.cell?_alloc_lt _ _ _ (by rcases hp with h | h <;> omega)) ⟨v, F.kept (World.grownBy_alloc _ _ none) (by simp) hwN⟩
      ⟨W'.heap.size, v, hFs, heap_alloc_new W' _, (Below.heap_alloc _ _ _ (Array.getElem?_eq_some_iff.1 F.box).1).trans F.box, fun e => by have := (F.own.lt _ e).2; omega, rfl⟩
  case body =>
    rintro l pre x a' W' _ _ ⟨v, F⟩ ⟨Bx, u, hB1, hB2, hB3, hB4, rfl⟩ _
    have hbox := F.box
    obtain rfl : u = v := by rw [hB3] at hbox; injection hbox with h; injection h with h; simpa using h
    have hgx := hgb x.ne
    clear hA
    have hFs := F.size
    obtain ⟨o0, o1, o2, o3, o4, o5⟩ := z3facts F.box
    have q0 : W'.cell? ⟨Bx, 0, none⟩ = some (.int .i64 x.v.k) := by simp [World.cell?, hB2, vals]
    have qf : W'.frozen? ⟨Bx, 0, none⟩ = false := by simp [World.frozen?, hB2]
    have q1 : W'.cell? ⟨Bx, 1, none⟩ = some (.string (VM.bytesOf x.v.s)) := by simp [World.cell?, hB2, vals]
    have q2 : W'.cell? ⟨Bx, 2, none⟩ = some (.int .i64 x.v.a) := by simp [World.cell?, hB2, vals]
    have q3 : W'.cell? ⟨Bx, 3, none⟩ = some (.int .i64 x.v.c) := by simp [World.cell?, hB2, vals]
    have q4 : W'.cell? ⟨Bx, 4, none⟩ = some (.int .i64 x.v.n) := by simp [World.cell?, hB2, vals]
    have q5 : W'.cell? ⟨Bx, 5, none⟩ = some (.string (VM.bytesOf x.v.t)) := by simp [World.cell?, hB2, vals]
    have hOB : Bx ≠ O := by omega
    dsimp only [vals]
    have lt5 : ∀ k, (Value.slice A5 l3.length c5).ownBlock = some k → k < NX ∧ k ≠ O := fun k e => ⟨by have := (HP.o5.lt k e).2; omega, fun h => HP.n5 (by rw [e, h])⟩
    have lt6 : ∀ k, (Value.slice A6 l2.length c6).ownBlock = some k → k < NX ∧ k ≠ O := fun k e => ⟨by have := (HP.o6.lt k e).2; omega, fun h => HP.n6 (by rw [e, h])⟩
    have FH := Lib.hid F
    have hown1 := ownsRow_setCell_other F.own hB4 (.int .i64 (VM.turnK x.v.k)) (a := ⟨Bx, 0, none⟩)
    have hb1 := (blkSet (w := W') (k := O) (a := ⟨Bx, 0, none⟩) (v := .int .i64 (VM.turnK x.v.k)) hOB.symm).trans hbox
    have hOu : u.ownBlock ≠ some O := fun e => by have := (F.own.lt _ e).1; omega
    clear F K1 hg HP hB2 hbox hB3
    obtain ⟨W5, hW5⟩ : ∃ W5, W5 = W'.setCell ⟨Bx, 0, none⟩ (.int .i64 (VM.turnK x.v.k)) := ⟨_, rfl⟩
    rw [← hW5] at hown1 hb1
    have hs5 : W5.heap.size = W'.heap.size := by rw [hW5]; simp
    have HK5 : Hid (KeepsOthers W' W5) := Lib.hid (by rw [hW5]; exact KeepsOthers.setCell _ _ _)
    have HP5 : Hid (∀ k, k < NX + 1 → W5.heap[k]? = W'.heap[k]?) := Lib.hid (fun k hk => by rw [hW5]; exact blkSet (by show k ≠ Bx; omega))
    have HB5 : Hid (Below w.heap.size w W5) := Lib.hid (by rw [hW5]; exact FH.out.below.setCell (p := ⟨Bx, 0, none⟩) (by show w.heap.size ≤ Bx; omega) _)
    gi_wp2_with (first | (refine ⟨trivial, ?_⟩; gi_at_call 16; refine (CallsIn.inRound l (callsIn_wide.2 (turned_any _ _))).mono ?_; rintro e w' ⟨rfl, rfl⟩) | (gi_at_builtin; rw [← hW5]; clear hW5 q0 qf q1 q2 q3 q4 q5 o0 o1 o2 o3 o4 o5; refine wpListIn_append_own _ rfl _ _ 24 rfl (NX + 1) 28 iS (.agg #[.int .i64 0, .string ⟨#[]⟩, .int .i64 0, .int .i64 0, .int .i64 0, .string ⟨#[]⟩]) 6 64 Tryz.underlying24 hiS hzS hsS hbS rfl (by decide) _ _ _ rfl (hown1.alloc _) ⟨_, 0, none⟩ 1 1 (vals (turnS x.v)) rfl rfl (cells_new W5 (turnS x.v) _ hs5) (fun u hu => flat_one (l := [turnS x.v]) u (by simpa [flat] using hu)) (by simp [maxLen]; omega) (by simp; omega) (by rw [World.size_alloc]; omega) ?_; intro v' w3 hown3 hg3 _; obtain ⟨g', cap', rfl⟩ := ownsRow_succ hown3; have hb3 := ((hg3.block O (by rw [World.size_alloc]; omega) (fun e => hOu e.symm)).trans ((Below.heap_alloc _ _ _ (by omega)).trans hb1)); obtain ⟨o0, o1, o2, o3, o4, o5⟩ := z3facts hb3))
    have F := FH.out
    have hk5 := HK5.out
    have hp5 := HP5.out
    have hB5 := HB5.out
    have hub : ∀ k, u.ownBlock = some k → NX + 1 ≤ k := fun k e => (F.own.lt k e).1
    have hblk : ∀ k, k < NX + 1 → k ≠ O → (w3.setCell ⟨O, 0, none⟩ (.slice (some ⟨g', 0, none⟩) (pre.length + 1) cap')).heap[k]? = w'.heap[k]? := fun k hk hne =>
      (blkSet hne).trans ((hg3.block k (by rw [World.size_alloc]; omega) (fun e => by have := hub k e.symm; omega)).trans ((Below.heap_alloc _ _ _ (by omega)).trans (hp5 k hk)))
    have kk := hk5.trans ((KeepsOthers.alloc _ _).trans ((KeepsOthers.of_grownBy hg3 fun j o e ho => by
      obtain ⟨cur, hc⟩ := own_kind (hown1.alloc _) e
      rw [ho] at hc; cases hc; rfl).trans (KeepsOthers.setCell _ ⟨O, 0, none⟩ (.slice (some ⟨g', 0, none⟩) (pre.length + 1) cap'))))
    refine ⟨kk.from _, fun p hp => World.cell?_of_block (hblk _ (by rcases hp with h | h <;> omega) (by rcases hp with h | h <;> omega)), .slice (some ⟨g', 0, none⟩) (pre.length + 1) cap', ?_⟩
    · refine ⟨by simp [World.setCell, Array.getElem?_modify, hb3], (hblk _ (by omega) (by omega)).trans F.res, ?_, own_of_block F.o5 (fun k e => hblk k (by have := (lt5 k e).1; omega) (lt5 k e).2), own_of_block F.o6 (fun k e => hblk k (by have := (lt6 k e).1; omega) (lt6 k e).2), ?_, ?_⟩
      · rw [List.map_append, List.map_cons, List.map_nil, List.length_append, List.length_map, flat_app]
        have := ownsRow_setCell_other hown3 (fun e => by have h : NX + 1 ≤ O := (hown3.lt _ e).1; omega) (.slice (some ⟨g', 0, none⟩) (pre.length + 1) cap') (a := ⟨O, 0, none⟩)
        simpa [flat] using this
      · exact (((hB5.alloc (by omega) _).grown hg3 (by rw [World.size_alloc]; omega) (fun k e => by have := hub k e; omega))).setCell (p := ⟨O, 0, none⟩) (by show w.heap.size ≤ O; omega) _
      · have := hg3.size; rw [World.size_alloc] at this; simp; omega
  case done =>
    rintro D ys W' hD hys ⟨v, F⟩ hK
    rw [spots_v ys hys] at F
    have hown : W'.ownsRow (NX + 1) 28 6 v l1.length (flat (l1.reverse.map turnS)) := by have := F.own; rwa [List.length_map, List.length_reverse] at this
    have FH := Lib.hid F
    have HO := Lib.hid hown
    obtain ⟨A4, c4, rfl, _⟩ := own_form hown
    obtain ⟨o0, o1, o2, _, _, _⟩ := z3facts F.box
    obtain ⟨r0, r1, r2, r3, r4, r5⟩ := z3facts F.res
    rw [hs4] at hD
    clear hA K1 hg hys F hown
    gi_wp2
    have ho := HO.out
    have F := FH.out
    have lt4 : ∀ k, (Value.slice A4 l1.length c4).ownBlock = some k → NX + 1 ≤ k := fun k e => (ho.lt k e).1
    have lt5 : ∀ k, (Value.slice A5 l3.length c5).ownBlock = some k → k < NX ∧ W.heap.size ≤ k := fun k e => ⟨by have := (HP.o5.lt k e).2; omega, (HP.o5.lt k e).1⟩
    have lt6 : ∀ k, (Value.slice A6 l2.length c6).ownBlock = some k → k < NX ∧ W.heap.size ≤ k := fun k e => ⟨by have := (HP.o6.lt k e).2; omega, (HP.o6.lt k e).1⟩
    obtain ⟨W5, hW5⟩ : ∃ W5, W5 = (((W'.setCell ⟨w.heap.size + 1, 0, none⟩ (.slice A4 l1.length c4)).setCell ⟨w.heap.size + 1, 1, none⟩ (.slice A5 l3.length c5)).setCell ⟨w.heap.size + 1, 2, none⟩ (.slice A6 l2.length c6)) := ⟨_, rfl⟩
    have hb5 : ∀ k, k ≠ w.heap.size + 1 → W5.heap[k]? = W'.heap[k]? := fun k hk => by rw [hW5]; exact (blkSet hk).trans ((blkSet hk).trans (blkSet hk))
    have hz : W5.heap[w.heap.size + 1]? = some (.cells #[.slice A4 l1.length c4, .slice A5 l3.length c5, .slice A6 l2.length c6] 26 (0, 0)) := by rw [hW5]; simp [World.setCell, Array.getElem?_modify, F.res]
    have hK2 := (hb5 D (by omega)).trans hK
    have hbl : Below w.heap.size w W5 := by
      rw [hW5]
      exact ((F.below.setCell (p := ⟨w.heap.size + 1, 0, none⟩) (Nat.le_succ _) _).setCell (p := ⟨w.heap.size + 1, 1, none⟩) (Nat.le_succ _) _).setCell (p := ⟨w.heap.size + 1, 2, none⟩) (Nat.le_succ _) _
    have o4' := own_of_block ho (fun k e => hb5 k (by have := lt4 k e; omega))
    have o5' := own_of_block F.o5 (fun k e => hb5 k (by have := lt5 k e; omega))
    have o6' := own_of_block F.o6 (fun k e => hb5 k (by have := lt6 k e; omega))
    rw [← hW5]
    clear hW5 FH HO F ho o0 o1 o2 r0 r1 r2 r3 r4 r5
    have hp : ∀ k, k ≠ D → (W5.putObj D (.deferred none)).heap[k]? = W5.heap[k]? := fun k hk => World.putObj_heap_other hk
    refine ⟨by simp, .inl ⟨_, _, rfl, run_takeDeferred hK2, ?_⟩⟩
    obtain ⟨d0, d1, d2, _, _, _⟩ := z3facts ((hp _ (by omega)).trans hz)
    have dr : ∀ {base size n : Nat} {e : TypeId} {u : Value} {xs : List Value}, W5.ownsRow base e size u n xs → (W5.putObj D (.deferred none)).ownsRow base e size u n xs := fun hu => ownsRow_putObj hu _ hK2 rfl
    refine ⟨.agg #[.slice A4 l1.length c4, .slice A5 l3.length c5, .slice A6 l2.length c6], ?_, ⟨A4, A5, A6, c4, c5, c6, rfl, own_less (dr o4') (by omega), dr o5', dr o6', fun k e f => ?_, fun k e f => ?_, HP.apart, hbl.trans (belowK_b (w := w) (Nat.le_refl _) W5 D _ _ (by omega) hK2 rfl rfl)⟩⟩
    · simp [results, Tryz.f7, go_sem, d0, d1, d2]
    · have := lt4 k e; have := lt5 k f; omega
    · have := lt4 k e; have := lt6 k f; omega
  case stop =>
    rintro D cc pre W' _ _ h _
    exact h.elim
end Go.Proofs.YtpimnaojhaeiiaaGreatDoor
namespace Go.Proofs.YtpimnaojhaeiiaaGreatDoor.VM
open Go Go.RowKit
set_option linter.unusedVariables false
noncomputable section
theorem revT_out : ∀ (n : Nat) (cs acc r : List V), revT n cs acc = some r → cs.length = n * 6 → ∃ l : List Stp, l.length = n ∧ cs = cellsS l ∧ r = cellsS ((l.map turnS).reverse) ++ acc
  | 0, cs, acc, r, h, hl => by
    have : cs = [] := by simpa using hl
    subst this
    rw [revT] at h; cases h
    exact ⟨[], rfl, rfl, rfl⟩
  | n + 1, cs, acc, r, h, hl => by
    unfold revT at h
    split at h
    · rename_i h0; cases h0
    · rename_i n' _ k b c d e f r' hn
      cases hn
      obtain ⟨l, h1, h2, h3⟩ := revT_out n r' _ r h (by simp at hl; omega)
      refine ⟨⟨k, b, c, d, e, f⟩ :: l, by simp [h1], by rw [h2]; rfl, ?_⟩
      rw [h3]
      simp [cellsS, Stp.cells, turnS]
    · cases h
variable {N : Nat} {σ : Mp} {h : Hp} {w : World}
def Okb (x : Stp) : Prop := (∀ b ∈ x.s, b < 256) ∧ ∀ b ∈ x.t, b < 256
theorem Okb.turn {x : Stp} (o : Okb x) : Okb (turnS x) := o
theorem rep_cells : ∀ {l : List Stp} {ys : List Value}, RepL σ (cellsS l) ys → ys = flat l ∧ ∀ x ∈ l, Okb x
  | [], ys, h => by
    have h : RepL σ [] ys := h
    cases h
    exact ⟨rfl, by simp⟩
  | x :: l, ys, h => by
    have h' : RepL σ (.int .i64 x.k :: .str x.s :: .int .i64 x.a :: .int .i64 x.c :: .int .i64 x.n :: .str x.t :: cellsS l) ys := h
    clear h
    match ys, h' with
    | _, .cons _ _ _ _ (.int _ _) (.cons _ _ _ _ (.str _ g2) (.cons _ _ _ _ (.int _ _) (.cons _ _ _ _ (.int _ _) (.cons _ _ _ _ (.int _ _) (.cons _ _ _ _ (.str _ g6) h))))) =>
      obtain ⟨rfl, h2⟩ := rep_cells h
      refine ⟨rfl, ?_⟩
      intro z hz
      rcases List.mem_cons.1 hz with rfl | hz
      · exact ⟨g2, g6⟩
      · exact h2 z hz
theorem cells_rep : ∀ {l : List Stp}, (∀ x ∈ l, Okb x) → RepL σ (cellsS l) (flat l)
  | [], _ => .nil
  | x :: l, h => by
    have hx := h x (by simp)
    exact .cons _ _ _ _ (.int _ _) (.cons _ _ _ _ (.str _ hx.1) (.cons _ _ _ _ (.int _ _) (.cons _ _ _ _ (.int _ _) (.cons _ _ _ _ (.int _ _) (.cons _ _ _ _ (.str _ hx.2) (cells_rep fun y hy => h y (by simp [hy])))))))
/-- a slice of steps at worlds -/
theorem sl_out (R : Rel N σ h w) {v : V} {X : Value} {cs : List V} {n : Nat} (hv : isSlV v = true) (he : elemsV h 6 v = some (cs, n)) (hr : Rep σ v X) {acc r : List V} (ht : revT n cs acc = some r) :
    ∃ A c l, X = .slice A n c ∧ l.length = n ∧ At6 w A l ∧ cs = cellsS l ∧ r = cellsS ((l.map turnS).reverse) ++ acc ∧ ∀ x ∈ l, Okb x := by
  have big : ∀ {B b off m : Nat}, σ B = some (b, m) → ((rdCells h B).bind fun vs => (sub vs off (n * 6)).bind fun l => some (l, n)) = some (cs, n) →
      ∃ l, l.length = n ∧ At6 w (some ⟨b, off, none⟩) l ∧ cs = cellsS l ∧ r = cellsS ((l.map turnS).reverse) ++ acc ∧ ∀ x ∈ l, Okb x := by
    intro B b off m e hb
    rw [Option.bind_eq_some_iff] at hb
    obtain ⟨vs, h1, h2⟩ := hb
    rw [Option.bind_eq_some_iff] at h2
    obtain ⟨cs', h3, h4⟩ := h2
    cases h4
    obtain ⟨el, xs, ys, fz, k1, k2, k3, _⟩ := R.cells e h1
    obtain ⟨s1, s2, _⟩ := sub_some h3
    obtain ⟨l, q1, rfl, q3⟩ := revT_out n cs acc r ht s2
    have hrl : RepL σ (cellsS l) ((xs.drop off).take (n * 6)) := by rw [s1]; exact (k2.drop _).take _
    obtain ⟨q4, q5⟩ := rep_cells hrl
    refine ⟨l, q1, fun hne => ⟨b, off, rfl, (R.has B b m e).2.1, fun i v hv => ?_⟩, rfl, q3, q5⟩
    rw [← q4, List.getElem?_take] at hv
    split at hv
    · rw [List.getElem?_drop] at hv
      have := (List.getElem?_eq_some_iff.1 hv).1
      simp only [World.cell?, k1]
      rw [List.getElem?_toArray, List.getElem?_append_left this]
      simpa using hv
    · cases hv
  cases v <;> simp only [isSlV, Bool.false_eq_true] at hv <;> simp only [elemsV] at he
  case nils =>
    cases he
    cases hr
    obtain ⟨l, q1, q2, q3⟩ := revT_out 0 _ acc r ht rfl
    have : l = [] := by simpa using q1
    subst this
    exact ⟨none, 0, [], rfl, rfl, fun h => absurd rfl h, rfl, q3, by simp⟩
  case emp =>
    cases he
    cases hr with | emp a c =>
    obtain ⟨l, q1, q2, q3⟩ := revT_out 0 _ acc r ht rfl
    have : l = [] := by simpa using q1
    subst this
    exact ⟨a, c, [], rfl, rfl, fun h => absurd rfl h, rfl, q3, by simp⟩
  case sl B off len cap =>
    obtain rfl : len = n := by
      have he2 := he
      rw [Option.bind_eq_some_iff] at he2
      obtain ⟨vs, _, h2⟩ := he2
      rw [Option.bind_eq_some_iff] at h2
      obtain ⟨cs', _, h4⟩ := h2
      cases h4; rfl
    cases hr with | sl _ _ _ _ b m e =>
    obtain ⟨l, q⟩ := big e he
    exact ⟨_, _, l, rfl, q.1, q.2⟩
  case slo B off len lo sz =>
    obtain rfl : len = n := by
      have he2 := he
      rw [Option.bind_eq_some_iff] at he2
      obtain ⟨vs, _, h2⟩ := he2
      rw [Option.bind_eq_some_iff] at h2
      obtain ⟨cs', _, h4⟩ := h2
      cases h4; rfl
    cases hr with | slo _ _ _ _ _ b m c e =>
    obtain ⟨l, q⟩ := big e he
    exact ⟨_, _, l, rfl, q.1, q.2⟩
/-- a block that the machine has already stands for one that nothing stands for -/
theorem Rel.come1 (R : Rel N σ h w) {B b n : Nat} {k : Blk} (hB : B < h.n) (hk : h.t.get B = some k) (hσ : σ B = Option.none) (hb2 : b < w.heap.size) (hN : N ≤ b) (hf : ∀ C m, σ C ≠ some (b, m)) (hr : ∀ o, w.heap[b]? = some o → RepB σ n k o) :
    Rel N (σ.put B (b, n)) h w := by
  have hle : Mp.le σ (σ.put B (b, n)) := Mp.le_put hσ
  have key : ∀ C c m, (σ.put B (b, n)) C = some (c, m) → (C = B ∧ c = b ∧ m = n) ∨ σ C = some (c, m) := fun C c m hC => by
    unfold Mp.put at hC
    split at hC
    · rename_i e; cases hC; exact .inl ⟨e, rfl, rfl⟩
    · exact .inr hC
  refine ⟨fun C c m hC => ?_, fun C D c m q hC hD => ?_, fun C c m hC hlt => ?_, R.base⟩
  · rcases key C c m hC with ⟨rfl, rfl, rfl⟩ | h1
    · exact ⟨hB, hb2, k, hk, fun o ho => (hr o ho).mono hle⟩
    · obtain ⟨h2, h3, k2, h4, h5⟩ := R.has C c m h1
      exact ⟨h2, h3, k2, h4, fun o ho => (h5 o ho).mono hle⟩
  · rcases key C c m hC with ⟨rfl, rfl, rfl⟩ | h1 <;> rcases key D c q hD with ⟨e1, e2, e3⟩ | h2
    · exact .inl e1.symm
    · exact absurd h2 (hf _ _)
    · subst e2; exact absurd h1 (hf _ _)
    · exact R.inj C D c m q h1 h2
  · rcases key C c m hC with ⟨rfl, rfl, rfl⟩ | h1
    · exfalso; omega
    · exact R.old C c m h1 hlt
/-- a row of the call's own as the machine makes it -/
theorem made_row (R : Rel N σ h w) {l : List Stp} {A : Option Addr} {c n base : Nat} (hn : l.length = n) (ho : w.ownsRow base 28 6 (.slice A n c) n (flat l)) (hb : N ≤ base) (hf : ∀ k, (Value.slice A n c).ownBlock = some k → ∀ C m, σ C ≠ some (k, m)) (hs : ∀ x ∈ l, Okb x) :
    ∃ σ', Mp.Ext h.n σ σ' ∧ h.n ≤ (mkS h (cellsS l) n).2.n ∧ Rep σ' (mkS h (cellsS l) n).1 (.slice A n c) ∧ Rel N σ' (mkS h (cellsS l) n).2 w ∧ ∀ C b m, σ' C = some (b, m) → σ C = some (b, m) ∨ (Value.slice A n c).ownBlock = some b := by
  unfold mkS
  cases hz : Nat.beq n 0 with
  | true =>
    obtain rfl := Nat.eq_of_beq_eq_true hz
    exact ⟨σ, Mp.Ext.refl _ _, Nat.le_refl _, .emp _ _, R, fun _ _ _ h => .inl h⟩
  | false =>
    have hn0 : n ≠ 0 := fun e => by subst e; cases hz
    rcases ho.2 with ⟨_, h0⟩ | ⟨g, cap, cur, hv, hg, hh, h1, h2, h3, h4⟩
    · exact absurd h0 hn0
    · cases hv
      have hgl := (Array.getElem?_eq_some_iff.1 hh).1
      simp only [cond_false]
      have R2 : Rel N σ (h.new (.cells (cellsS l) 28 false)) w := R.more _
      refine ⟨σ.put h.n (g, c * 6), Mp.Ext.put R.free (Nat.le_refl _), Nat.le_succ _, .slo _ _ _ _ _ _ _ _ (Mp.put_same _ _ _) h1 (Nat.le_refl _) (by omega), ?_, fun C b m hC => ?_⟩
      · refine Rel.come1 R2 (Nat.lt_succ_self _) (by rw [Hp.get_new, if_pos rfl]) R.free hgl (by omega) (hf g rfl) fun o hob => ?_
        rw [hh] at hob; cases hob
        refine ⟨flat l, cur.toList.drop (n * 6), (0, 0), ?_, cells_rep hs, ?_, fun i _ => by omega⟩
        · rw [← h4, List.take_append_drop]
        · rw [← h4, List.take_append_drop, Array.length_toList, h3]
      · unfold Mp.put at hC
        split at hC
        · cases hC; exact .inr rfl
        · exact .inl hC
theorem undo_enter (args : Array Value) (w : World) : (callFunc 7 args).run Tryz.prog w = .ok (.enter 7 args) w := by
  unfold callFunc
  simp only [Sem.run_bind, run_program, Result.andThen_ok, Tryz.func7, nameOK _ _ Tryz.func7, Bool.false_eq_true, if_false]
  rfl
theorem undoH_ok (N : Nat) (al : List V) (h : Hp) (v : V) (h' : Hp) (hc : undoH al h = some (v, h')) (σ : Mp) (w : World) (xs : List Value) (R : Rel N σ h w) (hr : RepL σ al xs) :
    match (callFunc 7 xs.toArray).run Tryz.prog w with
    | .ok (.value x) w' => Does N σ h w v h' x w'
    | .ok (.enter g ys) w' => Calls Tryz.prog g ys w' fun e w'' => ∃ x, e = .returned x ∧ Does N σ h w v h' x w''
    | _ => False := by
  rw [undo_enter]
  simp only
  unfold undoH at hc
  split at hc
  · rename_i x y z
    cases hs : (isSlV x && isSlV y && isSlV z) with
    | false => rw [hs] at hc; cases hc
    | true =>
      rw [hs] at hc
      simp only [cond_true] at hc
      simp only [Bool.and_eq_true] at hs
      obtain ⟨⟨s1, s2⟩, s3⟩ := hs
      rw [Option.bind_eq_some_iff] at hc
      obtain ⟨⟨ca, na⟩, a1, hc⟩ := hc
      rw [Option.bind_eq_some_iff] at hc
      obtain ⟨⟨cb, nb⟩, b1, hc⟩ := hc
      rw [Option.bind_eq_some_iff] at hc
      obtain ⟨⟨cc, nc⟩, c1, hc⟩ := hc
      cases hle : (Nat.ble na 1000 && Nat.ble nb 1000 && Nat.ble nc 1000) with
      | false => rw [hle] at hc; cases hc
      | true =>
        rw [hle] at hc
        simp only [cond_true] at hc
        simp only [Bool.and_eq_true] at hle
        obtain ⟨⟨l1, l2⟩, l3⟩ := hle
        have l1 := Nat.le_of_ble_eq_true l1
        have l2 := Nat.le_of_ble_eq_true l2
        have l3 := Nat.le_of_ble_eq_true l3
        rw [Option.bind_eq_some_iff] at hc
        obtain ⟨ra, a2, hc⟩ := hc
        rw [Option.bind_eq_some_iff] at hc
        obtain ⟨rb, b2, hc⟩ := hc
        rw [Option.bind_eq_some_iff] at hc
        obtain ⟨rc, c2, hc⟩ := hc
        cases hc
        cases hr with | cons _ X _ _ hr hn =>
        cases hn
        cases hr with | agg _ q hq =>
        cases hq with | cons _ X1 _ _ r1 hq => cases hq with | cons _ X2 _ _ r2 hq => cases hq with | cons _ X3 _ _ r3 hq =>
        cases hq
        obtain ⟨A1, k1, p1, rfl, e1, t1, rfl, f1, g1⟩ := sl_out R s1 a1 r1 a2
        obtain ⟨A2, k2, p2, rfl, e2, t2, rfl, f2, g2⟩ := sl_out R s2 b1 r2 b2
        obtain ⟨A3, k3, p3, rfl, e3, t3, rfl, f3, g3⟩ := sl_out R s3 c1 r3 c2
        subst e1 e2 e3 f1
        refine (undo_any w A1 A2 A3 p1 p2 p3 k1 k2 k3 t1 t2 t3 l1 l2 l3).mono ?_
        rintro e w' ⟨A4, A5, A6, c4, c5, c6, rfl, o4, o5, o6, ap45, ap46, ap56, hb⟩
        refine ⟨_, rfl, ?_⟩
        have R0 := R.world hb
        have fresh : ∀ {v : Value} {m : Nat} {xs : List Value}, w'.ownsRow w.heap.size 28 6 v m xs → ∀ k, v.ownBlock = some k → ∀ C q, σ C ≠ some (k, q) := fun ho k hk C q e => by
          have h1 := (ho.lt k hk).1
          have h2 := (R.has C k q e).2.1
          omega
        obtain ⟨σ1, x1, n1, v1, R1, u1⟩ := made_row R0 rfl o5 R.base (fresh o5) g3
        obtain ⟨σ2, x2, n2, v2, R2, u2⟩ := made_row R1 rfl o6 R.base (fun k hk C q e => by
          rcases u1 C k q e with e | e
          · exact fresh o6 k hk C q e
          · exact ap56 k e hk) g2
        have hrev : p1.reverse.map Go.Proofs.YtpimnaojhaeiiaaGreatDoor.turnS = (p1.map turnS).reverse := by rw [List.map_reverse]; rfl
        rw [hrev] at o4
        obtain ⟨σ3, x3, n3, v3, R3, u3⟩ := made_row (l := (p1.map turnS).reverse) R2 (by simp) o4 R.base (fun k hk C q e => by
          rcases u2 C k q e with e | e
          · rcases u1 C k q e with e | e
            · exact fresh o4 k hk C q e
            · exact ap45 k hk e
          · exact ap46 k hk e) (fun s hs => by
            simp only [List.mem_reverse, List.mem_map] at hs
            obtain ⟨y, hy, rfl⟩ := hs
            exact (g1 y hy).turn)
        rw [List.append_nil]
        refine ⟨σ3, (x1.trans x2 n1).trans x3 (Nat.le_trans n1 n2), Nat.le_trans n1 (Nat.le_trans n2 n3), ?_, R3, hb.mono R.base⟩
        exact .agg _ _ (.cons _ _ _ _ v3 (.cons _ _ _ _ (v1.mono (x2.le.trans x3.le)) (.cons _ _ _ _ (v2.mono x3.le) .nil)))
  · cases hc
end
end Go.Proofs.YtpimnaojhaeiiaaGreatDoor.VM
