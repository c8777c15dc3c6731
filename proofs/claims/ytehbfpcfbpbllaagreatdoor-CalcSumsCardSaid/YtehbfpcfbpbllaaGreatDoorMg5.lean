/- Calls whose runs from nothing are known, as hooks of the machine. No program in sight. · Words for memory: a slice that reads as a list; what is kept when memory grows. No program in sight. · More words for memory. No program in sight. · chequerref1.Digits of any number. · strconv.Atoi of digits; strings.Cut where the sign is not there. · strconv.Atoi, cell.number of a number's text. · DERIVED: THE SHELF's CONTRACTS AT THIS DUMP, IN PLAIN WORDS (tools/lay-plain.mjs out of 'YtehbfpcfbpbllaaGreatDoorItoa.lean', which tools/lay-shelf.mjs wrote): THE SAME DECLARATIONS UNDER THE SAME NAMES: 'import', 'namespace', 'open', 'def', 'theorem' AND NOTHING ELSE: no command of the shelf's: FOR A HAND-IN. Each laying: the table of numbers ('.._ren') and one theorem, a field a fact of the dump's own or the kernel's comparison; each contract: ONE APPLICATION. · cell.May, cell.Plain of a number's text. · The machine with linear sums and their texts on this program: hooks for the place of a byte, for a number's text. · The machine at given texts, strconv's errors standing for something; law14.awake. · strconv.ErrSyntax stands: from what is listed. · Beside sums and texts of them: texts of which nothing is known but the first byte; a slice argument's cells. No program in sight. · Values: the walks of val's small functions; a map of functions. · CalcSums: numbers' texts of which nothing is told; hooks: a number's text, what it is, sums. · law14.awake: the kernel runs it. · CalcSums: from a run of the machine to the call, for any numbers. -/
import Derived.WalkKit
import Derived.Deep.Draws
import Derived.Deep.AppendLies
import Derived.Laws.IdiomStrings
import Derived.Maps.AppendAt
import Derived.Laws.BytesArg
import Derived.Test.YtehbfpcfbpbllaaGreatDoorChecked
import Derived.Lib.Hide
import Derived.BigQuiet
import Derived.LoopN
import Derived.WalkSpells
import Derived.Lib.ItoaLen
import Derived.Lib.Bytealg
import Derived.Shelf.Strconv.Itoa3
import Derived.Ground.NamesProg
import Derived.Below
import Derived.Lib.AppendIntMem
import Derived.LaidSub
import Derived.Lay
import Derived.Test.YtehbfpcfbpbllaaGreatDoorRows
import Derived.Maps.OwnOps
import Derived.Test.YtehbfpcfbpbllaaGreatDoorMg4
namespace Go.Proofs.YtehbfpcfbpbllaaGreatDoor.VM
open Go Go.RowKit
set_option linter.unusedSectionVars false
variable [Sy]
noncomputable section
structure Memo where
  al : List V
  v : V
  bs : List Blk
def MemoOK (P : Program) (f : Nat) (m : Memo) : Prop :=
  ∀ (N : Nat) (σ : Mp) (h : Hp) (w : World) (xs : List Value), Rel N σ h w → RepL σ m.al xs →
    match (callFunc f xs.toArray).run P w with
    | .ok (.value x) w' => Does N σ h w (m.v.ren fun i => h.n + i) (h.app (m.bs.map (Blk.ren fun i => h.n + i))) x w'
    | .ok (.enter g ys) w' => Calls P g ys w' fun e w'' => ∃ x, e = .returned x ∧ Does N σ h w (m.v.ren fun i => h.n + i) (h.app (m.bs.map (Blk.ren fun i => h.n + i))) x w''
    | _ => False
theorem memoOK_of {P : Program} {E : Env} (hE : EnvOK P E) (hI : IdleOK P E) (hH : HooksOK P E) (hname : NameOK P) {f n K : Nat} {ρ : List Nat} {m : Memo}
    (hrun : look ρ K (callOf E (exec E n) f m.al ⟨.leaf, 0⟩) = some (m.v.ren (rn ρ K), m.bs.map (Blk.ren (rn ρ K)))) (hal : allStr m.al = true) (hro : m.bs.all Blk.noRo = true) (hnd : ρ.Nodup) : MemoOK P f m :=
  fun _ _ _ _ _ R hr => memo_ok hE hI hH hname hrun hal hro hnd R hr
def eqN : List Nat → List Nat → Bool
  | [], [] => true
  | a :: l, b :: m => bif Nat.beq a b then eqN l m else false
  | _, _ => false
theorem eqN_eq : ∀ {l m : List Nat}, eqN l m = true → l = m
  | [], [], _ => rfl
  | a :: l, b :: m, h => by
    rw [eqN] at h
    cases hb : Nat.beq a b with
    | false => rw [hb] at h; cases h
    | true => rw [hb] at h; rw [Nat.eq_of_beq_eq_true hb, eqN_eq (l := l) (m := m) h]
  | [], _ :: _, h => by cases h
  | _ :: _, [], h => by cases h
def eqS : List V → List V → Bool
  | [], [] => true
  | .str s :: l, .str t :: m => bif eqN s t then eqS l m else false
  | .symS s :: l, .symS t :: m => bif Nat.beq s t then eqS l m else false
  | .symI k s :: l, .symI j t :: m => bif keq k j && Nat.beq s t then eqS l m else false
  | _, _ => false
theorem eqS_eq : ∀ {l m : List V}, eqS l m = true → l = m := by
  intro l m h
  fun_induction eqS l m with
  | case1 => rfl
  | case2 s l t m hb ih => rw [eqN_eq hb, ih h]
  | case3 => cases h
  | case4 s l t m hb ih => rw [Nat.eq_of_beq_eq_true hb, ih h]
  | case5 => cases h
  | case6 k s l j t m hb ih =>
    rw [Bool.and_eq_true] at hb
    rw [keq_eq hb.1, Nat.eq_of_beq_eq_true hb.2, ih h]
  | case7 => cases h
  | case8 => cases h
def memoH : List Memo → List V → Hp → Option (V × Hp)
  | [], _, _ => none
  | m :: r, al, h => bif eqS m.al al then some (m.v.ren fun i => h.n + i, h.app (m.bs.map (Blk.ren fun i => h.n + i))) else memoH r al h
theorem memoH_sound {P : Program} {f : Nat} : ∀ {ms : List Memo}, (∀ m ∈ ms, MemoOK P f m) → ∀ (N : Nat) (al : List V) (h : Hp) (v : V) (h' : Hp), memoH ms al h = some (v, h') → ∀ (σ : Mp) (w : World) (xs : List Value), Rel N σ h w → RepL σ al xs →
    match (callFunc f xs.toArray).run P w with
    | .ok (.value x) w' => Does N σ h w v h' x w'
    | .ok (.enter g ys) w' => Calls P g ys w' fun e w'' => ∃ x, e = .returned x ∧ Does N σ h w v h' x w''
    | _ => False
  | [], _, _, _, _, _, _, hc, _, _, _, _, _ => by cases hc
  | m :: r, hm, N, al, h, v, h', hc, σ, w, xs, R, hr => by
    rw [memoH] at hc
    cases hb : eqS m.al al with
    | false => rw [hb] at hc; exact memoH_sound (fun m' hm' => hm m' (List.mem_cons_of_mem _ hm')) N al h v h' hc σ w xs R hr
    | true =>
      rw [hb] at hc
      cases hc
      rw [← eqS_eq hb] at hr
      exact hm m List.mem_cons_self N σ h w xs R hr
end
end Go.Proofs.YtehbfpcfbpbllaaGreatDoor.VM
namespace Go.Proofs.YtehbfpcfbpbllaaGreatDoor
open Go.RowKit

theorem block_of_add (a : Addr) (n : Nat) : (a.add n).block = a.block := by unfold Addr.add; split <;> rfl
theorem add_of_add (a : Addr) (i j : Nat) : (a.add i).add j = a.add (i + j) := by
  unfold Addr.add
  by_cases hi : i = 0 <;> by_cases hj : j = 0 <;> simp [hi, hj, Nat.add_assoc]
theorem add_zero_ (a : Addr) : a.add 0 = a := by unfold Addr.add; simp

/-- The slice '.slice A l.length _' reads as l, a cell an element, each stored as 'f x'. -/
def At1 {α : Type} (f : α → Value) (w : World) (A : Option Addr) (l : List α) : Prop :=
  l.length ≤ 9223372036854775807 ∧ (0 < l.length → ∃ ad, A = some ad ∧ ∀ i x, l[i]? = some x → w.cell? (ad.add i) = some (f x))

abbrev vInt : Int → Value := Value.int .i64
abbrev vByte : UInt8 → Value := fun c => Value.int .u8 (c.toNat : Int)
abbrev vStr : ByteArray → Value := Value.string

section
variable {α : Type} {f : α → Value} {w w' : World} {A : Option Addr} {l : List α}

theorem At1.nil (f : α → Value) (w : World) (A : Option Addr) : At1 f w A [] := ⟨by simp, fun h => absurd h (by simp)⟩
theorem At1.keep (h : At1 f w A l) (hk : ∀ p : Addr, p.block < w.heap.size → w'.cell? p = w.cell? p) : At1 f w' A l :=
  ⟨h.1, fun hn => by
    obtain ⟨ad, e, hc⟩ := h.2 hn
    exact ⟨ad, e, fun i x hx => (hk _ (World.block_lt_of_cell? w _ (hc i x hx))).trans (hc i x hx)⟩⟩
theorem At1.below (h : At1 f w A l) (hb : Below w.heap.size w w') : At1 f w' A l := h.keep fun _ hp => hb.cell hp
theorem At1.drewN (h : At1 f w A l) (n : Nat) : At1 f (w.drewN n) A l := h
theorem At1.drew (h : At1 f w A l) : At1 f w.drew A l := h
theorem At1.alloc (h : At1 f w A l) (o : Obj) : At1 f (w.alloc o) A l := h.keep fun p hp => World.cell?_alloc_lt w o p hp
theorem At1.at_ (h : At1 f w A l) {k : Nat} (hk : k < l.length) : ∃ ad, A = some ad ∧ w.cell? (ad.add k) = some (f l[k]) := by
  obtain ⟨ad, e, hc⟩ := h.2 (by omega)
  exact ⟨ad, e, hc k _ (List.getElem?_eq_getElem hk)⟩
theorem At1.cut (h : At1 f w A l) {k cap : Nat} (hk : k ≤ l.length) (hc : l.length ≤ cap) :
    At1 f w (if cap = k then A else A.map (·.add k)) (l.drop k) := by
  refine ⟨by have := h.1; simp; omega, fun hn => ?_⟩
  have hn' : k < l.length := by simp at hn; omega
  obtain ⟨ad, rfl, hcell⟩ := h.2 (by omega)
  rw [if_neg (by omega)]
  refine ⟨ad.add k, rfl, fun j u hu => ?_⟩
  rw [add_of_add]
  exact hcell _ u (by rw [← hu, List.getElem?_drop])
theorem At1.take (h : At1 f w A l) (k : Nat) : At1 f w A (l.take k) := by
  refine ⟨by have := h.1; simp; omega, fun hn => ?_⟩
  have hn' : 0 < l.length := by simp at hn; omega
  obtain ⟨ad, rfl, hcell⟩ := h.2 hn'
  refine ⟨ad, rfl, fun j u hu => hcell j u ?_⟩
  rw [List.getElem?_take] at hu
  split at hu
  · exact hu
  · cases hu
/-- What the call owns reads as a list. -/
theorem At1.of_own {base : Nat} {e : TypeId} {c n : Nat} (h : w.ownsRow base e 1 (.slice A n c) n (l.map f)) (hm : l.length ≤ 9223372036854775807) : At1 f w A l := by
  refine ⟨hm, fun hn => ?_⟩
  have hl : l.length = n := by simpa using h.1
  obtain ⟨g, cap, hv, _, hlt⟩ := h.form (by omega)
  have hA : A = some ⟨g, 0, none⟩ := by injection hv
  subst hA
  exact ⟨_, rfl, fun i x hx => h.cells (g := g) rfl i _ (by rw [List.getElem?_map, hx]; rfl)⟩
end

/-- a slice over a block whose cells are known -/
theorem at1_lit {α : Type} {f : α → Value} {w : World} {g : Nat} {cs : Array Value} {e : TypeId} {fr : Nat × Nat} {l : List α} (hl : l.length ≤ 9223372036854775807) (h : w.heap[g]? = some (.cells cs e fr)) (hc : ∀ (i : Nat) (x : α), l[i]? = some x → cs[i]? = some (f x)) :
    At1 f w (some ⟨g, 0, none⟩) l := by
  refine ⟨hl, fun _ => ⟨_, rfl, fun i x hx => ?_⟩⟩
  have e : (⟨g, 0, none⟩ : Addr).add i = ⟨g, i, none⟩ := by unfold Addr.add; split <;> simp_all
  rw [e]
  simp [World.cell?, h, hc i x hx]

theorem below_drewN {B : Nat} {a w : World} (h : Below B a w) (n : Nat) : Below B a (w.drewN n) := ⟨h.os, h.tape, h.output, h.size, h.block⟩
theorem below_of_drewN {B : Nat} (w : World) (n : Nat) : Below B w (w.drewN n) := below_drewN (Below.refl _ _) n

/-- a slice value that the call owns has this form -/
theorem own_form {w : World} {base : Nat} {e : TypeId} {size n : Nat} {v : Value} {xs : List Value} (h : w.ownsRow base e size v n xs) : ∃ A c, v = .slice A n c ∧ n ≤ c ∧ c ≤ maxLen := by
  rcases h.2 with ⟨rfl, rfl⟩ | ⟨g, cap, cur, rfl, _, _, h1, h2, _⟩
  · exact ⟨none, 0, rfl, Nat.le_refl _, by simp [maxLen]⟩
  · exact ⟨_, cap, rfl, h1, h2⟩

theorem take_snoc {α : Type} {l : List α} {k : Nat} (h : k < l.length) : l.take (k + 1) = l.take k ++ [l[k]] := by rw [List.take_succ_eq_append_getElem h]
theorem map_take_snoc {α β : Type} (f : α → β) {l : List α} {k : Nat} (h : k < l.length) : (l.take (k + 1)).map f = (l.take k).map f ++ [f l[k]] := by rw [take_snoc h, List.map_append]; rfl

theorem run_max2 {P : Program} (ts : Array TypeId) (t : TypeId) (k k' : IntKind) (x y : Int) (w : World) : (Builtin.max_ ts t #[.int k x, .int k' y]).run P w = .ok (.int k (max x y)) w := by
  rw [run_max_int2]
  congr 2
  split <;> omega

theorem toList_inj {a b : ByteArray} (h : a.toList = b.toList) : a = b := by
  rw [ByteArray.toList_eq, ByteArray.toList_eq] at h
  cases a; cases b
  congr 1
  exact Array.toList_inj.1 h
theorem str_eq_true {a b : ByteArray} (h : a = b) : (a.toList == b.toList) = true := by rw [h]; simp
theorem str_eq_false {a b : ByteArray} (h : a ≠ b) : (a.toList == b.toList) = false := by
  rw [beq_eq_false_iff_ne]
  exact fun e => h (toList_inj e)

/-- 'string([]byte{c})' -/
theorem run_str1 {P : Program} {src dst e : TypeId} (hs : P.underlying src = some (.slice e)) (he : P.underlying e = some (.int .u8)) (hd : P.underlying dst = some .string) (w : World) (x : UInt8) (n : Int) (hn : n = (x.toNat : Int)) :
    (convert src dst (.slice (some ⟨w.heap.size, 0, none⟩) 1 1)).run P (w.alloc (.cells #[.int .u8 n] e)) = .ok (.string ⟨#[x]⟩) (w.alloc (.cells #[.int .u8 n] e)) := by
  subst hn
  refine run_convert_bytes_back (P := P) _ src dst e ⟨w.heap.size, 0, none⟩ 1 [x] hs he hd fun j hj => ?_
  have : j = 0 := by simpa using hj
  subst this
  rw [add_zero_, World.cell?_alloc_mark]
  rfl

/-! ## append of one element, of a list, onto a row of the call's own -/
/-- What the program's table says of a slice type T with elements e. -/
def EInfo (P : Program) (T e : TypeId) (z : Value) (size bytes : Nat) : Prop :=
  P.underlying T = some (.slice e) ∧ (P.info? e).map (fun i => (i.zero, i.size, i.bytes)) = some (some z, size, bytes) ∧ z.cells.size = size ∧ 0 < size ∧ 0 < bytes

theorem grown_trans' {a b c : World} {row : Option Nat} (h : a.grownBy b row) (k : b.grownBy c row) : a.grownBy c row :=
  ⟨k.os.trans h.os, k.tape.trans h.tape, k.output.trans h.output, Nat.le_trans h.size k.size, fun i hi hn => (k.block i (Nat.lt_of_lt_of_le hi h.size) hn).trans (h.block i hi hn)⟩
theorem grown_alloc (w : World) (o : Obj) (row : Option Nat) : w.grownBy (w.alloc o) row := World.grownBy_alloc w o row
theorem below_grown {B base : Nat} {w w0 w' : World} {e : TypeId} {size n : Nat} {v : Value} {xs : List Value} (hb : Below B w w0) (hown : w0.ownsRow base e size v n xs) (hg : w0.grownBy w' v.ownBlock) (hB : B ≤ base) (hs : B ≤ w0.heap.size) : Below B w w' :=
  hb.grown hg hs fun k hk => Nat.le_trans hB (hown.lt k hk).1

theorem len_of_bytes {n bytes : Nat} (hb : 0 < bytes) (h : n * bytes ≤ 140737488355328) : n ≤ maxLen := by
  have : n ≤ n * bytes := Nat.le_mul_of_pos_right n hb
  unfold maxLen; omega

section
variable {P : Program} {T e : TypeId} {z : Value} {size bytes : Nat}
/-- 'out = append(out, u)' -/
theorem wpList_app1 {ops : Array Oper} {rest : List Oper} {o : Oper} {a : Act} {Q : Exit → Act → World → Prop} {w0 : World} {s x : Operand} {v u : Value} {n base G : Nat} {xs : List Value} (E : EInfo P T e z 1 bytes) (hgd : o.guard = none)
    (ho : o.op = .call { callee := .builtin .append, args := #[s, x], argTypes := #[T, T] }) (hown : w0.ownsRow base e 1 v n xs) (hs : a.eval s = v)
    (hx : a.eval x = .slice (some ⟨G, 0, none⟩) 1 1) (hG : w0.heap.size = G) (h1 : u.oneCell' = true) (hbytes : (n + 1) * bytes ≤ 140737488355328) (hbase : base ≤ w0.heap.size)
    (h : ∀ v' w', w'.ownsRow base e 1 v' (n + 1) (xs ++ [u]) → w0.grownBy w' v.ownBlock → (v'.ownBlock = v.ownBlock ∨ v'.ownBlock = some (w0.heap.size + 1)) → wpList P ops Q rest (a.put o.dst v') w') :
    wpList P ops Q (o :: rest) a (w0.alloc (.cells #[u] e)) := by
  obtain ⟨ht, hinfo, hzs, hsz, hby0⟩ := E
  obtain ⟨i, hi, hz, hsize, hby⟩ := info_parts hinfo
  subst hG
  refine wpList_append_own_at (P := P) _ hgd s x T ho base e i z 1 bytes ht hi hz hsize hby hzs hsz v n xs hs (hown.alloc _) ⟨w0.heap.size, 0, none⟩ 1 1 [u] hx rfl (cell_one_new _ _ _) (fun y hy => by simp at hy; subst hy; exact h1)
    (len_of_bytes hby0 hbytes) hbytes (by simp; omega) fun v' w' h2 h3 _ h5 => h v' w' h2 (grown_trans' (grown_alloc _ _ _) h3) (by simpa using h5)

/-- 'out = append(out, xs...)' where xs reads as a list -/
theorem wpList_appAll {ops : Array Oper} {rest : List Oper} {o : Oper} {a : Act} {Q : Exit → Act → World → Prop} {w0 : World} {s x : Operand} {v : Value} {n base : Nat} {xs : List Value} {α : Type} {f : α → Value} {A : Option Addr} {c m : Nat} {l : List α}
    (E : EInfo P T e z 1 bytes) (hgd : o.guard = none) (ho : o.op = .call { callee := .builtin .append, args := #[s, x], argTypes := #[T, T] }) (hown : w0.ownsRow base e 1 v n xs) (hs : a.eval s = v)
    (hx : a.eval x = .slice A m c) (hm : m = l.length) (hl : At1 f w0 A l) (h1 : ∀ y, (f y).oneCell' = true) (hbytes : (n + l.length) * bytes ≤ 140737488355328) (hbase : base ≤ w0.heap.size)
    (h : ∀ v' w', w'.ownsRow base e 1 v' (n + l.length) (xs ++ l.map f) → w0.grownBy w' v.ownBlock → (v'.ownBlock = v.ownBlock ∨ v'.ownBlock = some w0.heap.size) → wpList P ops Q rest (a.put o.dst v') w') :
    wpList P ops Q (o :: rest) a w0 := by
  obtain ⟨ht, hinfo, hzs, hsz, hby0⟩ := E
  obtain ⟨i, hi, hz, hsize, hby⟩ := info_parts hinfo
  subst hm
  by_cases hn : l = []
  · subst hn
    rcases A with _ | ad
    · refine wpList_plain hgd fun K hK => ?_
      unfold Oper.wp execOp
      have hrun : (Builtin.append_ #[T, T] o.type #[v, .slice none 0 c]).run P w0 = .ok v w0 := by
        rcases hown.2 with ⟨rfl, rfl⟩ | ⟨g, cap, cur, rfl, _, _, hnc, _⟩
        · simp [Builtin.append_, run_underlying ht, sizeOf, typeInfo, hi, Builtin.lenOf, Builtin.firstCells]
        · simp [Builtin.append_, run_underlying ht, sizeOf, typeInfo, hi, Builtin.lenOf, Builtin.firstCells, hnc, storeCells]
      simp only [List.length_nil] at hx
      simp only [ho, resolve, invoke, builtin, Sem.run_bind, Sem.run_pure, Result.andThen_ok, List.map_toArray, List.map_cons, List.map_nil, hs, hx, hrun]
      exact hK _ _ (h v w0 (by simpa using hown) (World.grownBy.refl _ _) (.inl rfl))
    · exact wpList_append_own_at (P := P) _ hgd s x T ho base e i z 1 bytes ht hi hz hsize hby hzs hsz v n xs hs hown ad 0 c [] hx rfl (fun j u hu => by simp at hu) (fun y hy => by simp at hy)
        (len_of_bytes hby0 hbytes) hbytes hbase fun v' w' h2 h3 _ h5 => h v' w' h2 h3 h5
  · obtain ⟨ad, rfl, hc⟩ := hl.2 (List.length_pos_iff.2 hn)
    refine wpList_append_own_at (P := P) _ hgd s x T ho base e i z 1 bytes ht hi hz hsize hby hzs hsz v n xs hs hown ad l.length c (l.map f) hx (by simp) (fun j u hu => ?_) (fun y hy => ?_)
      (len_of_bytes hby0 hbytes) hbytes hbase fun v' w' h2 h3 _ h5 => h v' w' h2 h3 h5
    · rw [List.getElem?_map] at hu
      cases hj : l[j]? with
      | none => rw [hj] at hu; cases hu
      | some y => rw [hj] at hu; injection hu with hu; rw [← hu]; exact hc j y hj
    · obtain ⟨y', _, rfl⟩ := List.mem_map.1 hy
      exact h1 y'
end

theorem own_base {w : World} {base base' : Nat} {e : TypeId} {size n : Nat} {v : Value} {xs : List Value} (h : w.ownsRow base e size v n xs) (hb : base' ≤ base) : w.ownsRow base' e size v n xs := by
  refine ⟨h.1, ?_⟩
  rcases h.2 with h | ⟨g, cap, cur, hv, hg, r⟩
  · exact .inl h
  · exact .inr ⟨g, cap, cur, hv, Nat.le_trans hb hg, r⟩

/-! ## two rows of the call's own -/
def Apart (v u : Value) : Prop := ∀ k, v.ownBlock = some k → u.ownBlock ≠ some k
theorem Apart.nil (u : Value) : Apart (.slice none 0 0) u := fun k h => by simp [Value.ownBlock] at h
theorem Apart.symm {v u : Value} (h : Apart v u) : Apart u v := fun k h1 h2 => h k h2 h1
/-- behind 'x = append(x, ..)': the other row is as it was -/
theorem own_other {w0 w1 : World} {e' : TypeId} {base' s' m : Nat} {x y : Value} {ys : List Value} (hy : w0.ownsRow base' e' s' y m ys) (hap : Apart x y) (g1 : w0.grownBy w1 x.ownBlock) : w1.ownsRow base' e' s' y m ys := by
  refine hy.kept g1 ?_
  cases hk : y.ownBlock with
  | none => exact .inl rfl
  | some k => exact .inr (fun e => hap k e.symm hk)
theorem apart_grown {w0 : World} {e' : TypeId} {base' s' m : Nat} {x x' y : Value} {ys : List Value} (hy : w0.ownsRow base' e' s' y m ys) (hap : Apart x y) {G : Nat} (b1 : x'.ownBlock = x.ownBlock ∨ x'.ownBlock = some G) (hG : w0.heap.size ≤ G) : Apart x' y := by
  intro k hk hy'
  rcases b1 with b | b
  · exact hap k (by rw [← b]; exact hk) hy'
  · have h1 := (hy.lt k hy').2
    rw [b] at hk
    injection hk with hk
    omega

end Go.Proofs.YtehbfpcfbpbllaaGreatDoor
namespace Go.Proofs.YtehbfpcfbpbllaaGreatDoor
open Go.RowKit

/-- what the call owns stays while only new blocks come -/
theorem own_below {w w' : World} {base : Nat} {e : TypeId} {size n : Nat} {v : Value} {xs : List Value} (h : w.ownsRow base e size v n xs) (hb : Below w.heap.size w w') : w'.ownsRow base e size v n xs := by
  refine ⟨h.1, ?_⟩
  rcases h.2 with h | ⟨g, cap, cur, hv, hg, hh, r⟩
  · exact .inl h
  · exact .inr ⟨g, cap, cur, hv, hg, (hb.block g (Array.getElem?_eq_some_iff.1 hh).1).trans hh, r⟩
theorem own_drewN {w : World} {base : Nat} {e : TypeId} {size n : Nat} {v : Value} {xs : List Value} (h : w.ownsRow base e size v n xs) (k : Nat) : (w.drewN k).ownsRow base e size v n xs := h
/-- a row of the call's own, as a slice that reads as a list -/
theorem own_reads {α : Type} {f : α → Value} {w : World} {base : Nat} {e : TypeId} {v : Value} {l : List α} (h : w.ownsRow base e 1 v l.length (l.map f)) (hm : l.length ≤ 9223372036854775807) :
    ∃ A c, v = .slice A l.length c ∧ At1 f w A l ∧ l.length ≤ c := by
  obtain ⟨A, c, rfl, h1, _⟩ := own_form h
  exact ⟨A, c, rfl, At1.of_own h hm, h1⟩

/-- 'string(b)' -/
theorem run_str_of {P : Program} {src dst e : TypeId} (hs : P.underlying src = some (.slice e)) (he : P.underlying e = some (.int .u8)) (hd : P.underlying dst = some .string) {w : World} {A : Option Addr} {l : List UInt8} {n c : Nat} (hn : n = l.length) (h : At1 vByte w A l) :
    (convert src dst (.slice A n c)).run P w = .ok (.string ⟨l.toArray⟩) w := by
  subst hn
  by_cases h0 : l = []
  · subst h0
    rcases A with _ | ad
    · exact run_convert_bytes_nil (P := P) w src e hs he 0 c dst hd
    · exact run_convert_bytes_back (P := P) w src dst e ad c [] hs he hd (fun j hj => absurd hj (by simp))
  · obtain ⟨ad, rfl, hc⟩ := h.2 (List.length_pos_iff.2 h0)
    exact run_convert_bytes_back (P := P) w src dst e ad c l hs he hd (fun j hj => hc j _ (List.getElem?_eq_getElem hj))

end Go.Proofs.YtehbfpcfbpbllaaGreatDoor
namespace Go.Proofs.YtehbfpcfbpbllaaGreatDoor
open Go.RowKit Go.Maps
def InR (n : Int) : Prop := -9223372036854775808 ≤ n ∧ n ≤ 9223372036854775807
theorem dec_num {k : Nat} (h : k < 10) : (48 + UInt8.ofNat k : UInt8).toNat = 48 + k := by
  rw [UInt8.toNat_add, UInt8.toNat_ofNat_of_lt' (by show k < 256; omega)]
  show (48 + k) % 256 = _
  omega
theorem dec_add (k : Nat) : UInt8.ofNat (48 + k) = 48 + UInt8.ofNat k := by rw [UInt8.ofNat_add]; rfl
theorem dec_one {k : Nat} (h : k < 10) : Lib.decDigits k = [48 + UInt8.ofNat k] := by rw [Lib.decDigits_one h, dec_add]
theorem dec_big {n : Nat} (h : ¬ n < 10) : Lib.decDigits n = Lib.decDigits (n / 10) ++ [48 + UInt8.ofNat (n % 10)] := by rw [Lib.decDigits, dif_neg h, dec_add]
theorem str1_cons (x : UInt8) (l : List UInt8) : (⟨#[x]⟩ ++ ⟨l.toArray⟩ : ByteArray) = ⟨(x :: l).toArray⟩ := by
  apply ByteArray.ext
  simp [ByteArray.data_append]
theorem dec_len {m : Nat} (h : m ≤ 9223372036854775808) : (Lib.decDigits m).length ≤ 21 := by
  by_cases h2 : m ≤ 9223372036854775807
  · have := Lib.itoa_length_le (m : Int) (by omega) (by omega)
    rw [Lib.itoa_nonneg] at this
    omega
  · have := Lib.itoa_length_le (-(m : Int)) (by omega) (by omega)
    rw [Lib.itoa_neg m (by omega), List.length_cons] at this
    omega
set_option maxRecDepth 100000 in
set_option maxHeartbeats 1000000 in
theorem rdig_pos (w : World) (m : Nat) (hm : m ≤ 9223372036854775807) :
    Calls Tryz.prog 7 #[.int .i64 m] w fun e w' => e = .returned (.string ⟨(Lib.itoa (m : Int)).toArray⟩) ∧ Below w.heap.size w w' := by
  have hw : IntKind.u64.wrap (m : Int) = m := by simp [IntKind.wrap, IntKind.signed, IntKind.bits]; omega
  have hlm := Lib.hid (dec_len (m := m) (by omega))
  have HR := Lib.hid (Lib.itoa_nonneg m)
  go_enter Tryz.func7, Tryz.ntmps7
  go_wp2
  go_loopw [3, 4] (fun u s wr => ∃ (k : Nat) (l : List UInt8), k ≤ m ∧ u = .int .u64 k ∧ s = .string ⟨l.toArray⟩ ∧ Hid (Lib.decDigits k ++ l = Lib.decDigits m) ∧ Below w.heap.size w wr) (fun u _ _ => (intOf u).toNat)
  case atStart => exact ⟨m, [], Nat.le_refl _, rfl, rfl, by simp [Hid], Below.refl _ _⟩
  case round =>
    obtain ⟨k, l, hk, rfl, rfl, hd, hb⟩ := hrel
    have hlen : l.length ≤ 21 := by have := congrArg List.length hd.out; rw [List.length_append] at this; have := hlm.out; omega
    by_cases h10 : k < 10
    · have hnum : 48 + (k : Int) = ((48 + UInt8.ofNat k : UInt8).toNat : Int) := by rw [dec_num (by omega)]; omega
      have hcv := run_str1 (P := Tryz.prog) Tryz.underlying44 Tryz.underlying5 Tryz.underlying9 wr _ _ hnum
      have hsz := hb.size
      clear hnum
      go_wp2
      go_ret
      refine ⟨?_, hb.alloc hsz _⟩
      have hd := hd.out
      rw [dec_one h10] at hd
      rw [HR.out, ← hd]
      show Ending.returned (.string (⟨#[48 + UInt8.ofNat k]⟩ ++ ⟨l.toArray⟩)) = _
      rw [str1_cons]; rfl
    · have hnum : 48 + (k : Int) % 10 = ((48 + UInt8.ofNat (k % 10) : UInt8).toNat : Int) := by rw [dec_num (by omega)]; omega
      have hcv := run_str1 (P := Tryz.prog) Tryz.underlying44 Tryz.underlying5 Tryz.underlying9 wr _ _ hnum
      have hsz := hb.size
      have hd2 : Hid (Lib.decDigits (k / 10) ++ ((48 + UInt8.ofNat (k % 10)) :: l) = Lib.decDigits m) := by rw [← hd.out, dec_big h10, List.append_assoc]; exact rfl
      clear hnum hd
      go_wp2
      go_roundw
      case rel => exact ⟨k / 10, (48 + UInt8.ofNat (k % 10)) :: l, by omega, by go_num, by rw [← str1_cons]; rfl, hd2, hb.alloc hsz _⟩
      case measure => first | (simp [intOf]; done) | (simp [intOf]; omega)
set_option maxRecDepth 100000 in
set_option maxHeartbeats 1000000 in
theorem rdig_neg (w : World) (m : Nat) (h1 : 1 ≤ m) (hm : m ≤ 9223372036854775808) :
    Calls Tryz.prog 7 #[.int .i64 (-(m : Int))] w fun e w' => e = .returned (.string ⟨(Lib.itoa (-(m : Int))).toArray⟩) ∧ Below w.heap.size w w' := by
  have hw : IntKind.u64.wrap (-(m : Int)) = 18446744073709551616 - m := by simp [IntKind.wrap, IntKind.signed, IntKind.bits]; omega
  have hw2 : IntKind.u64.wrap (-(18446744073709551616 - (m : Int))) = m := by simp [IntKind.wrap, IntKind.signed, IntKind.bits]; omega
  have hlm := Lib.hid (dec_len (m := m) (by omega))
  have HR := Lib.hid (Lib.itoa_neg m h1)
  have hneg : decide (-(m : Int) < 0) = true := decide_eq_true (by omega)
  go_enter Tryz.func7, Tryz.ntmps7
  go_wp2
  go_loopw [3, 4] (fun u s wr => ∃ (k : Nat) (l : List UInt8), k ≤ m ∧ u = .int .u64 k ∧ s = .string ⟨l.toArray⟩ ∧ Hid (Lib.decDigits k ++ l = Lib.decDigits m) ∧ Below w.heap.size w wr) (fun u _ _ => (intOf u).toNat)
  case atStart => exact ⟨m, [], Nat.le_refl _, by first | rfl | (rw [hw2]), rfl, by simp [Hid], Below.refl _ _⟩
  case round =>
    obtain ⟨k, l, hk, rfl, rfl, hd, hb⟩ := hrel
    have hlen : l.length ≤ 21 := by have := congrArg List.length hd.out; rw [List.length_append] at this; have := hlm.out; omega
    by_cases h10 : k < 10
    · have hnum : 48 + (k : Int) = ((48 + UInt8.ofNat k : UInt8).toNat : Int) := by rw [dec_num (by omega)]; omega
      have hcv := run_str1 (P := Tryz.prog) Tryz.underlying44 Tryz.underlying5 Tryz.underlying9 wr _ _ hnum
      have hsz := hb.size
      clear hnum
      go_wp2
      go_ret
      refine ⟨?_, hb.alloc hsz _⟩
      have hd := hd.out
      rw [dec_one h10] at hd
      rw [HR.out, ← hd]
      show Ending.returned (.string (⟨#[45]⟩ ++ (⟨#[48 + UInt8.ofNat k]⟩ ++ ⟨l.toArray⟩))) = _
      rw [str1_cons, str1_cons]; rfl
    · have hnum : 48 + (k : Int) % 10 = ((48 + UInt8.ofNat (k % 10) : UInt8).toNat : Int) := by rw [dec_num (by omega)]; omega
      have hcv := run_str1 (P := Tryz.prog) Tryz.underlying44 Tryz.underlying5 Tryz.underlying9 wr _ _ hnum
      have hsz := hb.size
      have hd2 : Hid (Lib.decDigits (k / 10) ++ ((48 + UInt8.ofNat (k % 10)) :: l) = Lib.decDigits m) := by rw [← hd.out, dec_big h10, List.append_assoc]; exact rfl
      clear hnum hd
      go_wp2
      go_roundw
      case rel => exact ⟨k / 10, (48 + UInt8.ofNat (k % 10)) :: l, by omega, by go_num, by rw [← str1_cons]; rfl, hd2, hb.alloc hsz _⟩
      case measure => first | (simp [intOf]; done) | (simp [intOf]; omega)
theorem rdig_any (w : World) (n : Int) (hn : InR n) : Calls Tryz.prog 7 #[.int .i64 n] w fun e w' => e = .returned (.string ⟨(Lib.itoa n).toArray⟩) ∧ Below w.heap.size w w' := by
  by_cases h : 0 ≤ n
  · obtain ⟨m, rfl⟩ : ∃ m : Nat, n = m := ⟨n.toNat, by omega⟩
    exact rdig_pos w m (by have := hn.2; omega)
  · obtain ⟨m, rfl⟩ : ∃ m : Nat, n = -(m : Int) := ⟨n.natAbs, by omega⟩
    exact rdig_neg w m (by omega) (by have := hn.1; omega)
end Go.Proofs.YtehbfpcfbpbllaaGreatDoor
namespace Go.Proofs.YtehbfpcfbpbllaaGreatDoor
open Go.RowKit
theorem bytes_conv (W : World) (s : ByteArray) (hs : s.size ≤ 9223372036854775807) : ∃ c W', (convert 9 44 (.string s)).run Tryz.prog W = .ok (.slice (some ⟨W.heap.size, 0, none⟩) s.size c) W' ∧ At1 vByte W' (some ⟨W.heap.size, 0, none⟩) s.data.toList ∧ Below W.heap.size W W' := by
  refine ⟨_, _, run_bytes_of_string W _ _ 5 s Tryz.underlying9 Tryz.underlying44 Tryz.underlying5, ⟨by rw [Array.length_toList]; exact hs, fun _ => ⟨_, rfl, fun i x hx => ?_⟩⟩, ?_⟩
  · have h9 : ∀ (C : Array Value) (f : Nat × Nat), (W.drew.alloc (.cells C 5 f)).heap[W.heap.size]? = some (.cells C 5 f) := fun C f => by
      show (W.heap.push _)[W.heap.size]? = _
      simp
    have e1 : (⟨W.heap.size, 0, none⟩ : Addr).add i = ⟨W.heap.size, i, none⟩ := by unfold Addr.add; split <;> simp_all
    rw [e1]
    unfold World.cell?
    rw [h9]
    have hx' : s.data[i]? = some x := by rw [← Array.getElem?_toList]; exact hx
    simp [bytesRow, Array.getElem?_append, hx']
    intro h8
    have := (Array.getElem?_eq_some_iff.1 hx').1
    have e : s.size = s.data.size := rfl
    omega
  · exact ((Below.refl _ _).drew).alloc (Nat.le_refl _) _
theorem addr0 (b k : Nat) : (⟨b, 0, none⟩ : Addr).add k = ⟨b, k, none⟩ := by unfold Addr.add; split <;> simp_all
def valD (l : List UInt8) : Nat := l.foldl (fun n b => 10 * n + (b.toNat - 48)) 0
theorem valD_snoc (l : List UInt8) (b : UInt8) : valD (l ++ [b]) = 10 * valD l + (b.toNat - 48) := by simp [valD, List.foldl_append]
theorem valD_lt (l : List UInt8) (hd : ∀ b ∈ l, 48 ≤ b.toNat ∧ b.toNat ≤ 57) : valD l < 10 ^ l.length := by
  have key : ∀ k, k ≤ l.length → valD (l.take k) < 10 ^ k := by
    intro k
    induction k with
    | zero => intro _; simp [valD]
    | succ k ih =>
      intro hk
      have h1 := ih (by omega)
      rw [take_snoc (show k < l.length by omega), valD_snoc, Nat.pow_succ]
      have := hd _ (List.getElem_mem (show k < l.length by omega))
      omega
  have := key l.length (Nat.le_refl _)
  rwa [List.take_length] at this
theorem byte_at {s : ByteArray} {b : UInt8} {r : List UInt8} (h : s.data.toList = b :: r) : ∀ h9, (s[0]'h9).toNat = b.toNat := by
  intro h9
  have e : s.data[0]'h9 = b := by
    have h1 : s.data.toList[0]? = some b := by rw [h]; rfl
    rw [Array.getElem?_toList, Array.getElem?_eq_getElem h9] at h1
    injection h1
  show (s.data[0]'h9).toNat = _
  rw [e]
set_option maxRecDepth 100000 in
set_option maxHeartbeats 2000000 in
theorem iatoi_any (w : World) (s : ByteArray) (h0 : 0 < s.size) (h18 : s.size ≤ 18) (hd : ∀ b ∈ s.data.toList, 48 ≤ b.toNat ∧ b.toNat ≤ 57) :
    Calls Tryz.prog 57 #[.string s] w fun e w' => e = .returned (.tuple #[.int .i64 (valD s.data.toList), .nilIface]) ∧ Below w.heap.size w w' := by
  obtain ⟨c, W1, hcv, hat, hb⟩ := bytes_conv w s (by omega)
  obtain ⟨l, hl⟩ : ∃ l, s.data.toList = l := ⟨_, rfl⟩
  have hll : l.length = s.size := by rw [← hl, Array.length_toList]; rfl
  rw [hl] at hat hd ⊢
  obtain ⟨b, r, hbr⟩ : ∃ b r, l = b :: r := by
    cases l with
    | nil => simp at hll; omega
    | cons b r => exact ⟨b, r, rfl⟩
  have hbt := byte_at (hl.trans hbr)
  have hb1 := hd b (by rw [hbr]; simp)
  have n1 : ((b.toNat : Int) == 45) = false := beq_eq_false_iff_ne.2 (by omega)
  have n2 : ((b.toNat : Int) == 43) = false := beq_eq_false_iff_ne.2 (by omega)
  have HD := Lib.hid hd
  have HV := Lib.hid (fun k (hk : k ≤ l.length) => show valD (l.take k) < 10 ^ 18 from by
    have h1 := valD_lt (l.take k) (fun b hb => hd b (List.mem_of_mem_take hb))
    rw [List.length_take] at h1
    have h2 : 10 ^ min k l.length ≤ 10 ^ 18 := Nat.pow_le_pow_right (by omega) (by omega)
    omega)
  clear hbr hd hb1
  go_enter Tryz.func57, Tryz.ntmps57
  go_wp2_with fail
  go_loopw [6, 49] (fun n u wi => ∃ k : Nat, k ≤ l.length ∧ u = .int .i64 k ∧ n = .int .i64 (valD (l.take k)) ∧ wi = W1) (fun _ u _ => l.length - (intOf u).toNat)
  case atStart => exact ⟨0, Nat.zero_le _, rfl, rfl, rfl⟩
  case round =>
    obtain ⟨k, hk, rfl, rfl, rfl⟩ := hrel
    by_cases hlt : k < l.length
    · have hks : k < s.size := by omega
      obtain ⟨x, hx⟩ : ∃ x, l[k]? = some x := ⟨_, List.getElem?_eq_getElem hlt⟩
      have hxd := HD.out x (List.mem_of_getElem? hx)
      obtain ⟨pa, e, hc⟩ := hat.2 (by omega)
      cases e
      have c0 := hc k x hx
      have HS := Lib.hid (show valD (l.take (k + 1)) = 10 * valD (l.take k) + (x.toNat - 48) by
        obtain ⟨z1, z2⟩ := List.getElem?_eq_some_iff.1 hx
        rw [take_snoc z1, z2, valD_snoc])
      have hv := HV.out k hk
      obtain ⟨v, hve⟩ : ∃ v, valD (l.take k) = v := ⟨_, rfl⟩
      rw [hve] at hv HS ⊢
      obtain ⟨y, hy⟩ : ∃ y : Nat, x.toNat = y + 48 := ⟨x.toNat - 48, by omega⟩
      rw [hy, show y + 48 - 48 = y by omega] at HS
      have hc0 : wr.cell? ⟨w.heap.size, k, none⟩ = some (.int .u8 ((y : Int) + 48)) := by rw [← addr0, c0]; unfold vByte; rw [hy]; push_cast; rfl
      have hy9 : y ≤ 9 := by omega
      have hv2 := HV.out (k + 1) (by omega)
      rw [HS.out] at hv2
      have hv3 : v ≤ 1000000000000000000 := by omega
      have hv4 : 10 * v + y ≤ 1000000000000000000 := by omega
      clear hv hv2
      clear hx hc c0 hve hy hxd
      go_wp2_with fail
      go_roundw
      case rel => exact ⟨k + 1, by omega, by go_num, by rw [HS.out]; go_num, by first | rfl | trivial⟩
      case measure => first | (simp [intOf]; done) | (simp [intOf]; omega)
    · have hke : k = l.length := by omega
      subst hke
      rw [List.take_length]
      go_wp2_with fail
      refine bodyPost_ret (v := .tuple #[.int .i64 (valD l), .nilIface]) (by simp [results, Tryz.f57, go_sem]) rfl ⟨rfl, hb⟩
set_option maxRecDepth 100000 in
theorem atoi_any (w : World) (s : ByteArray) (h0 : 0 < s.size) (h18 : s.size ≤ 18) (hd : ∀ b ∈ s.data.toList, 48 ≤ b.toNat ∧ b.toNat ≤ 57) :
    Calls Tryz.prog 36 #[.string s] w fun e w' => e = .returned (.tuple #[.int .i64 (valD s.data.toList), .nilIface]) ∧ Below w.heap.size w w' := by
  obtain ⟨v, hv⟩ : ∃ v, valD s.data.toList = v := ⟨_, rfl⟩
  go_enter Tryz.func36, Tryz.ntmps36
  go_wp2_with fail
  refine (iatoi_any w s h0 h18 hd).mono ?_
  rintro e w1 ⟨rfl, hb⟩
  rw [hv]
  go_wp2_with fail
  refine bodyPost_ret (v := .tuple #[.int .i64 v, .nilIface]) (by simp [results, Tryz.f36, go_sem]) rfl ⟨by rw [hv], hb⟩
theorem run_ib (s : ByteArray) (c : Int) (W : World) : (callFunc 220 #[.string s, .int .u8 c]).run Tryz.prog W = .ok (.value (.int .i64 (Lib.indexByte s.data.toList c.toNat.toUInt8))) W := by
  rw [run_callFunc_extern Tryz.func220 (by kernel_rfl) (by kernel_rfl) (by kernel_rfl) (e := Extern.BytealgIndexByte.indexByte) (by kernel_rfl), Lib.run_indexByteString]
  rfl
set_option maxRecDepth 100000 in
set_option maxHeartbeats 2000000 in
/-- strings.Cut at '!', that is not there -/
theorem icut_any (w : World) (s : ByteArray) (hn : Lib.indexByte s.data.toList 33 = -1) (hne : s ≠ ⟨#[33]⟩) :
    Calls Tryz.prog 184 #[.string s, .string ⟨#[33]⟩] w fun e w' => e = .returned (.tuple #[.string s, .string ⟨#[]⟩, .bool false]) ∧ w' = w := by
  have b0 : ∀ h, ((⟨#[33]⟩ : ByteArray)[0]'h).toNat = 33 := fun _ => rfl
  have hib : ∀ W, (callFunc 220 #[.string s, .int .u8 33]).run Tryz.prog W = .ok (.value (.int .i64 (-1))) W := fun W => by rw [run_ib, ← hn]; rfl
  have z0 : ([33] == s.toList) = false := by have := str_eq_false (a := ⟨#[33]⟩) (b := s) (Ne.symm hne); rwa [Lib.toList_data ⟨#[33]⟩] at this
  go_enter Tryz.func184, Tryz.ntmps184
  go_wp2
  refine bodyPost_ret (v := .tuple #[.string s, .string ⟨#[]⟩, .bool false]) (by simp [results, Tryz.f184, go_sem]) rfl ⟨rfl, rfl⟩
set_option maxRecDepth 100000 in
theorem cut_any (w : World) (s : ByteArray) (hn : Lib.indexByte s.data.toList 33 = -1) (hne : s ≠ ⟨#[33]⟩) :
    Calls Tryz.prog 143 #[.string s, .string ⟨#[33]⟩] w fun e w' => e = .returned (.tuple #[.string s, .string ⟨#[]⟩, .bool false]) ∧ w' = w := by
  go_enter Tryz.func143, Tryz.ntmps143
  go_wp2_with fail
  refine (icut_any w s hn hne).mono ?_
  rintro e w1 ⟨rfl, rfl⟩
  go_wp2_with fail
  refine bodyPost_ret (v := .tuple #[.string s, .string ⟨#[]⟩, .bool false]) (by simp [results, Tryz.f143, go_sem]) rfl ⟨rfl, rfl⟩
end Go.Proofs.YtehbfpcfbpbllaaGreatDoor
namespace Go.Proofs.YtehbfpcfbpbllaaGreatDoor
open Go.RowKit
theorem size_of {s : ByteArray} {l : List UInt8} (h : s.data.toList = l) : s.size = l.length := by
  show s.data.size = _
  rw [← Array.length_toList, h]
theorem cut1 {s : ByteArray} {b : UInt8} {l : List UInt8} (h : s.data.toList = b :: l) : (s.extract 1 s.size).data.toList = l := by
  rw [ByteArray.data_extract, Array.toList_extract]
  have := size_of h
  rw [List.length_cons] at this
  rw [h, this]
  simp
set_option maxRecDepth 100000 in
set_option maxHeartbeats 2000000 in
theorem iatoi_neg (w : World) (s : ByteArray) (l : List UInt8) (hs : s.data.toList = 45 :: l) (h0 : 0 < l.length) (h18 : l.length ≤ 17) (hd : ∀ b ∈ l, 48 ≤ b.toNat ∧ b.toNat ≤ 57) :
    Calls Tryz.prog 57 #[.string s] w fun e w' => e = .returned (.tuple #[.int .i64 (-(valD l : Int)), .nilIface]) ∧ Below w.heap.size w w' := by
  have hss : s.size = l.length + 1 := by have := size_of hs; rwa [List.length_cons] at this
  obtain ⟨t, ht⟩ : ∃ t, s.extract 1 s.size = t := ⟨_, rfl⟩
  have htl : t.data.toList = l := by rw [← ht]; exact cut1 hs
  have hts : t.size = l.length := size_of htl
  obtain ⟨c, W1, hcv, hat, hb⟩ := bytes_conv w t (by omega)
  rw [htl] at hat
  have hbt := byte_at hs
  have HD := Lib.hid hd
  have HV := Lib.hid (fun k (hk : k ≤ l.length) => show valD (l.take k) < 10 ^ 18 from by
    have h1 := valD_lt (l.take k) (fun b hb => hd b (List.mem_of_mem_take hb))
    rw [List.length_take] at h1
    have h2 : 10 ^ min k l.length ≤ 10 ^ 18 := Nat.pow_le_pow_right (by omega) (by omega)
    omega)
  have ht2 : s.extract 1 (l.length + 1) = t := by rw [← hss]; exact ht
  clear hd hs htl ht
  go_enter Tryz.func57, Tryz.ntmps57
  go_wp2_with fail
  go_loopw [6, 49] (fun n u wi => ∃ k : Nat, k ≤ l.length ∧ u = .int .i64 k ∧ n = .int .i64 (valD (l.take k)) ∧ wi = W1) (fun _ u _ => l.length - (intOf u).toNat)
  case atStart => exact ⟨0, Nat.zero_le _, rfl, rfl, rfl⟩
  case round =>
    obtain ⟨k, hk, rfl, rfl, rfl⟩ := hrel
    by_cases hlt : k < l.length
    · obtain ⟨x, hx⟩ : ∃ x, l[k]? = some x := ⟨_, List.getElem?_eq_getElem hlt⟩
      have hxd := HD.out x (List.mem_of_getElem? hx)
      obtain ⟨pa, e, hc⟩ := hat.2 (by omega)
      cases e
      have c0 := hc k x hx
      have HS := Lib.hid (show valD (l.take (k + 1)) = 10 * valD (l.take k) + (x.toNat - 48) by
        obtain ⟨z1, z2⟩ := List.getElem?_eq_some_iff.1 hx
        rw [take_snoc z1, z2, valD_snoc])
      have hv := HV.out k hk
      obtain ⟨v, hve⟩ : ∃ v, valD (l.take k) = v := ⟨_, rfl⟩
      rw [hve] at hv HS ⊢
      obtain ⟨y, hy⟩ : ∃ y : Nat, x.toNat = y + 48 := ⟨x.toNat - 48, by omega⟩
      rw [hy, show y + 48 - 48 = y by omega] at HS
      have hc0 : wr.cell? ⟨w.heap.size, k, none⟩ = some (.int .u8 ((y : Int) + 48)) := by rw [← addr0, c0]; unfold vByte; rw [hy]; push_cast; rfl
      have hy9 : y ≤ 9 := by omega
      have hv2 := HV.out (k + 1) (by omega)
      rw [HS.out] at hv2
      have hv3 : v ≤ 1000000000000000000 := by omega
      have hv4 : 10 * v + y ≤ 1000000000000000000 := by omega
      clear hv hv2
      clear hx hc c0 hve hy hxd
      go_wp2_with fail
      go_roundw
      case rel => exact ⟨k + 1, by omega, by go_num, by rw [HS.out]; go_num, by first | rfl | trivial⟩
      case measure => first | (simp [intOf]; done) | (simp [intOf]; omega)
    · have hke : k = l.length := by omega
      subst hke
      rw [List.take_length]
      have hv := HV.out l.length (Nat.le_refl _)
      rw [List.take_length] at hv
      obtain ⟨v, hve⟩ : ∃ v, valD l = v := ⟨_, rfl⟩
      rw [hve] at hv ⊢
      have hv3 : v ≤ 1000000000000000000 := by omega
      have HVE := Lib.hid hve
      clear hv hve
      go_wp2_with fail
      refine bodyPost_ret (v := .tuple #[.int .i64 (-(v : Int)), .nilIface]) (by simp [results, Tryz.f57, go_sem]) rfl ⟨by rw [HVE.out], hb⟩
set_option maxRecDepth 100000 in
theorem atoi_neg (w : World) (s : ByteArray) (l : List UInt8) (hs : s.data.toList = 45 :: l) (h0 : 0 < l.length) (h18 : l.length ≤ 17) (hd : ∀ b ∈ l, 48 ≤ b.toNat ∧ b.toNat ≤ 57) :
    Calls Tryz.prog 36 #[.string s] w fun e w' => e = .returned (.tuple #[.int .i64 (-(valD l : Int)), .nilIface]) ∧ Below w.heap.size w w' := by
  obtain ⟨v, hv⟩ : ∃ v, -(valD l : Int) = v := ⟨_, rfl⟩
  have H := Lib.hid (iatoi_neg w s l hs h0 h18 hd)
  clear hs h0 h18 hd
  go_enter Tryz.func36, Tryz.ntmps36
  go_wp2_with fail
  refine H.out.mono ?_
  rintro e w1 ⟨rfl, hb⟩
  rw [hv]
  go_wp2_with fail
  refine bodyPost_ret (v := .tuple #[.int .i64 v, .nilIface]) (by simp [results, Tryz.f36, go_sem]) rfl ⟨by rw [hv], hb⟩
/-- what a number's text is: a sign perhaps, and digits -/
theorem dec_digits (n : Nat) : ∀ b ∈ Lib.decDigits n, 48 ≤ b.toNat ∧ b.toNat ≤ 57 := by
  induction n using Nat.strongRecOn with
  | _ n ih =>
    intro b hb
    by_cases h : n < 10
    · rw [dec_one h, List.mem_singleton] at hb
      subst hb
      rw [dec_num h]; omega
    · rw [dec_big h, List.mem_append, List.mem_singleton] at hb
      rcases hb with hb | rfl
      · exact ih (n / 10) (by omega) b hb
      · rw [dec_num (by omega)]; omega
theorem dec_val (n : Nat) : valD (Lib.decDigits n) = n := by
  induction n using Nat.strongRecOn with
  | _ n ih =>
    by_cases h : n < 10
    · rw [dec_one h]
      show 10 * 0 + ((48 + UInt8.ofNat n : UInt8).toNat - 48) = n
      rw [dec_num h]; omega
    · rw [dec_big h, valD_snoc, ih (n / 10) (by omega), dec_num (by omega)]; omega
theorem dec_pos (n : Nat) : 0 < (Lib.decDigits n).length := by
  by_cases h : n < 10
  · rw [dec_one h]; simp
  · rw [dec_big h]; simp
theorem dec_len17 {n : Nat} (h : n < 100000000000000000) : (Lib.decDigits n).length ≤ 17 := by
  have key : ∀ k n : Nat, n < 10 ^ (k + 1) → (Lib.decDigits n).length ≤ k + 1 := by
    intro k
    induction k with
    | zero => intro n hn; rw [dec_one (by simpa using hn)]; simp
    | succ k ih =>
      intro n hn
      by_cases h : n < 10
      · rw [dec_one h]; simp
      · rw [dec_big h, List.length_append]
        have := ih (n / 10) (by rw [Nat.pow_succ] at hn; omega)
        simp; omega
  exact key 16 n h
theorem atoi_itoa (w : World) (n : Int) (h1 : -100000000000000000 < n) (h2 : n < 100000000000000000) :
    Calls Tryz.prog 36 #[.string ⟨(Lib.itoa n).toArray⟩] w fun e w' => e = .returned (.tuple #[.int .i64 n, .nilIface]) ∧ Below w.heap.size w w' := by
  by_cases h : 0 ≤ n
  · obtain ⟨m, rfl⟩ : ∃ m : Nat, n = m := ⟨n.toNat, by omega⟩
    rw [Lib.itoa_nonneg]
    have hl := dec_len17 (n := m) (by omega)
    have hp := dec_pos m
    have hs : (⟨(Lib.decDigits m).toArray⟩ : ByteArray).size = (Lib.decDigits m).length := size_of (by simp)
    have := atoi_any w ⟨(Lib.decDigits m).toArray⟩ (by omega) (by omega) (by simpa using dec_digits m)
    simpa [dec_val] using this
  · obtain ⟨m, hm, rfl⟩ : ∃ m : Nat, 1 ≤ m ∧ n = -(m : Int) := ⟨n.natAbs, by omega, by omega⟩
    rw [Lib.itoa_neg m hm]
    have := atoi_neg w ⟨(45 :: Lib.decDigits m).toArray⟩ (Lib.decDigits m) (by simp) (dec_pos m) (dec_len17 (by omega)) (dec_digits m)
    simpa [dec_val] using this
/-- what cell.number goes through -/
structure NumText (s : ByteArray) (a : Nat) : Prop where
  pos : a < s.size
  small : s.size ≤ 100
  head : (a = 1 ∧ ∀ h, (s[0]'h).toNat = 45) ∨ (a = 0 ∧ ∀ h, (s[0]'h).toNat ≠ 45)
  dig : ∀ k h, a ≤ k → 48 ≤ (s[k]'h).toNat ∧ (s[k]'h).toNat ≤ 57
set_option maxRecDepth 100000 in
set_option maxHeartbeats 2000000 in
theorem number_any (w : World) (s : ByteArray) (a : Nat) (T : NumText s a) (n : Int) (hat : ∀ W : World, Calls Tryz.prog 36 #[.string s] W fun e w' => e = .returned (.tuple #[.int .i64 n, .nilIface]) ∧ Below W.heap.size W w') :
    Calls Tryz.prog 20 #[.string s] w fun e w' => e = .returned (.tuple #[.int .i64 n, .bool true]) ∧ Below w.heap.size w w' := by
  have HA := Lib.hid hat
  have HD := Lib.hid T.dig
  have hp := T.pos
  have hsm := T.small
  have hem : s.toList.isEmpty = false := by
    rw [List.isEmpty_eq_false_iff, ByteArray.toList_eq]
    intro e
    have := size_of e
    rw [List.length_nil] at this
    omega
  have h0 : 0 < s.size := by omega
  have hd0 := T.head
  clear hat T
  rcases hd0 with ⟨rfl, h1⟩ | ⟨rfl, h1⟩
  · go_enter Tryz.func20, Tryz.ntmps20
    go_wp2_with fail
    go_loopw [5] (fun i wr => ∃ k : Nat, 1 ≤ k ∧ k ≤ s.size ∧ i = .int .i64 k ∧ wr = w) (fun i _ => s.size - (intOf i).toNat)
    case atStart => exact ⟨1, Nat.le_refl _, by omega, rfl, rfl⟩
    case round =>
      obtain ⟨k, hka, hk, rfl, rfl⟩ := hrel
      by_cases hlt : k < s.size
      · have hdk := HD.out k hlt hka
        obtain ⟨y, hy⟩ : ∃ y : Nat, (s[k]'hlt).toNat = y := ⟨_, rfl⟩
        rw [hy] at hdk
        have d1 : decide ((y : Int) < 48) = false := decide_eq_false (by omega)
        have d2 : decide ((y : Int) > 57) = false := decide_eq_false (by omega)
        clear hdk
        go_wp2_with fail
        go_roundw
        case rel => exact ⟨k + 1, by omega, by omega, by go_num, by first | rfl | trivial⟩
        case measure => first | (simp [intOf]; done) | (simp [intOf]; omega)
      · obtain rfl : k = s.size := by omega
        go_wp2_with fail
        refine (HA.out wr).mono ?_
        rintro e w1 ⟨rfl, hb⟩
        go_wp2_with fail
        go_quiet (fail)
        go_wp2
        refine bodyPost_ret (v := .tuple #[.int .i64 n, .bool true]) (by simp [results, Tryz.f20, go_sem]) rfl ⟨rfl, below_drewN hb _⟩
  · have h2 := Lib.hid h1
    have h3 : ∀ h, decide (((s[0]'h).toNat : Int) = 45) = false := fun h => decide_eq_false (by have := h2.out h; omega)
    have h4 : ∀ h, (((s[0]'h).toNat : Int) == 45) = false := fun h => beq_eq_false_iff_ne.2 (by have := h2.out h; omega)
    clear h1
    go_enter Tryz.func20, Tryz.ntmps20
    go_wp2_with fail
    go_loopw [5] (fun i wr => ∃ k : Nat, 0 ≤ k ∧ k ≤ s.size ∧ i = .int .i64 k ∧ wr = w) (fun i _ => s.size - (intOf i).toNat)
    case atStart => exact ⟨0, Nat.le_refl _, by omega, rfl, rfl⟩
    case round =>
      obtain ⟨k, hka, hk, rfl, rfl⟩ := hrel
      by_cases hlt : k < s.size
      · have hdk := HD.out k hlt hka
        obtain ⟨y, hy⟩ : ∃ y : Nat, (s[k]'hlt).toNat = y := ⟨_, rfl⟩
        rw [hy] at hdk
        have d1 : decide ((y : Int) < 48) = false := decide_eq_false (by omega)
        have d2 : decide ((y : Int) > 57) = false := decide_eq_false (by omega)
        clear hdk
        go_wp2_with fail
        go_roundw
        case rel => exact ⟨k + 1, by omega, by omega, by go_num, by first | rfl | trivial⟩
        case measure => first | (simp [intOf]; done) | (simp [intOf]; omega)
      · obtain rfl : k = s.size := by omega
        go_wp2_with fail
        refine (HA.out wr).mono ?_
        rintro e w1 ⟨rfl, hb⟩
        go_wp2_with fail
        go_quiet (fail)
        go_wp2
        refine bodyPost_ret (v := .tuple #[.int .i64 n, .bool true]) (by simp [results, Tryz.f20, go_sem]) rfl ⟨rfl, below_drewN hb _⟩
end Go.Proofs.YtehbfpcfbpbllaaGreatDoor
namespace Go.Proofs
open Go.Shelf
def Tryz.laysItoa_ren : Go.Shelf.Ren := ⟨fun | 171 => 21 | 243 => 37 | 246 => 59 | 283 => 86 | 284 => 87 | 285 => 88 | 286 => 89 | 129 => 119 | 317 => 118 | 318 => 120 | 319 => 121 | 320 => 122 | 337 => 172 | 338 => 173 | n => n, fun | 3 => 3 | 9 => 9 | 2 => 2 | 4 => 4 | 171 => 153 | 0 => 0 | 53 => 43 | 37 => 44 | 5 => 5 | 173 => 156 | 212 => 188 | 51 => 189 | 20 => 20 | 213 => 190 | 46 => 160 | 232 => 241 | 233 => 242 | n => n, fun | 17 => 2 | 18 => 3 | 19 => 4 | n => n⟩
theorem Tryz.laysItoa : Go.Proofs.LaysM.n171 Tryz.prog Tryz.laysItoa_ren := {
  mixed := by kernel_rfl
  f129 := Tryz.func119.trans (congrArg some (by kernel_rfl))
  f171 := Tryz.func21.trans (congrArg some (by kernel_rfl))
  f243 := Tryz.func37.trans (congrArg some (by kernel_rfl))
  f246 := Tryz.func59.trans (congrArg some (by kernel_rfl))
  f283 := Tryz.func86.trans (congrArg some (by kernel_rfl))
  f284 := Tryz.func87.trans (congrArg some (by kernel_rfl))
  f285 := Tryz.func88.trans (congrArg some (by kernel_rfl))
  f286 := Tryz.func89.trans (congrArg some (by kernel_rfl))
  f317 := Tryz.func118.trans (congrArg some (by kernel_rfl))
  f318 := Tryz.func120.trans (congrArg some (by kernel_rfl))
  f319 := Tryz.func121.trans (congrArg some (by kernel_rfl))
  f320 := Tryz.func122.trans (congrArg some (by kernel_rfl))
  f337 := Tryz.func172.trans (congrArg some (by kernel_rfl))
  f338 := Tryz.func173.trans (congrArg some (by kernel_rfl))
  t0 := Tryz.underlying0
  a0 := Tryz.isAgg0
  z0 := Tryz.sizeOf0
  v0 := Tryz.zeroValue0
  t2 := Tryz.underlying2
  a2 := Tryz.isAgg2
  z2 := Tryz.sizeOf2
  v2 := Tryz.zeroValue2
  t3 := Tryz.underlying3
  a3 := Tryz.isAgg3
  z3 := Tryz.sizeOf3
  v3 := Tryz.zeroValue3
  t4 := Tryz.underlying4
  a4 := Tryz.isAgg4
  z4 := Tryz.sizeOf4
  v4 := Tryz.zeroValue4
  t5 := Tryz.underlying5
  a5 := Tryz.isAgg5
  z5 := Tryz.sizeOf5
  v5 := Tryz.zeroValue5
  t9 := Tryz.underlying9
  a9 := Tryz.isAgg9
  z9 := Tryz.sizeOf9
  v9 := Tryz.zeroValue9
  t20 := Tryz.underlying20
  a20 := Tryz.isAgg20
  z20 := Tryz.sizeOf20
  v20 := Tryz.zeroValue20
  t37 := Tryz.underlying44
  a37 := Tryz.isAgg44
  z37 := Tryz.sizeOf44
  v37 := Tryz.zeroValue44
  t46 := Tryz.underlying160
  a46 := Tryz.isAgg160
  z46 := Tryz.sizeOf160
  v46 := Tryz.zeroValue160
  t51 := Tryz.underlying189
  a51 := Tryz.isAgg189
  z51 := Tryz.sizeOf189
  v51 := Tryz.zeroValue189
  t53 := Tryz.underlying43
  a53 := Tryz.isAgg43
  z53 := Tryz.sizeOf43
  v53 := Tryz.zeroValue43
  t171 := Tryz.underlying153
  a171 := Tryz.isAgg153
  z171 := Tryz.sizeOf153
  v171 := Tryz.zeroValue153
  t173 := Tryz.underlying156
  a173 := Tryz.isAgg156
  z173 := Tryz.sizeOf156
  v173 := Tryz.zeroValue156
  t212 := Tryz.underlying188
  a212 := Tryz.isAgg188
  z212 := Tryz.sizeOf188
  v212 := Tryz.zeroValue188
  t213 := Tryz.underlying190
  a213 := Tryz.isAgg190
  z213 := Tryz.sizeOf190
  t232 := Tryz.underlying241
  a232 := Tryz.isAgg241
  z232 := Tryz.sizeOf241
  v232 := Tryz.zeroValue241
  t233 := Tryz.underlying242
  a233 := Tryz.isAgg242
  z233 := Tryz.sizeOf242
  v233 := Tryz.zeroValue242
  g17 := by kernel_rfl
  g18 := by kernel_rfl
  g19 := by kernel_rfl
  i0 := by kernel_rfl
  i2 := by kernel_rfl
  i3 := by kernel_rfl
  i4 := by kernel_rfl
  i5 := by kernel_rfl
  i9 := by kernel_rfl
  i20 := by kernel_rfl
  i37 := by kernel_rfl
  i46 := by kernel_rfl
  i51 := by kernel_rfl
  i53 := by kernel_rfl
  i171 := by kernel_rfl
  i173 := by kernel_rfl
  i212 := by kernel_rfl
  i232 := by kernel_rfl
  i233 := by kernel_rfl
  m17 := by kernel_rfl
  m18 := by kernel_rfl
  m19 := by kernel_rfl }
theorem YtehbfpcfbpbllaaGreatDoor.itoa_any (n : Int) (h0 : -9223372036854775808 ≤ n) (h1 : n ≤ 9223372036854775807) (w : World) (htab : Lib.TabIs Tryz.prog w "internal/strconv.uint64pow10" .u64 Lib.pow10Tab) :
    Calls Tryz.prog 21 #[.int .i64 n] w fun e w' => e = .returned (.string ⟨(Lib.itoa n).toArray⟩) ∧ ∃ k os, w' = Sort.grow (w.drewN k) os := Any.strconv_Itoa Tryz.laysItoa n h0 h1 w htab
end Go.Proofs
namespace Go.Proofs.YtehbfpcfbpbllaaGreatDoor
open Go.RowKit
/-- the table that strconv reads -/
def Tab (w : World) : Prop := Lib.TabIs Tryz.prog w "internal/strconv.uint64pow10" .u64 Lib.pow10Tab
theorem Tab.on {w w' : World} (h : Tab w) (hb : Below w.heap.size w w') : Tab w' := Lib.tabBelow_of_tabIs h w' hb
def numS (n : Int) : ByteArray := ⟨(Lib.itoa n).toArray⟩
structure Small (n : Int) : Prop where
  lo : -100000000000000000 < n
  hi : n < 100000000000000000
theorem byte_of (l : List UInt8) (k : Nat) (h : k < (⟨l.toArray⟩ : ByteArray).size) : ∃ h', ((⟨l.toArray⟩ : ByteArray)[k]'h) = l[k]'h' := ⟨h, rfl⟩
theorem numText (n : Int) (h : Small n) : ∃ a, NumText (numS n) a := by
  unfold numS
  by_cases hn : 0 ≤ n
  · obtain ⟨m, rfl⟩ : ∃ m : Nat, n = m := ⟨n.toNat, by omega⟩
    rw [Lib.itoa_nonneg]
    have hl := dec_len17 (n := m) (by have := h.hi; omega)
    have hp := dec_pos m
    have hd := dec_digits m
    generalize Lib.decDigits m = l at *
    have hs : (⟨l.toArray⟩ : ByteArray).size = l.length := size_of (l := l) rfl
    have key : ∀ (k : Nat) (h : k < (⟨l.toArray⟩ : ByteArray).size), 48 ≤ (((⟨l.toArray⟩ : ByteArray)[k]'h : UInt8)).toNat ∧ (((⟨l.toArray⟩ : ByteArray)[k]'h : UInt8)).toNat ≤ 57 := fun k h => by
      obtain ⟨h', e⟩ := byte_of l k h
      rw [e]; exact hd _ (List.getElem_mem _)
    exact ⟨0, by omega, by omega, .inr ⟨rfl, fun h => by have := key 0 h; omega⟩, fun k h _ => key k h⟩
  · obtain ⟨m, hm, rfl⟩ : ∃ m : Nat, 1 ≤ m ∧ n = -(m : Int) := ⟨n.natAbs, by omega, by omega⟩
    rw [Lib.itoa_neg m hm]
    have hl := dec_len17 (n := m) (by have := h.lo; omega)
    have hp := dec_pos m
    have hd := dec_digits m
    generalize Lib.decDigits m = l at *
    have hs : (⟨(45 :: l).toArray⟩ : ByteArray).size = l.length + 1 := size_of (l := 45 :: l) rfl
    refine ⟨1, by omega, by omega, .inl ⟨rfl, fun h => ?_⟩, fun k h hk => ?_⟩
    · obtain ⟨h', e⟩ := byte_of (45 :: l) 0 h
      rw [e]; rfl
    · obtain ⟨h', e⟩ := byte_of (45 :: l) k h
      rw [e]
      obtain ⟨j, rfl⟩ : ∃ j, k = j + 1 := ⟨k - 1, by omega⟩
      rw [List.getElem_cons_succ]
      exact hd _ (List.getElem_mem _)
set_option maxRecDepth 100000 in
set_option maxHeartbeats 2000000 in
theorem may_num (w : World) (n : Int) (h : Small n) (ht : Tab w) : Calls Tryz.prog 30 #[.string (numS n)] w fun e w' => e = .returned (.bool true) ∧ Below w.heap.size w w' := by
  obtain ⟨a, T⟩ := numText n h
  have HN := Lib.hid (fun W => number_any W (numS n) a T n (fun W => atoi_itoa W n h.lo h.hi))
  have HI := Lib.hid (fun W (hW : Tab W) => itoa_any n (by have := h.lo; omega) (by have := h.hi; omega) W hW)
  have HT := Lib.hid ht
  have hp := T.pos
  have hsm := T.small
  have HHd := Lib.hid T.head
  have HDg := Lib.hid T.dig
  obtain ⟨s, hs⟩ : ∃ s, numS n = s := ⟨_, rfl⟩
  rw [hs] at HN hp hsm HHd HDg ⊢
  have HI2 : Hid (∀ W, Tab W → Calls Tryz.prog 21 #[.int .i64 n] W fun e w' => e = .returned (.string s) ∧ ∃ k os, w' = Sort.grow (W.drewN k) os) := Lib.hid (fun W hW => by have := HI.out W hW; rw [← hs]; exact this)
  have hem : s.toList.isEmpty = false := by
    rw [List.isEmpty_eq_false_iff, ByteArray.toList_eq]
    intro e
    have := size_of e
    rw [List.length_nil] at this
    omega
  have b0 : ∀ h, 45 ≤ (s[0]'h).toNat ∧ (s[0]'h).toNat ≤ 57 := fun h => by
    rcases HHd.out with ⟨_, h1⟩ | ⟨h1, _⟩
    · rw [h1 h]; omega
    · have := HDg.out 0 h (by omega); omega
  have h0 : 0 < s.size := by omega
  obtain ⟨y, hy⟩ : ∃ y : Nat, (s[0]'h0).toNat = y := ⟨_, rfl⟩
  have hb0 := b0 h0
  rw [hy] at hb0
  have q1 : ((y : Int) == 39) = false := beq_eq_false_iff_ne.2 (by omega)
  have q2 : ((y : Int) == 61) = false := beq_eq_false_iff_ne.2 (by omega)
  have q3 : decide ((y : Int) = 39) = false := decide_eq_false (by omega)
  have q4 : decide ((y : Int) = 61) = false := decide_eq_false (by omega)
  have qs : (s.toList == s.toList) = true := by simp
  clear hs hp HI T ht h b0 hb0
  go_enter Tryz.func30, Tryz.ntmps30
  go_wp2_with fail
  refine (HN.out _).mono ?_
  rintro e w1 ⟨rfl, hb⟩
  have ht1 := Lib.hid (HT.out.on hb)
  go_wp2_with fail
  refine (HI2.out _ ht1.out).mono ?_
  rintro e w2 ⟨rfl, k, os, rfl⟩
  have hb2 := hb.trans ((Lib.below_grow w1.heap.size w1 (Nat.le_refl _) k os).mono hb.size)
  go_wp2
  go_ret
  exact ⟨rfl, hb2⟩
theorem val3 {w1 : World} {g : Nat} {a b c : Value} {t : TypeId} (z : w1.heap[g]? = some (.cells #[a, b, c] t (0, 0))) :
    w1.cell? ⟨g, 0, none⟩ = some a ∧ w1.cell? ⟨g, 1, none⟩ = some b ∧ w1.cell? ⟨g, 2, none⟩ = some c ∧ w1.frozen? ⟨g, 0, none⟩ = false ∧ w1.frozen? ⟨g, 1, none⟩ = false ∧ w1.frozen? ⟨g, 2, none⟩ = false :=
  ⟨by simp [World.cell?, z], by simp [World.cell?, z], by simp [World.cell?, z], by simp [World.frozen?, z], by simp [World.frozen?, z], by simp [World.frozen?, z]⟩
set_option maxRecDepth 100000 in
theorem vnum_any (w : World) (n : Int) : Calls Tryz.prog 22 #[.int .i64 n] w fun e w' => e = .returned (.agg #[.int .i64 1, .int .i64 n, .string ⟨#[]⟩]) ∧ Below w.heap.size w w' := by
  go_enter Tryz.func22, Tryz.ntmps22
  go_wp2
  have hz := heap_alloc_new w (.cells #[.int .i64 1, .int .i64 n, .string ⟨#[]⟩] 38)
  have hb := (Below.refl w.heap.size w).alloc (Nat.le_refl _) (.cells #[.int .i64 1, .int .i64 n, .string ⟨#[]⟩] 38)
  generalize w.alloc (.cells #[.int .i64 1, .int .i64 n, .string ⟨#[]⟩] 38) = W at *
  obtain ⟨z0, z1, z2, _, _, _⟩ := val3 hz
  refine bodyPost_ret (v := .agg #[.int .i64 1, .int .i64 n, .string ⟨#[]⟩]) (by simp [results, Tryz.f22, go_sem, z0, z1, z2]) rfl ⟨rfl, hb⟩
set_option maxRecDepth 100000 in
set_option maxHeartbeats 2000000 in
theorem plain_num (w : World) (n : Int) (h : Small n) (ht : Tab w) : Calls Tryz.prog 11 #[.string (numS n)] w fun e w' => e = .returned (.agg #[.int .i64 1, .int .i64 n, .string ⟨#[]⟩]) ∧ Below w.heap.size w w' := by
  obtain ⟨a, T⟩ := numText n h
  have HN := Lib.hid (fun W => number_any W (numS n) a T n (fun W => atoi_itoa W n h.lo h.hi))
  have HI := Lib.hid (fun W (hW : Tab W) => itoa_any n (by have := h.lo; omega) (by have := h.hi; omega) W hW)
  have HT := Lib.hid ht
  have hp := T.pos
  have hsm := T.small
  have HHd := Lib.hid T.head
  have HDg := Lib.hid T.dig
  obtain ⟨s, hs⟩ : ∃ s, numS n = s := ⟨_, rfl⟩
  rw [hs] at HN hp hsm HHd HDg ⊢
  have HI2 : Hid (∀ W, Tab W → Calls Tryz.prog 21 #[.int .i64 n] W fun e w' => e = .returned (.string s) ∧ ∃ k os, w' = Sort.grow (W.drewN k) os) := Lib.hid (fun W hW => by have := HI.out W hW; rw [← hs]; exact this)
  have hem : s.toList.isEmpty = false := by
    rw [List.isEmpty_eq_false_iff, ByteArray.toList_eq]
    intro e
    have := size_of e
    rw [List.length_nil] at this
    omega
  have b0 : ∀ h, 45 ≤ (s[0]'h).toNat ∧ (s[0]'h).toNat ≤ 57 := fun h => by
    rcases HHd.out with ⟨_, h1⟩ | ⟨h1, _⟩
    · rw [h1 h]; omega
    · have := HDg.out 0 h (by omega); omega
  have h0 : 0 < s.size := by omega
  obtain ⟨y, hy⟩ : ∃ y : Nat, (s[0]'h0).toNat = y := ⟨_, rfl⟩
  have hb0 := b0 h0
  rw [hy] at hb0
  have q1 : ((y : Int) == 39) = false := beq_eq_false_iff_ne.2 (by omega)
  have q3 : decide ((y : Int) = 39) = false := decide_eq_false (by omega)
  have qs : (s.toList == s.toList) = true := by simp
  clear hs hp HI T ht h b0 hb0
  go_enter Tryz.func11, Tryz.ntmps11
  go_wp2_with fail
  refine (HN.out _).mono ?_
  rintro e w1 ⟨rfl, hb⟩
  have hbw := ((Below.refl w.heap.size w).alloc (Nat.le_refl _) (.cells #[.int .i64 0, .int .i64 0, .string ⟨#[]⟩] 38)).trans (hb.mono (by simp))
  have hz := (hb.block w.heap.size (by rw [World.size_alloc]; exact Nat.lt_succ_self _)).trans (heap_alloc_new w _)
  have ht1 := Lib.hid (HT.out.on hbw)
  have hlt := (Array.getElem?_eq_some_iff.1 hz).1
  clear hb
  go_wp2_with fail
  refine (HI2.out _ ht1.out).mono ?_
  rintro e w2 ⟨rfl, k, os, rfl⟩
  have hg := Lib.below_grow w1.heap.size w1 (Nat.le_refl _) k os
  have hb2 := hbw.trans (hg.mono hbw.size)
  have hz2 := (hg.block _ hlt).trans hz
  generalize Sort.grow (w1.drewN k) os = w2 at *
  obtain ⟨z0, z1, z2, z3, z4, z5⟩ := val3 hz2
  go_wp2_with fail
  refine (vnum_any w2 n).mono ?_
  rintro e w3 ⟨rfl, hb3⟩
  have hz3 := (hb3.block _ (Array.getElem?_eq_some_iff.1 hz2).1).trans hz2
  have hb4 := hb2.trans (hb3.mono hb2.size)
  clear z0 z1 z2 z3 z4 z5 hz2 hz hg
  obtain ⟨z0, z1, z2, z3, z4, z5⟩ := val3 hz3
  go_wp2
  have hs3 := (((hb4.setCell (p := ⟨w.heap.size, 0, none⟩) (Nat.le_refl _) (.int .i64 1)).setCell (p := ⟨w.heap.size, 1, none⟩) (Nat.le_refl _) (.int .i64 n)).setCell (p := ⟨w.heap.size, 2, none⟩) (Nat.le_refl _) (.string ⟨#[]⟩))
  have hf : (((w3.setCell ⟨w.heap.size, 0, none⟩ (.int .i64 1)).setCell ⟨w.heap.size, 1, none⟩ (.int .i64 n)).setCell ⟨w.heap.size, 2, none⟩ (.string ⟨#[]⟩)).heap[w.heap.size]? = some (.cells #[.int .i64 1, .int .i64 n, .string ⟨#[]⟩] 38 (0, 0)) := by simp [World.setCell, Array.getElem?_modify, hz3]
  generalize (((w3.setCell ⟨w.heap.size, 0, none⟩ (.int .i64 1)).setCell ⟨w.heap.size, 1, none⟩ (.int .i64 n)).setCell ⟨w.heap.size, 2, none⟩ (.string ⟨#[]⟩)) = W at *
  obtain ⟨y0, y1, y2, _, _, _⟩ := val3 hf
  refine bodyPost_ret (v := .agg #[.int .i64 1, .int .i64 n, .string ⟨#[]⟩]) (by simp [results, Tryz.f11, go_sem, y0, y1, y2]) rfl ⟨rfl, hs3⟩
end Go.Proofs.YtehbfpcfbpbllaaGreatDoor
namespace Go.Proofs.YtehbfpcfbpbllaaGreatDoor
namespace VM
open Go Go.RowKit
set_option linter.unusedVariables false
set_option linter.unusedSectionVars false
set_option maxRecDepth 20000
noncomputable section
abbrev Hook := List V → Hp → Option (V × Hp)
def hooksOf : List (Nat × Hook) → Nat → Option Hook
  | [], _ => none
  | p :: r, f => bif Nat.beq f p.1 then some p.2 else hooksOf r f
section
variable [Sy]
def HookOK (f : Nat) (g : Hook) : Prop :=
  ∀ (N : Nat) (al : List V) (h : Hp) (v : V) (h' : Hp), g al h = some (v, h') → ∀ (σ : Mp) (w : World) (xs : List Value), Rel N σ h w → RepL σ al xs →
    match (callFunc f xs.toArray).run Tryz.prog w with
    | .ok (.value x) w' => Does N σ h w v h' x w'
    | .ok (.enter g ys) w' => Calls Tryz.prog g ys w' fun e w'' => ∃ x, e = .returned x ∧ Does N σ h w v h' x w''
    | _ => False
theorem hooksOf_ok : ∀ {l : List (Nat × Hook)}, (∀ p ∈ l, HookOK p.1 p.2) → ∀ {f : Nat} {g : Hook}, hooksOf l f = some g → HookOK f g
  | [], _, _, _, h => by cases h
  | p :: r, hl, f, g, h => by
    rw [hooksOf] at h
    cases hb : Nat.beq f p.1 with
    | true =>
      rw [hb] at h
      cases h
      rw [Nat.eq_of_beq_eq_true hb]
      exact hl p (List.mem_cons_self ..)
    | false =>
      rw [hb] at h
      exact hooksOf_ok (fun q hq => hl q (List.mem_cons_of_mem _ hq)) h
theorem enter_of {f : Nat} {fn : Func} (hf : Tryz.prog.funcs[f]? = some fn) (hb : fn.body.isNone = false) (args : Array Value) (w : World) : (callFunc f args).run Tryz.prog w = .ok (.enter f args) w := by
  unfold callFunc
  simp only [Sem.run_bind, run_program, Result.andThen_ok, hf, nameOK f fn hf, Bool.false_eq_true, if_false, hb, Sem.run_pure]
theorem envOK_so (P : Program) (hook : Nat → Option (List V → Hp → Option (V × Hp))) (idle : Nat → List V → Bool) (so : SOp → List V → Option V) (hm : P.follows .mixedOrders = true) (hs : SopOK (Env.of P hook idle so)) (ha : ∀ j off t v, so (.arg j off t) [] = some v → ∀ w : World, (∀ p ∈ Sy.tab, w.heap[p.1]? = some p.2) → ∃ x, (loadVar t ⟨(Sy.pl j).1, (Sy.pl j).2 + off, none⟩).run P w = .ok x w ∧ ∀ σ, Rep σ v x) (hg : ∀ g off t v, so (.glob g off t) [] = some v → ∀ w : World, (∀ p ∈ Sy.tab, w.heap[p.1]? = some p.2) → ∃ x, (loadVar t ⟨g, off, none⟩).run P w = .ok x w ∧ ∀ σ, Rep σ v x) : EnvOK P (Env.of P hook idle so) :=
  ⟨fun t i h => ofL_range (tiOf P) _ t i h, fun f fn h => ofL_all P.funcs f fn h, hm, hs, ha, hg⟩
/-- what a contract says, a hook may say -/
theorem hook_of {f : Nat} {fn : Func} (hf : Tryz.prog.funcs[f]? = some fn) (hb : fn.body.isNone = false) {N : Nat} {σ : Mp} {h : Hp} {w : World} {xs : List Value} {v : V} {X : Value} (R : Rel N σ h w) (hr : Rep σ v X)
    (hc : Calls Tryz.prog f xs.toArray w fun e w' => e = .returned X ∧ Below w.heap.size w w') :
    match (callFunc f xs.toArray).run Tryz.prog w with
    | .ok (.value x) w' => Does N σ h w v h x w'
    | .ok (.enter g ys) w' => Calls Tryz.prog g ys w' fun e w'' => ∃ x, e = .returned x ∧ Does N σ h w v h x w''
    | _ => False := by
  rw [enter_of hf hb]
  refine hc.mono ?_
  rintro e w' ⟨rfl, hb⟩
  exact ⟨X, rfl, Does.stay hr (R.world hb) (hb.mono R.base) (Nat.le_refl _)⟩
theorem memos_ok {f : Nat} {ms : List Memo} (h : ∀ m ∈ ms, MemoOK Tryz.prog f m) : HookOK f (memoH ms) := fun N al h' v h2 hc σ w xs R hr => memoH_sound h N al h' v h2 hc σ w xs R hr
theorem idxH_ok : HookOK 220 idxH := fun N al h v h' hc => @hooksOK _ 220 idxH rfl N al h v h' hc
end
section
variable {xs : List Int} {bs : Bs} (hb : inB bs xs) {tab : List (Nat × Obj)} {ns : List (List Nat)} {pl : Nat → Nat × Nat} (ht : ∀ w : World, (∀ p ∈ tab, w.heap[p.1]? = some p.2) → Tab w)
include hb
theorem idxS_ok : @HookOK (syP ns pl xs tab) 220 (idxS bs) := by
  letI : Sy := syP ns pl xs tab
  intro N al h v h' hc σ w ys R hr
  unfold idxS at hc
  split at hc
  · rename_i j c
    cases hq0 : (Nat.blt c 256 && !isOp j) with
    | false => rw [hq0] at hc; cases hc
    | true =>
      rw [hq0] at hc
      simp only [Bool.and_eq_true, Bool.not_eq_true'] at hq0
      obtain ⟨hq, hj⟩ := hq0
      simp only [cond_true, Option.bind_eq_some_iff, Option.some.injEq, Prod.mk.injEq] at hc
      obtain ⟨z, hz, rfl, rfl⟩ := hc
      have hz2 := fnd_ok hb (by simpa [Nat.blt_eq] using hq) hz
      have hr2 : RepL σ [.str (Sy.s j), .int .u8 (.ofNat c)] ys := denL_rep hr
      refine idxH_ok N [.str (Sy.s j), .int .u8 (.ofNat c)] h (mkInt .i64 z) h ?_ σ w ys R hr2
      show (bif c.blt 256 then some (mkInt .i64 (idxB (txtP ns xs j) c 0), h) else none) = _
      rw [hq, txtP_of hj]
      show some (mkInt .i64 (idxB (tval xs (decT 4096 j)) c 0), h) = _
      rw [hz2]
  · exact idxH_ok N al h v h' hc σ w ys R hr
theorem digS_some {al : List V} {h h' : Hp} {v : V} (hc : digS bs al h = some (v, h')) {σ : Mp} {ys : List Value} (hr : letI := syP ns pl xs tab; RepL σ al ys) :
    letI := syP ns pl xs tab; ∃ n : Int, ys = [.int .i64 n] ∧ -9223372036854775808 ≤ n ∧ n ≤ 9223372036854775807 ∧ h' = h ∧ Rep σ v (.string ⟨(Lib.itoa n).toArray⟩) := by
  letI : Sy := syP ns pl xs tab
  unfold digS at hc
  split at hc
  · rename_i u
    split at hc
    · rename_i l hl
      cases hq : ilt (lhi l ((1, 1) :: bs)) 9223372036854775808 with
      | false => rw [hq] at hc; cases hc
      | true =>
      rw [hq] at hc
      simp only [cond_true, Option.bind_eq_some_iff, Option.some.injEq, Prod.mk.injEq] at hc
      obtain ⟨r, h1, t, h2, rfl, rfl⟩ := hc
      rw [ilt_eq, decide_eq_true_iff] at hq
      obtain ⟨q1, q2⟩ := l_in l _ _ (in1 hb)
      have e1 := lin_den (tab := tab) (ns := ns) (pl := pl) (xs := xs) hl
      cases hr with | cons _ x _ _ r1 r2 =>
      cases r2
      have r3 := den_rep r1
      rw [e1] at r3
      cases r3
      obtain ⟨h3, h4⟩ := digL_ok hb h1
      have e2 := itoa_dig hb h1
      refine ⟨_, rfl, by omega, by omega, rfl, ?_⟩
      · rw [e2]
        refine rep_den ?_
        rw [mkT_ok (tab := tab) (ns := ns) (pl := pl) h2]
        refine .str _ fun b hb' => ?_
        rw [← h4, List.mem_map] at hb'
        obtain ⟨a, _, rfl⟩ := hb'
        exact a.toNat_lt
    · cases hc
  · cases hc
theorem digits_ok : @HookOK (syP ns pl xs tab) 7 (digS bs) := by
  letI : Sy := syP ns pl xs tab
  intro N al h v h' hc σ w ys R hr
  obtain ⟨n, rfl, h1, h2, rfl, h3⟩ := digS_some (tab := tab) (ns := ns) (pl := pl) hb hc hr
  exact hook_of Tryz.func7 (by kernel_rfl) R h3 (rdig_any w n ⟨by omega, by omega⟩)
include ht
theorem itoaS_ok : @HookOK (syP ns pl xs tab) 21 (digS bs) := by
  letI : Sy := syP ns pl xs tab
  intro N al h v h' hc σ w ys R hr
  obtain ⟨n, rfl, h1, h2, rfl, h3⟩ := digS_some (tab := tab) (ns := ns) (pl := pl) hb hc hr
  refine hook_of Tryz.func21 (by kernel_rfl) R h3 ((itoa_any n h1 h2 w (ht w fun p hp => (R.tab p hp).2)).mono ?_)
  rintro e w' ⟨rfl, k, os, rfl⟩
  exact ⟨rfl, Lib.below_grow w.heap.size w (Nat.le_refl _) k os⟩
end
/-- the machine that reckons with sums alone -/
def hooksM (bs : Bs) : List (Nat × Hook) := [(220, idxS bs), (21, digS bs), (7, digS bs)]
/-- strconv's errors -/
def globs : List (Nat × TypeId) := [(0, 82)]
def EmH (bs : Bs) (l : List (Nat × Hook)) : Env := Env.of Tryz.prog (hooksOf l) idles (soX globs bs)
def Em (bs : Bs) : Env := EmH bs (hooksM bs)
section
variable {xs : List Int} {bs : Bs} (hb : inB bs xs) {tab : List (Nat × Obj)} {ns : List (List Nat)} {pl : Nat → Nat × Nat} (ht : ∀ w : World, (∀ p ∈ tab, w.heap[p.1]? = some p.2) → Tab w) (hg : GlobOK Tryz.prog tab globs)
theorem idleM [Sy] (bs : Bs) (l : List (Nat × Hook)) : IdleOK Tryz.prog (EmH bs l) := @idleOK _
include hb hg
theorem envM (l : List (Nat × Hook)) : @EnvOK (syP ns pl xs tab) Tryz.prog (EmH bs l) := by
  letI := syP ns pl xs tab
  exact envOK_so _ _ _ _ (by kernel_rfl) (sopX hb rfl) (fun _ _ _ _ h => (by cases h)) (globX hg)
omit hg
include ht
theorem hooksM_ok : letI := syP ns pl xs tab; ∀ p ∈ hooksM bs, HookOK p.1 p.2 := by
  letI := syP ns pl xs tab
  intro p hp
  simp only [hooksM, List.mem_cons, List.not_mem_nil, or_false] at hp
  rcases hp with rfl | rfl | rfl
  · exact idxS_ok hb
  · exact itoaS_ok hb ht
  · exact digits_ok hb
theorem hooksOKm : @HooksOK (syP ns pl xs tab) Tryz.prog (Em bs) := by
  letI := syP ns pl xs tab
  intro f g hg
  exact hooksOf_ok (hooksM_ok hb ht) hg
end
end
end VM
end Go.Proofs.YtehbfpcfbpbllaaGreatDoor
namespace Go.Proofs.YtehbfpcfbpbllaaGreatDoor
namespace VM
open Go Go.RowKit
set_option linter.unusedVariables false
set_option linter.unusedSectionVars false
set_option maxRecDepth 20000
noncomputable section
theorem isV_some {r : Option (V × Hp)} {v : V} (h : isV r = some v) : ∃ h', r = some (v, h') := by
  cases r with
  | none => cases h
  | some p => obtain ⟨a, b⟩ := p; cases h; exact ⟨b, rfl⟩
def soG (gl : List (Nat × TypeId)) (o : SOp) (al : List V) : Option V :=
  match o with
  | .glob g off t => bif Nat.beq off 0 && memG gl g t then some .any else none
  | _ => none
def Ec : Env := Env.of Tryz.prog (hooksOf [(220, idxH)]) idles (soG globs)
section
variable [Sy]
theorem idleC : IdleOK Tryz.prog Ec := @idleOK _
theorem hooksC : HooksOK Tryz.prog Ec := by
  intro f g hg
  exact hooksOf_ok (l := [(220, idxH)]) (fun p hp => by rw [List.mem_singleton.1 hp]; exact idxH_ok) hg
theorem envC (hg : GlobOK Tryz.prog Sy.tab globs) : EnvOK Tryz.prog Ec := by
  refine envOK_so _ _ _ _ (by kernel_rfl) ⟨fun _ _ _ _ h => (by cases h), fun _ _ _ h => (by cases h), fun _ _ _ _ h => (by cases h), fun _ _ h => (by cases h), fun _ _ _ _ h => (by cases h), fun _ _ h => (by cases h), fun _ _ h => (by cases h), fun _ _ _ h => (by cases h), fun _ _ _ h => (by cases h)⟩ (fun _ _ _ _ h => (by cases h)) ?_
  intro g off t v h w hw
  simp only [soG] at h
  cases hq : (Nat.beq off 0 && memG globs g t) with
  | false => rw [hq] at h; cases h
  | true =>
    rw [hq] at h
    cases h
    simp only [Bool.and_eq_true, Nat.beq_eq] at hq
    obtain ⟨rfl, h2⟩ := hq
    obtain ⟨x, h3, h4⟩ := hg _ (memG_in h2) w hw
    exact ⟨x, h3, fun σ => .any x h4⟩
end
end
end VM
end Go.Proofs.YtehbfpcfbpbllaaGreatDoor
namespace Go.Proofs.YtehbfpcfbpbllaaGreatDoor
open Go Go.RowKit VM
set_option linter.unusedVariables false
set_option maxRecDepth 20000
/-- what strconv reads of its globals -/
def Tabs (W : World) : Prop := Tab W ∧ ∃ u v ty fz, W.heap[0]? = some (.cells #[.iface u v] ty fz)
/-- a listed variable that holds an interface -/
theorem iface_at (W : World) {s : String} {d : DataW Unit} (hL : laidMet Tryz.prog [("strconv.ErrSyntax", .iface s d)] W) : ∃ u v ty fz, W.heap[0]? = some (.cells #[.iface u v] ty fz) := by
  obtain ⟨ps, ⟨g, t, cs, fuel, p, q, h1, h2, h3, h4, _⟩, _⟩ := hL
  have e1 : Tryz.prog.globalNamed "strconv.ErrSyntax" = some 0 := by kernel_rfl
  have e2 : (Tryz.prog.globals[0]?).map (·.type) = some 82 := by kernel_rfl
  rw [e1] at h1
  cases h1
  rw [e2] at h2
  cases h2
  cases fuel with
  | zero => cases h4
  | succ fuel =>
    obtain ⟨ms, hu⟩ : ∃ ms, Tryz.prog.underlying 82 = some (.interface ms) := ⟨_, Tryz.underlying82⟩
    have key : ∃ u v, cs.toList = [.iface u v] := by
      generalize cs.toList = l at h4 ⊢
      unfold DataW.trod at h4
      simp only [hu] at h4
      rcases l with _ | ⟨x, _ | ⟨y, r⟩⟩
      · cases h4
      · cases x <;> first | exact ⟨_, _, rfl⟩ | (cases h4; done)
      · cases x <;> (cases h4; done)
    obtain ⟨u, v, hcs⟩ := key
    obtain rfl : cs = #[.iface u v] := Array.toList_inj.1 (by rw [hcs])
    unfold World.var? at h3
    rw [e1] at h3
    simp only [Option.bind_some] at h3
    split at h3
    · rename_i cs2 ty fz hh
      cases h3
      exact ⟨u, v, ty, fz, hh⟩
    · cases h3
theorem globOK_of {g : Nat} {obj o2 : Obj} {u : TypeId} {v : Value} {ty : TypeId} {fz : Nat × Nat} (he : o2 = .cells #[.iface u v] ty fz) : GlobOK Tryz.prog [(g, obj), (0, o2)] globs := by
  intro p hp w hw
  have hp2 := List.mem_singleton.1 hp
  subst hp2
  have h1 := hw (0, o2) (by simp)
  simp only [he] at h1
  refine ⟨.iface u v, ?_, rfl⟩
  have e3 : (isAgg 82).run Tryz.prog w = .ok false w := by
    letI := syNo
    rw [run_isAgg Tryz.underlying82]
    rfl
  simp only [loadVar, Sem.run_bind, e3, Result.andThen_ok, Bool.false_eq_true, if_false]
  simp [World.cell?, h1]
end Go.Proofs.YtehbfpcfbpbllaaGreatDoor
namespace Go.Proofs.YtehbfpcfbpbllaaGreatDoor.VM
open Go Go.RowKit
set_option linter.unusedVariables false
set_option linter.unusedSectionVars false
set_option linter.unusedSimpArgs false
/-- an unknown number alone; the first one at 1 -/
def unitL : Nat → List Int
  | 0 => [1]
  | n + 1 => 0 :: unitL n
theorem unit_val : ∀ (i : Nat) (xs : List Int), lval (unitL i) xs = (xs[i]?).getD 0
  | 0, [] => rfl
  | 0, x :: xs => by simp [unitL, lval, lval_nil]
  | i + 1, [] => by simp [unitL, lval]
  | i + 1, x :: xs => by simp [unitL, lval, unit_val i xs]
/-- which unknown number a sum is -/
def unitI : List Int → Option Nat
  | [] => none
  | [c] => bif ieq c 1 then some 0 else none
  | c :: l => bif ieq c 0 then (unitI l).bind fun i => some (i + 1) else none
theorem unitI_ok : ∀ {l : List Int} {i : Nat}, unitI l = some i → l = unitL i
  | [], i, h => by cases h
  | [c], i, h => by
    letI : Sy := syNo
    rw [unitI] at h
    cases hc : ieq c 1 with
    | false => rw [hc] at h; cases h
    | true =>
      rw [hc] at h
      cases h
      rw [(ieq_iff _ _).1 hc]
      rfl
  | c :: d :: l, i, h => by
    letI : Sy := syNo
    have e : unitI (c :: d :: l) = bif ieq c 0 then (unitI (d :: l)).bind fun i => some (i + 1) else none := by simp [unitI]
    rw [e] at h
    cases hc : ieq c 0 with
    | false => rw [hc] at h; cases h
    | true =>
      rw [hc] at h
      simp only [cond_true, Option.bind_eq_some_iff, Option.some.injEq] at h
      obtain ⟨k, h1, rfl⟩ := h
      rw [(ieq_iff _ _).1 hc, unitI_ok h1]
      rfl
/-- an argument's cells: type, kind, how many, which unknown number the first is -/
structure Ar where
  t : TypeId
  k : IntKind
  n : Nat
  at_ : Nat
def argV (bs : Bs) (ar : List Ar) (j off : Nat) (t : TypeId) : Option V :=
  (ar[j]?).bind fun a => bif Nat.beq a.t t && Nat.blt off a.n then mkL bs a.k (unitL (a.at_ + off + 1)) else none
def opIdx (fb : List Nat) (bs : Bs) : List V → Option V
  | [.symS j, .int .i64 (.ofNat 0)] => bif isOp j then (fb[opI j]?).bind fun e => mkL bs .u8 (decL 60 e) else none
  | _ => none
def opCmp (fb : List Nat) (c : Bool) : List V → Option V
  | [.symS j, .str []] => bif isOp j && Nat.blt (opI j) fb.length then some (.bool c) else none
  | _ => none
def orE (a b : Option V) : Option V :=
  match a with
  | some v => some v
  | none => b
def soY (gl : List (Nat × TypeId)) (ar : List Ar) (fb : List Nat) (bs : Bs) (o : SOp) (al : List V) : Option V :=
  match o with
  | .arg j off t => argV bs ar j off t
  | .idx => orE (opIdx fb bs al) (soX gl bs .idx al)
  | .bin .neq => orE (opCmp fb true al) (soX gl bs (.bin .neq) al)
  | .bin .eql => orE (opCmp fb false al) (soX gl bs (.bin .eql) al)
  | o => soX gl bs o al
theorem orE_some {a b : Option V} {v : V} (h : orE a b = some v) : a = some v ∨ b = some v := by
  cases a with
  | none => exact .inr h
  | some x => exact .inl h
/-- first bytes -/
def FirstOK (ns : List (List Nat)) (xs : List Int) (fb : List Nat) : Prop := ∀ (i e : Nat), fb[i]? = some e → ∃ (c : Nat) (r : List Nat), ns[i]? = some (c :: r) ∧ (nval xs e).toNat = c
section
variable {xs : List Int} {bs : Bs} {tab : List (Nat × Obj)} {ns : List (List Nat)} {pl : Nat → Nat × Nat} {gl : List (Nat × TypeId)} {ar : List Ar} {fb : List Nat}
theorem opCmp_ok (hf : FirstOK ns xs fb) {c : Bool} {al : List V} {v : V} (h : opCmp fb c al = some v) : ∃ j d r, al = [.symS j, .str []] ∧ @den (syP ns pl xs tab) (.symS j) = .str (d :: r) ∧ v = .bool c := by
  unfold opCmp at h
  split at h
  · rename_i j
    cases hj : (isOp j && Nat.blt (opI j) fb.length) with
    | false => rw [hj] at h; cases h
    | true =>
      rw [hj] at h
      cases h
      simp only [Bool.and_eq_true, Nat.blt_eq] at hj
      obtain ⟨d, r, h1, _⟩ := hf (opI j) _ (List.getElem?_eq_getElem hj.2)
      refine ⟨j, d, r, rfl, ?_, rfl⟩
      show V.str (txtP ns xs j) = _
      unfold txtP opS
      rw [hj.1, h1]
      rfl
  · cases h
theorem sopY (hb : inB bs xs) (hf : FirstOK ns xs fb) {E : Env} (hE : E.so = soY gl ar fb bs) : @SopOK (syP ns pl xs tab) E := by
  letI : Sy := syP ns pl xs tab
  have S := @sopX xs bs tab ns pl gl hb { E with so := soX gl bs } rfl
  refine ⟨fun op a b v h => ?_, fun k a v h => S.conv k a v (by rw [hE] at h; exact h), fun a l n v h => ?_,
    fun a v h => S.len a v (by rw [hE] at h; exact h), fun a l h' v h => S.cut a l h' v (by rw [hE] at h; exact h), fun a l h => S.bytes a l (by rw [hE] at h; exact h), fun l v h => S.text l v (by rw [hE] at h; exact h),
    fun k j v h => S.char k j v (by rw [hE] at h; exact h), fun lt l v h => S.min lt l v (by rw [hE] at h; exact h)⟩
  · rw [hE] at h
    cases op <;> first | exact S.bin _ a b v h | skip
    · rcases orE_some h with h | h
      · obtain ⟨j, d, r, h1, h2, rfl⟩ := opCmp_ok (tab := tab) (pl := pl) hf h
        cases h1
        rw [h2]
        rfl
      · exact S.bin _ a b v h
    · rcases orE_some h with h | h
      · obtain ⟨j, d, r, h1, h2, rfl⟩ := opCmp_ok (tab := tab) (pl := pl) hf h
        cases h1
        rw [h2]
        rfl
      · exact S.bin _ a b v h
  · rw [hE] at h
    have h9 := orE_some h
    clear h
    rcases h9 with h | h
    · unfold opIdx at h
      split at h
      · rename_i j heq
        cases heq
        cases hj : isOp j with
        | false => rw [hj] at h; cases h
        | true =>
          rw [hj] at h
          simp only [cond_true, Option.bind_eq_some_iff] at h
          obtain ⟨e, h1, h2⟩ := h
          obtain ⟨c, r, h3, h4⟩ := hf _ _ h1
          refine ⟨txtP ns xs j, rfl, c, ?_, ?_⟩
          · unfold txtP opS
            rw [hj, h3]
            rfl
          · rw [byte_ok (tab := tab) hb h2, h4]
      · cases h
    · exact S.idx a l n v h
/-- arguments' cells -/
def ArOK (P : Program) (tab : List (Nat × Obj)) (pl : Nat → Nat × Nat) (xs : List Int) (ar : List Ar) : Prop :=
  ∀ j a, ar[j]? = some a → ∀ off, off < a.n → ∀ w : World, (∀ p ∈ tab, w.heap[p.1]? = some p.2) → (loadVar a.t ⟨(pl j).1, (pl j).2 + off, none⟩).run P w = .ok (.int a.k ((xs[a.at_ + off]?).getD 0)) w
theorem argY {P : Program} (hb : inB bs xs) (ha : ArOK P tab pl xs ar) (j off : Nat) (t : TypeId) (v : V) (h : soY gl ar fb bs (.arg j off t) [] = some v) (w : World) (hw : ∀ p ∈ (syP ns pl xs tab).tab, w.heap[p.1]? = some p.2) :
    letI := syP ns pl xs tab; ∃ x, (loadVar t ⟨(Sy.pl j).1, (Sy.pl j).2 + off, none⟩).run P w = .ok x w ∧ ∀ σ, Rep σ v x := by
  letI : Sy := syP ns pl xs tab
  change argV bs ar j off t = some v at h
  unfold argV at h
  rw [Option.bind_eq_some_iff] at h
  obtain ⟨a, h1, h⟩ := h
  cases hq : (Nat.beq a.t t && Nat.blt off a.n) with
  | false => rw [hq] at h; cases h
  | true =>
    rw [hq] at h
    simp only [Bool.and_eq_true, Nat.blt_eq] at hq
    obtain ⟨h2, h3⟩ := hq
    have h2 := Nat.eq_of_beq_eq_true h2
    subst h2
    obtain ⟨h4, _, _⟩ := mkL_ok (tab := tab) (ns := ns) (pl := pl) hb h
    refine ⟨_, ha j a h1 off h3 w hw, fun σ => rep_den ?_⟩
    rw [h4, unit_val]
    rw [List.getElem?_cons_succ]
    exact .int _ _
theorem globY {P : Program} (hg : GlobOK P tab gl) (g off : Nat) (t : TypeId) (v : V) (h : soY gl ar fb bs (.glob g off t) [] = some v) (w : World) (hw : ∀ p ∈ (syP ns pl xs tab).tab, w.heap[p.1]? = some p.2) :
    letI := syP ns pl xs tab; ∃ x, (loadVar t ⟨g, off, none⟩).run P w = .ok x w ∧ ∀ σ, Rep σ v x := globX (ns := ns) (pl := pl) (bs := bs) hg g off t v h w hw
end
end Go.Proofs.YtehbfpcfbpbllaaGreatDoor.VM
namespace Go.Proofs.YtehbfpcfbpbllaaGreatDoor
open Go.RowKit Go.Maps

/-- 'm[k] = v' of a map literal, at the operation -/
theorem wpList_insert_own {H : Type} {P : Program} (w : World) {ops : Array Oper} {rest : List Oper} {o : Oper} {a : Act} {Q : Exit → Act → World → Prop}
    (hg : o.guard = none) (m x v : Operand) (t : TypeId) (hop : o.op = Op.insert t m x v)
    (k e : TypeId) (K : Keyed P k) (ht : P.underlying t = some (.map k e)) (R : Value → Option (DataW H × List MemPlace)) (b n : Nat) (D : DataW H)
    (hm : a.eval m = .map (some b)) (hown : w.ownsMap P k R b n D) (hn : n < maxLen) (key val : Value) (kl : Lit) (hx : a.eval x = key) (hv : a.eval v = val) (hkey : keyOf P k key = some kl)
    (d : DataW H) (ps : List MemPlace) (hval : R val = some (d, ps))
    (hK : ∀ w', w'.ownsMap P k R b (n + 1) (D.put kl d) → w.grownBy w' (some b) → wpList P ops Q rest (a.put o.dst undef) w') :
    wpList P ops Q (o :: rest) a w := by
  refine wpList_plain hg fun K' hK' => ?_
  obtain ⟨w', hrun, r1, r2⟩ := hown.update K ht hn hkey hval
  unfold Oper.wp
  simp [execOp, hop, hm, hx, hv, hrun, Result.andThen]
  exact hK' _ _ (hK w' r1 r2)
/-- 'm[k]', at the operation -/
theorem wpList_lookup_own {H : Type} {P : Program} (w : World) {ops : Array Oper} {rest : List Oper} {o : Oper} {a : Act} {Q : Exit → Act → World → Prop}
    (hg : o.guard = none) (m x : Operand) (t : TypeId) (hop : o.op = Op.lookup t m x false)
    (k e : TypeId) (K : Keyed P k) (ht : P.underlying t = some (.map k e)) (R : Value → Option (DataW H × List MemPlace)) {z : Value} (hz : (zeroValue e).run P w = .ok z w) {zd : DataW H} {zp : List MemPlace} (hzd : R z = some (zd, zp)) (b n : Nat) (D : DataW H)
    (hm : a.eval m = .map (some b)) (hown : w.ownsMap P k R b n D) (key : Value) (kl : Lit) (hx : a.eval x = key) (hkey : keyOf P k key = some kl)
    (hK : ∀ v ps, R v = some (D.atKey kl zd, ps) → wpList P ops Q rest (a.put o.dst v) w) :
    wpList P ops Q (o :: rest) a w := by
  refine wpList_plain hg fun K' hK' => ?_
  obtain ⟨v, ps, hrun, hv⟩ := hown.lookup K ht hz hzd hkey
  unfold Oper.wp
  simp [execOp, hop, hm, hx, hrun, Result.andThen]
  exact hK' _ _ (hK v ps hv)

/-- how a function value of the table reads -/
def FR (v : Value) : Option (DataW Unit × List MemPlace) := match v with
  | .func (.func f) a b => if a.size = 0 ∧ b.size = 0 then some (.lit (.int .i64 f), []) else none
  | .nilFunc => some (.nil, [])
  | _ => none
theorem FR_inv {v : Value} {f : Nat} {ps : List MemPlace} (h : FR v = some (.lit (.int .i64 f), ps)) : v = .func (.func f) #[] #[] := by
  unfold FR at h
  split at h
  · rename_i f' a b
    split at h
    · rename_i hab
      injection h with h
      injection h with h _
      injection h with h
      injection h with _ h
      have e : f' = f := Int.ofNat.inj h
      rw [e, Array.eq_empty_of_size_eq_zero hab.1, Array.eq_empty_of_size_eq_zero hab.2]
    · cases h
  · cases h
  · cases h
theorem keyInt : Keyed Tryz.prog 3 := int_keyed Tryz.underlying3
theorem keyOfInt (a : Int) (h : (Lit.int .i64 a).wf = true) : keyOf Tryz.prog 3 (.int .i64 a) = some (.int .i64 a) := keyOf_int_mk Tryz.underlying3 h
theorem zeroFn (w : World) : (zeroValue 212).run Tryz.prog w = .ok .nilFunc w := by kernel_rfl
/-- the table: what each operator's key has -/
def opTab : DataW Unit := ((((DataW.map []).put (.int .i64 16) (.lit (.int .i64 165))).put (.int .i64 17) (.lit (.int .i64 166))).put (.int .i64 18) (.lit (.int .i64 167))).put (.int .i64 19) (.lit (.int .i64 168))
theorem opTab16 : opTab.atKey (.int .i64 16) .nil = .lit (.int .i64 165) := by rfl
theorem opTab17 : opTab.atKey (.int .i64 17) .nil = .lit (.int .i64 166) := by rfl
theorem opTab18 : opTab.atKey (.int .i64 18) .nil = .lit (.int .i64 167) := by rfl
theorem opTab19 : opTab.atKey (.int .i64 19) .nil = .lit (.int .i64 168) := by rfl

set_option maxRecDepth 100000 in
theorem add_any (w : World) (x y : Int) : Calls Tryz.prog 165 #[.agg #[.int .i64 x, .int .i64 y]] w fun e w' =>
    e = .returned (.tuple #[.int .i64 (wrap64 (x + y)), .bool (decide (x < wrap64 (x + y)) == decide (0 < y))]) ∧ Below w.heap.size w w' := by
  go_enter Tryz.func165, Tryz.ntmps165
  go_wp2
  go_quiet (fail)
  go_wp2
  go_ret2
  exact ⟨rfl, below_drewN ((Below.refl _ _).alloc (Nat.le_refl _) _) _⟩
end Go.Proofs.YtehbfpcfbpbllaaGreatDoor
namespace Go.Proofs.YtehbfpcfbpbllaaGreatDoor
namespace VM
open Go Go.RowKit
set_option linter.unusedVariables false
set_option linter.unusedSectionVars false
set_option maxRecDepth 20000
noncomputable section
/-- a text that is an unknown number's -/
def opC (i : Nat) : Nat := Nat.add (Nat.mul i (Nat.pow 2 640)) 1
def opV (i : Nat) : V := fTxt (opC i)
theorem M_gt' (n : Nat) (h : n ≠ 0) : 1 < Nat.pow 2 n := Nat.one_lt_two_pow h
theorem M_gt : 1 < Nat.pow 2 640 := by
  obtain ⟨n, hn⟩ : ∃ n : Nat, n = 640 := ⟨_, rfl⟩
  rw [← hn]
  exact M_gt' n (by omega)
theorem isOp_opC (i : Nat) : isOp (opC i) = true := by
  unfold isOp opC
  have := M_gt
  generalize Nat.pow 2 640 = M at *
  show Nat.beq ((i * M + 1) % M) 1 = true
  have : (i * M + 1) % M = 1 := by rw [Nat.mul_comm, Nat.mul_add_mod]; exact Nat.mod_eq_of_lt this
  rw [this]; rfl
theorem opI_opC (i : Nat) : opI (opC i) = i := by
  unfold opI opC
  have := M_gt
  generalize Nat.pow 2 640 = M at *
  show (i * M + 1) / M = i
  rw [Nat.mul_comm, Nat.mul_add_div (by omega), Nat.div_eq_of_lt this]; rfl
def digN (bs : Bs) (k : Nat) (al : List V) (h : Hp) : Option (V × Hp) :=
  match al with
  | [v] => match linOf v with
    | some (.i64, l) => match unitI l with
      | some (i + 1) => bif Nat.blt i k then some (opV i, h) else digS bs al h
      | _ => digS bs al h
    | _ => none
  | _ => none
def mayN (k : Nat) (ms : List Memo) (al : List V) (h : Hp) : Option (V × Hp) :=
  match al with
  | [.symS j] => bif isOp j && Nat.blt (opI j) k then some (.bool true, h) else none
  | al => memoH ms al h
def plainN (bs : Bs) (k : Nat) (ms : List Memo) (al : List V) (h : Hp) : Option (V × Hp) :=
  match al with
  | [.symS j] => bif isOp j && Nat.blt (opI j) k then (mkL bs .i64 (unitL (opI j + 1))).bind fun v => some (.agg [.int .i64 (.ofNat 1), v, .str []], h) else none
  | al => memoH ms al h
def addS (bs : Bs) (al : List V) (h : Hp) : Option (V × Hp) :=
  match al with
  | [.agg [a, b]] => match linOf a, linOf b with
    | some (.i64, l), some (.i64, r) => (mkL bs .i64 (ladd l r)).bind fun v => some (.tup [v, .bool true], h)
    | _, _ => none
  | _ => none
/-- the first k unknown numbers are small, and the texts theirs -/
def NumsOK (ns : List (List Nat)) (xs : List Int) (k : Nat) : Prop := ∀ i, i < k → ∃ n, xs[i]? = some n ∧ Small n ∧ ns[i]? = some (strOf (numS n))
section
variable {xs : List Int} {bs : Bs} (hb : inB bs xs) {tab : List (Nat × Obj)} {ns : List (List Nat)} {pl : Nat → Nat × Nat} {k : Nat} (hn : NumsOK ns xs k) (ht : ∀ w : World, (∀ p ∈ tab, w.heap[p.1]? = some p.2) → Tab w)
include hn
theorem opRep {i : Nat} (h : i < k) (σ : Mp) : letI := syP ns pl xs tab; ∃ n, xs[i]? = some n ∧ Small n ∧ Rep σ (opV i) (.string (numS n)) := by
  letI : Sy := syP ns pl xs tab
  obtain ⟨n, h1, h2, h3⟩ := hn i h
  refine ⟨n, h1, h2, ?_⟩
  have hs : Sy.s (opC i) = strOf (numS n) := by
    show txtP ns xs (opC i) = _
    unfold txtP opS
    rw [isOp_opC, opI_opC, h3]
    rfl
  have r := Rep.symS (σ := σ) (opC i) (by rw [hs]; exact strOf_lt _)
  rw [hs, bytesOf_strOf] at r
  unfold opV
  rw [fTxt_eq]
  exact r
theorem op_inv {j : Nat} (h : (isOp j && Nat.blt (opI j) k) = true) {σ : Mp} {ys : List Value} (hr : letI := syP ns pl xs tab; RepL σ [.symS j] ys) : ∃ n, xs[opI j]? = some n ∧ Small n ∧ ys = [.string (numS n)] := by
  letI : Sy := syP ns pl xs tab
  simp only [Bool.and_eq_true, Nat.blt_eq] at h
  obtain ⟨h1, h2⟩ := h
  obtain ⟨n, h3, h4, h5⟩ := hn _ h2
  refine ⟨n, h3, h4, ?_⟩
  have hs : Sy.s j = strOf (numS n) := by
    show txtP ns xs j = _
    unfold txtP opS
    rw [h1, h5]
    rfl
  cases hr with | cons _ x _ _ r1 r2 =>
  cases r2
  cases r1
  rw [hs, bytesOf_strOf]
include hb in
theorem digN_ok : @HookOK (syP ns pl xs tab) 7 (digN bs k) := by
  letI : Sy := syP ns pl xs tab
  intro N al h v h' hc σ w ys R hr
  unfold digN at hc
  split at hc
  · rename_i u
    split at hc
    · rename_i l hl
      split at hc
      · rename_i i hu
        cases hq : Nat.blt i k with
        | false =>
          rw [hq] at hc
          simp only [cond_false] at hc
          exact digits_ok hb N _ h v h' hc σ w ys R hr
        | true =>
          rw [hq] at hc
          cases hc
          rw [Nat.blt_eq] at hq
          obtain ⟨n, h1, h2, h3⟩ := opRep (tab := tab) (pl := pl) hn hq σ
          have e1 := lin_den (tab := tab) (ns := ns) (pl := pl) (xs := xs) hl
          cases hr with | cons _ x _ _ r1 r2 =>
          cases r2
          have r3 := den_rep r1
          rw [e1] at r3
          rw [unitI_ok hu, unit_val] at r3
          simp only [List.getElem?_cons_succ, h1, Option.getD_some] at r3
          cases r3
          have := h2.lo
          have := h2.hi
          exact hook_of Tryz.func7 (by kernel_rfl) R h3 (rdig_any w n ⟨by omega, by omega⟩)
      · exact digits_ok hb N _ h v h' hc σ w ys R hr
    · cases hc
  · cases hc
include ht
theorem mayN_ok {ms : List Memo} (hm : letI := syP ns pl xs tab; ∀ m ∈ ms, MemoOK Tryz.prog 30 m) : @HookOK (syP ns pl xs tab) 30 (mayN k ms) := by
  letI : Sy := syP ns pl xs tab
  intro N al h v h' hc σ w ys R hr
  unfold mayN at hc
  split at hc
  · rename_i j
    cases hq : (isOp j && Nat.blt (opI j) k) with
    | false => rw [hq] at hc; cases hc
    | true =>
      rw [hq] at hc
      cases hc
      obtain ⟨n, _, h2, rfl⟩ := op_inv (tab := tab) (pl := pl) hn hq hr
      exact hook_of Tryz.func30 (by kernel_rfl) R (.bool true) (may_num w n h2 (ht w fun p hp => (R.tab p hp).2))
  · exact memoH_sound hm N al h v h' hc σ w ys R hr
include hb in
theorem plainN_ok {ms : List Memo} (hm : letI := syP ns pl xs tab; ∀ m ∈ ms, MemoOK Tryz.prog 11 m) : @HookOK (syP ns pl xs tab) 11 (plainN bs k ms) := by
  letI : Sy := syP ns pl xs tab
  intro N al h v h' hc σ w ys R hr
  unfold plainN at hc
  split at hc
  · rename_i j
    cases hq : (isOp j && Nat.blt (opI j) k) with
    | false => rw [hq] at hc; cases hc
    | true =>
      rw [hq] at hc
      simp only [cond_true, Option.bind_eq_some_iff, Option.some.injEq, Prod.mk.injEq] at hc
      obtain ⟨u, hu, rfl, rfl⟩ := hc
      obtain ⟨n, h1, h2, rfl⟩ := op_inv (tab := tab) (pl := pl) hn hq hr
      obtain ⟨h3, _, _⟩ := mkL_ok (tab := tab) (ns := ns) (pl := pl) hb hu
      rw [unit_val] at h3
      simp only [List.getElem?_cons_succ, h1, Option.getD_some] at h3
      have r1 : Rep σ u (.int .i64 n) := rep_den (by rw [h3]; exact .int _ _)
      have hv : Rep σ (.agg [.int .i64 (.ofNat 1), u, .str []]) (.agg #[.int .i64 1, .int .i64 n, .string ⟨#[]⟩]) :=
        .agg _ [_, _, _] (.cons _ _ _ _ (.int _ _) (.cons _ _ _ _ r1 (.cons _ _ _ _ (.str [] (by simp)) .nil)))
      exact hook_of Tryz.func11 (by kernel_rfl) R hv (plain_num w n h2 (ht w fun p hp => (R.tab p hp).2))
  · exact memoH_sound hm N al h v h' hc σ w ys R hr
end
section
variable {xs : List Int} {bs : Bs} (hb : inB bs xs) {tab : List (Nat × Obj)} {ns : List (List Nat)} {pl : Nat → Nat × Nat}
include hb
theorem addS_ok : @HookOK (syP ns pl xs tab) 165 (addS bs) := by
  letI : Sy := syP ns pl xs tab
  intro N al h v h' hc σ w ys R hr
  unfold addS at hc
  split at hc
  · rename_i a b
    split at hc
    · rename_i l r hl hr2
      simp only [Option.bind_eq_some_iff, Option.some.injEq, Prod.mk.injEq] at hc
      obtain ⟨u, hu, rfl, rfl⟩ := hc
      obtain ⟨h3, h4, h5⟩ := mkL_ok (tab := tab) (ns := ns) (pl := pl) hb hu
      rw [lval_add] at h3 h4 h5
      have e1 := lin_den (tab := tab) (ns := ns) (pl := pl) (xs := xs) hl
      have e2 := lin_den (tab := tab) (ns := ns) (pl := pl) (xs := xs) hr2
      generalize lval l (1 :: xs) = x at *
      generalize lval r (1 :: xs) = y at *
      cases hr with | cons _ X _ _ r1 r2 =>
      cases r2
      cases r1 with | agg _ L q =>
      cases q with | cons _ A _ _ qa q =>
      cases q with | cons _ B _ _ qb q =>
      cases q
      have ra := den_rep qa
      rw [e1] at ra
      cases ra
      have rb := den_rep qb
      rw [e2] at rb
      cases rb
      simp only [kLo, kHi] at h4 h5
      have hw : wrap64 (x + y) = x + y := by unfold wrap64; omega
      have hv : Rep σ (.tup [u, .bool true]) (.tuple #[.int .i64 (wrap64 (x + y)), .bool (decide (x < wrap64 (x + y)) == decide (0 < y))]) := by
        have e : (decide (x < wrap64 (x + y)) == decide (0 < y)) = true := by
          rw [hw, beq_iff_eq, decide_eq_decide]
          omega
        rw [e, hw]
        exact .tup _ [_, _] (.cons _ _ _ _ (rep_den (by rw [h3]; exact .int _ _)) (.cons _ _ _ _ (.bool _) .nil))
      exact hook_of Tryz.func165 (by kernel_rfl) R hv (add_any w x y)
    · cases hc
  · cases hc
end
/-- the machine with arguments' cells and numbers' texts -/
def EsH (ar : List Ar) (fb : List Nat) (bs : Bs) (l : List (Nat × Hook)) : Env := Env.of Tryz.prog (hooksOf l) idles (soY globs ar fb bs)
theorem idleS [Sy] (ar : List Ar) (fb : List Nat) (bs : Bs) (l : List (Nat × Hook)) : IdleOK Tryz.prog (EsH ar fb bs l) := @idleOK _
theorem envS {xs : List Int} {bs : Bs} (hb : inB bs xs) {tab : List (Nat × Obj)} {ns : List (List Nat)} {pl : Nat → Nat × Nat} {ar : List Ar} {fb : List Nat} (hg : GlobOK Tryz.prog tab globs) (hf : FirstOK ns xs fb) (ha : ArOK Tryz.prog tab pl xs ar) (l : List (Nat × Hook)) : @EnvOK (syP ns pl xs tab) Tryz.prog (EsH ar fb bs l) := by
  letI := syP ns pl xs tab
  exact envOK_so _ _ _ _ (by kernel_rfl) (sopY hb hf rfl) (argY hb ha) (globY hg)
end
end VM
end Go.Proofs.YtehbfpcfbpbllaaGreatDoor
namespace Go.Proofs.YtehbfpcfbpbllaaGreatDoor
namespace VM
open Go
set_option linter.unusedSectionVars false
noncomputable section
def awakeMemo : Memo := ⟨[], .bool true, []⟩
variable [Sy]
theorem awakeMemo_run : look [] 1000000 (callOf E (exec E 3000) 6 awakeMemo.al ⟨.leaf, 0⟩) = some (awakeMemo.v.ren (rn [] 1000000), awakeMemo.bs.map (Blk.ren (rn [] 1000000))) := by kernel_rfl
set_option maxRecDepth 20000 in
theorem awakeMemo_ok : MemoOK Tryz.prog 6 awakeMemo :=
  @memoOK_of _ Tryz.prog E envOK (@idleOK _) (@hooksOK _) nameOK 6 3000 1000000 [] awakeMemo awakeMemo_run rfl rfl (by decide)
end
end VM
end Go.Proofs.YtehbfpcfbpbllaaGreatDoor
namespace Go.Proofs.YtehbfpcfbpbllaaGreatDoor
namespace VM
open Go Go.RowKit
set_option linter.unusedVariables false
set_option linter.unusedSectionVars false
set_option maxRecDepth 20000
noncomputable section
/-- the machine on given texts alone, some calls told -/
def EcH (l : List (Nat × Hook)) : Env := Env.of Tryz.prog (hooksOf l) idles (soG globs)
def hk0 : List (Nat × Hook) := [(220, idxH)]
section
variable [Sy]
theorem idleCH (l : List (Nat × Hook)) : IdleOK Tryz.prog (EcH l) := @idleOK _
theorem envCH (hg : GlobOK Tryz.prog Sy.tab globs) (l : List (Nat × Hook)) : EnvOK Tryz.prog (EcH l) := ⟨(envC hg).ty, (envC hg).fn, (envC hg).mixed, ⟨(envC hg).so.bin, (envC hg).so.conv, (envC hg).so.idx, (envC hg).so.len, (envC hg).so.cut, (envC hg).so.bytes, (envC hg).so.text, (envC hg).so.char, (envC hg).so.min⟩, (envC hg).arg, (envC hg).glob⟩
theorem hooksCH {l : List (Nat × Hook)} (h : ∀ p ∈ l, HookOK p.1 p.2) : HooksOK Tryz.prog (EcH l) := fun f g hg => hooksOf_ok h hg
theorem hk0_ok : ∀ p ∈ hk0, HookOK p.1 p.2 := fun p hp => by rw [List.mem_singleton.1 hp]; exact idxH_ok
theorem hk1_ok {f : Nat} {m : Memo} (h : MemoOK Tryz.prog f m) {l : List (Nat × Hook)} (hl : ∀ p ∈ l, HookOK p.1 p.2) : ∀ p ∈ (f, memoH [m]) :: l, HookOK p.1 p.2 := fun p hp => by
  rcases List.mem_cons.1 hp with rfl | hp
  · exact memos_ok fun m' hm => by rw [List.mem_singleton.1 hm]; exact h
  · exact hl p hp
end
/-- bounds: the numbers, their texts' first bytes, what 'how' has beside its rest -/
def csBk (k : Nat) : Bs := List.replicate k (-32768, 32767) ++ (List.replicate k (45, 57) ++ [(0, 85)])
def csFbk (k : Nat) : List Nat := (List.range k).map fun i => encL (unitL (k + i + 1))
def csHow (k : Nat) (h : Int) : List Int := h :: (List.replicate (k + k) 0 ++ [3])
def csAr (k : Nat) : List Ar := [⟨28, .i16, k, 0⟩]
def csHk (bs : Bs) (k : Nat) (mf mm mp : List Memo) : List (Nat × Hook) :=
  [(220, idxS bs), (21, digS bs), (7, digN bs k), (15, memoH mf), (30, mayN k mm), (11, plainN bs k mp), (165, addS bs), (6, memoH [awakeMemo])]
def firstB (n : Int) : Nat := ((strOf (numS n)).head?).getD 0
theorem firstB_ok {n : Int} (h : Small n) : ∃ r, strOf (numS n) = firstB n :: r ∧ 45 ≤ firstB n ∧ firstB n ≤ 57 := by
  obtain ⟨a, T⟩ := numText n h
  have hs : (strOf (numS n)).length = (numS n).size := by unfold strOf; rw [List.length_map, Array.length_toList]; rfl
  have h0 := T.pos
  unfold firstB
  cases hc : strOf (numS n) with
  | nil => rw [hc] at hs; simp at hs; omega
  | cons c r =>
    refine ⟨r, rfl, ?_⟩
    have hz : 0 < (numS n).size := by omega
    have e : c = ((numS n)[0]'hz).toNat := by
      have h1 : (strOf (numS n))[0]? = some c := by rw [hc]; rfl
      unfold strOf at h1
      rw [List.getElem?_map] at h1
      have h2 : (numS n).data.toList[0]? = some ((numS n)[0]'hz) := by
        rw [Array.getElem?_toList]
        exact Array.getElem?_eq_getElem hz
      rw [h2] at h1
      simpa using h1.symm
    simp only [List.head?_cons, Option.getD_some]
    rcases T.head with ⟨_, h1⟩ | ⟨h1, _⟩
    · rw [e, h1]; decide
    · subst h1
      have := T.dig 0 hz (Nat.le_refl _)
      omega
theorem inB_app : ∀ {a b : Bs} {x y : List Int}, inB a x → inB b y → inB (a ++ b) (x ++ y)
  | [], b, [], y, _, h => h
  | p :: a, b, u :: x, y, ⟨h1, h2, h3⟩, h => ⟨h1, h2, inB_app h3 h⟩
  | [], b, _ :: _, y, h, _ => h.elim
  | _ :: _, b, [], y, h, _ => h.elim
theorem inB_rep {lo hi : Int} : ∀ {l : List Int}, (∀ x ∈ l, lo ≤ x ∧ x ≤ hi) → inB (List.replicate l.length (lo, hi)) l
  | [], _ => trivial
  | x :: l, h => ⟨(h x (by simp)).1, (h x (by simp)).2, inB_rep fun y hy => h y (by simp [hy])⟩
theorem unit_ok : ∀ i, okL (unitL i) = true
  | 0 => by decide
  | i + 1 => by
    have := unit_ok i
    simp only [unitL, okL, this, Bool.and_true]
    decide
theorem unit_len : ∀ i, (unitL i).length = i + 1
  | 0 => rfl
  | i + 1 => by simp [unitL, unit_len i]
theorem zeros_ok : ∀ m, okL (List.replicate m 0 ++ [3]) = true
  | 0 => by decide
  | m + 1 => by
    have := zeros_ok m
    simp only [List.replicate_succ, List.cons_append, okL, this, Bool.and_true]
    decide
theorem zeros_val : ∀ (m : Nat) (xs : List Int), lval (List.replicate m 0 ++ [3]) xs = 3 * (xs[m]?).getD 0
  | 0, [] => by simp [lval]
  | 0, x :: xs => by simp [lval]
  | m + 1, [] => by simp [lval, List.replicate_succ]
  | m + 1, x :: xs => by simp [List.replicate_succ, lval, zeros_val m xs]
theorem calcSums_of {k : Nat} (hk : 0 < k) (hk2 : k ≤ 22) {h : Nat} (hh : h < 3) {bs : Bs} {fb : List Nat} {e : Nat} (hbs : bs = csBk k) (hfb : fb = csFbk k) (he : e = encL (csHow k h)) {mf mm mp : List Memo}
    (run : ∀ c, isV (callOf (EsH (csAr k) fb bs (csHk bs k mf mm mp)) (exec (EsH (csAr k) fb bs (csHk bs k mf mm mp)) 3000) 3 [.asl 0 k c, .symI .u8 e] ⟨.leaf, 0⟩) = some (.bool true))
    (hmf : ∀ [Sy] (_ : GlobOK Tryz.prog Sy.tab globs), ∀ m ∈ mf, MemoOK Tryz.prog 15 m) (hmm : ∀ [Sy] (_ : GlobOK Tryz.prog Sy.tab globs), ∀ m ∈ mm, MemoOK Tryz.prog 30 m) (hmp : ∀ [Sy] (_ : GlobOK Tryz.prog Sy.tab globs), ∀ m ∈ mp, MemoOK Tryz.prog 11 m)
    {tab : List (Nat × Obj)} (ht : ∀ w : World, (∀ p ∈ tab, w.heap[p.1]? = some p.2) → Tab w) (hg : GlobOK Tryz.prog tab globs) (W : World) (hW : ∀ p ∈ tab, p.1 < W.heap.size ∧ W.heap[p.1]? = some p.2)
    (A : Option Addr) (l : List Int) (c : Nat) (n : Int) (hl : At1 (Value.int .i16) W A l) (hlen : l.length = k) (hr : ∀ x ∈ l, -32768 ≤ x ∧ x ≤ 32767) (hn0 : 0 ≤ n) (hn1 : n ≤ 255) (hn : n % 3 = h) :
    Calls Tryz.prog 3 #[.slice A l.length c, .int .u8 n] W fun e W' => e = .returned (.bool true) ∧ Below W.heap.size W W' := by
  obtain ⟨ad, rfl, hc⟩ := hl.2 (by omega)
  have hsm : ∀ x ∈ l, Small x := fun x hx => by have := hr x hx; exact ⟨by omega, by omega⟩
  -- where the argument lies
  have h0 := hc 0 _ (List.getElem?_eq_getElem (by omega : 0 < l.length))
  have hsp : ad.spot = none ∧ ∃ obj, W.heap[ad.block]? = some obj := by
    unfold World.cell? at h0
    rw [block_of_add] at h0
    split at h0
    · rename_i arr e fz hh
      split at h0
      · cases h0
      · rename_i hs
        refine ⟨?_, _, hh⟩
        unfold Addr.add at hs
        split at hs <;> simp_all
    · cases h0
  obtain ⟨hs, obj, hobj⟩ := hsp
  obtain ⟨b, o, s⟩ := ad
  simp only at hs hobj
  subst hs
  obtain ⟨q, hq⟩ : ∃ q, q = n / 3 := ⟨_, rfl⟩
  let xs : List Int := l ++ (l.map (fun x => (firstB x : Int)) ++ [q])
  let ns : List (List Nat) := l.map fun x => strOf (numS x)
  let pl : Nat → Nat × Nat := fun _ => (b, o)
  let tb : List (Nat × Obj) := (b, obj) :: tab
  have hsub : ∀ w : World, (∀ p ∈ tb, w.heap[p.1]? = some p.2) → ∀ p ∈ tab, w.heap[p.1]? = some p.2 := fun w hw p hp => hw p (List.mem_cons_of_mem _ hp)
  have hT : ∀ w : World, (∀ p ∈ tb, w.heap[p.1]? = some p.2) → Tab w := fun w hw => ht w (hsub w hw)
  have hG : GlobOK Tryz.prog tb globs := fun p hp w hw => hg p hp w (hsub w hw)
  have hW2 : ∀ p ∈ tb, p.1 < W.heap.size ∧ W.heap[p.1]? = some p.2 := fun p hp => by
    rcases List.mem_cons.1 hp with rfl | hp
    · exact ⟨(Array.getElem?_eq_some_iff.1 hobj).1, hobj⟩
    · exact hW p hp
  have hb : inB bs xs := by
    subst hbs
    unfold csBk
    refine inB_app ?_ (inB_app ?_ ⟨by omega, by omega, trivial⟩)
    · rw [← hlen]; exact inB_rep hr
    · have := inB_rep (lo := 45) (hi := 57) (l := l.map (fun x => (firstB x : Int))) (fun y hy => by
        obtain ⟨x, hx, rfl⟩ := List.mem_map.1 hy
        obtain ⟨_, _, h1, h2⟩ := firstB_ok (hsm x hx)
        omega)
      rwa [List.length_map, hlen] at this
  have hN : NumsOK ns xs k := fun i hi => ⟨l[i]'(by omega), by simp [xs, List.getElem?_append, hlen, hi], hsm _ (List.getElem_mem _), by simp [ns, hlen, hi]⟩
  have hF : FirstOK ns xs fb := fun i e he => by
    subst hfb
    unfold csFbk at he
    rw [List.getElem?_map] at he
    cases hi : (List.range k)[i]? with
    | none => rw [hi] at he; cases he
    | some j =>
      rw [hi] at he
      cases he
      have hik : i < k := by have := (List.getElem?_eq_some_iff.1 hi).1; simpa using this
      have : j = i := by rw [List.getElem?_range hik] at hi; exact (Option.some.inj hi).symm
      subst this
      obtain ⟨r, h1, h2, h3⟩ := firstB_ok (hsm (l[j]'(by omega)) (List.getElem_mem _))
      refine ⟨firstB (l[j]'(by omega)), r, ?_, ?_⟩
      · rw [← h1]; simp [ns, hlen, hik]
      · unfold nval
        rw [dec_enc _ 60 (by rw [unit_len]; omega) (unit_ok _), unit_val, List.getElem?_cons_succ]
        have : xs[k + j]? = some (firstB (l[j]'(by omega)) : Int) := by
          simp only [xs]
          rw [List.getElem?_append_right (by omega), List.getElem?_append_left (by simp; omega), List.getElem?_map]
          have : k + j - l.length = j := by omega
          rw [this, List.getElem?_eq_getElem (by omega)]
          rfl
        rw [this]
        rfl
  have hA : ArOK Tryz.prog tb pl xs (csAr k) := fun j a ha off hoff w hw => by
    unfold csAr at ha
    cases j with
    | succ j => simp at ha
    | zero =>
      simp only [List.getElem?_cons_zero, Option.some.injEq] at ha
      subst ha
      simp only at hoff ⊢
      have h1 := hw (b, obj) (List.mem_cons_self ..)
      have h2 := hc off _ (List.getElem?_eq_getElem (by omega : off < l.length))
      letI := syNo
      rw [addr_add] at h2
      have e3 : (isAgg 28).run Tryz.prog w = .ok false w := by
        rw [run_isAgg Tryz.underlying28]
        rfl
      have e4 : w.cell? ⟨b, o + off, none⟩ = some (.int .i16 (l[off]'(by omega))) := by
        rw [← h2]
        unfold World.cell?
        simp only [h1, hobj]
      have e5 : xs[0 + off]? = some (l[off]'(by omega)) := by
        simp only [xs, Nat.zero_add]
        rw [List.getElem?_append_left (by omega)]
        exact List.getElem?_eq_getElem _
      simp only [loadVar, Sem.run_bind, e3, Result.andThen_ok, Bool.false_eq_true, if_false, pl, e5, Option.getD_some]
      simp [e4]
  letI : Sy := syP ns pl xs tb
  have hH : HooksOK Tryz.prog (EsH (csAr k) fb bs (csHk bs k mf mm mp)) := by
    intro f g hf
    refine hooksOf_ok (l := csHk bs k mf mm mp) (fun p hp => ?_) hf
    simp only [csHk, List.mem_cons, List.not_mem_nil, or_false] at hp
    rcases hp with rfl | rfl | rfl | rfl | rfl | rfl | rfl | rfl
    · exact idxS_ok hb
    · exact itoaS_ok hb hT
    · exact digN_ok hb hN
    · exact memos_ok (hmf hG)
    · exact mayN_ok hN hT (hmm hG)
    · exact plainN_ok hb hN hT (hmp hG)
    · exact addS_ok hb
    · exact memos_ok fun m hm => by
        rw [List.mem_singleton.1 hm]
        exact awakeMemo_ok
  obtain ⟨h', hrun⟩ := isV_some (run c)
  have R : Rel W.heap.size (fun _ => none) ⟨.leaf, 0⟩ W := Rel.none W hW2
  have ra : RepL (fun _ => none) [.asl 0 k c, .symI .u8 e] [.slice (some ⟨b, o, none⟩) l.length c, .int .u8 n] := by
    have r1 := Rep.asl (σ := fun _ => none) 0 k c
    have r2 := Rep.symI (σ := fun _ => none) .u8 e
    have e2 : Sy.i e = n := by
      show nval xs e = n
      rw [he]
      unfold nval
      rw [dec_enc _ 60 (by simp [csHow]; omega) (by
        simp only [csHow, okL, zeros_ok, Bool.and_true, ilt_eq, Bool.and_eq_true, decide_eq_true_iff]
        omega)]
      simp only [csHow, lval, zeros_val]
      have : xs[k + k]? = some q := by
        simp only [xs]
        rw [List.getElem?_append_right (by omega), List.getElem?_append_right (by simp; omega)]
        simp [hlen]
      rw [this]
      simp only [Option.getD_some]
      omega
    rw [e2] at r2
    rw [hlen]
    exact .cons _ _ _ _ r1 (.cons _ _ _ _ r2 .nil)
  have C := @runs _ Tryz.prog (EsH (csAr k) fb bs (csHk bs k mf mm mp)) (envS hb hG hF hA _) (idleS _ _ _ _) hH nameOK 3 _ Tryz.func3 (by kernel_rfl) _ _ _ _ _ hrun _ _ _ _ R ra
  refine C.mono ?_
  rintro e w2 ⟨x, rfl, σ, _, _, h2, _, h4⟩
  cases h2
  exact ⟨rfl, h4⟩
end
end VM
end Go.Proofs.YtehbfpcfbpbllaaGreatDoor
