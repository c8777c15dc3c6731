/- The machine of plain data: what its values and its memory stand for. No program in sight. -/
import Derived.Test.YtehbfpcfbpbllaaGreatDoorVm
import Derived.Below
namespace Go.Proofs.YtehbfpcfbpbllaaGreatDoor.VM
open Go Go.RowKit

theorem T.get_leaf {α : Type} (i : Nat) : (T.leaf : T α).get i = none := rfl
theorem T.get_zero {α : Type} (v : Option α) (l r : T α) : (T.node v l r).get 0 = v := rfl
theorem beq0 {i : Nat} : Nat.beq (i % 2) 0 = decide (i % 2 = 0) := by
  rcases Nat.mod_two_eq_zero_or_one i with h | h <;> rw [h] <;> rfl
theorem T.bit (j : Nat) : Nat.beq (Nat.mod j 2) 1 = !decide (j % 2 = 0) := by
  show Nat.beq (j % 2) 1 = _
  rcases Nat.mod_two_eq_zero_or_one j with h | h <;> rw [h] <;> rfl
theorem T.get_odd {α : Type} (v : Option α) (l r : T α) (i : Nat) : (T.node v l r).get (i + 1) = if i % 2 = 0 then l.get (i / 2) else r.get (i / 2) := by
  have e : (T.node v l r).get (i + 1) = Bool.rec (motive := fun _ => Option α) (l.get (i / 2)) (r.get (i / 2)) (Nat.beq (Nat.mod i 2) 1) := rfl
  rw [e, T.bit]
  by_cases h : i % 2 = 0 <;> simp [h]
theorem T.setF_leaf_zero {α : Type} (x : Option α) (f : Nat) : T.setF x (f + 1) .leaf 0 = .node x .leaf .leaf := rfl
theorem T.setF_node_zero {α : Type} (x : Option α) (f : Nat) (v : Option α) (l r : T α) : T.setF x (f + 1) (.node v l r) 0 = .node x l r := rfl
theorem T.setF_leaf_succ {α : Type} (x : Option α) (f i : Nat) : T.setF x (f + 1) .leaf (i + 1) = if i % 2 = 0 then .node none (T.setF x f .leaf (i / 2)) .leaf else .node none .leaf (T.setF x f .leaf (i / 2)) := by
  have e : T.setF x (f + 1) .leaf (i + 1) = Bool.rec (motive := fun _ => T α) (.node none (T.setF x f .leaf (i / 2)) .leaf) (.node none .leaf (T.setF x f .leaf (i / 2))) (Nat.beq (Nat.mod i 2) 1) := rfl
  rw [e, T.bit]
  by_cases h : i % 2 = 0 <;> simp [h]
theorem T.setF_node_succ {α : Type} (x : Option α) (f i : Nat) (v : Option α) (l r : T α) : T.setF x (f + 1) (.node v l r) (i + 1) = if i % 2 = 0 then .node v (T.setF x f l (i / 2)) r else .node v l (T.setF x f r (i / 2)) := by
  have e : T.setF x (f + 1) (.node v l r) (i + 1) = Bool.rec (motive := fun _ => T α) (.node v (T.setF x f l (i / 2)) r) (.node v l (T.setF x f r (i / 2))) (Nat.beq (Nat.mod i 2) 1) := rfl
  rw [e, T.bit]
  by_cases h : i % 2 = 0 <;> simp [h]
theorem T.get_setF {α : Type} (x : Option α) : ∀ (f : Nat) (t : T α) (i j : Nat), i < f → (T.setF x f t i).get j = if j = i then x else t.get j
  | 0, _, _, _, h => by omega
  | f + 1, t, 0, j, _ => by
    cases t with
    | leaf => cases j with
      | zero => simp [T.setF_leaf_zero, T.get_zero]
      | succ j => simp [T.setF_leaf_zero, T.get_odd, T.get_leaf]
    | node v l r => cases j with
      | zero => simp [T.setF_node_zero, T.get_zero]
      | succ j => simp [T.setF_node_zero, T.get_odd]
  | f + 1, t, i + 1, j, h => by
    have h2 : i / 2 < f := by omega
    cases t with
    | leaf =>
      rw [T.setF_leaf_succ]
      by_cases hi : i % 2 = 0
      · rw [if_pos hi]
        cases j with
        | zero => simp [T.get_zero, T.get_leaf]
        | succ j =>
          rw [T.get_odd, T.get_setF x f .leaf (i / 2) (j / 2) h2]
          simp only [T.get_leaf]
          (repeat' split) <;> first | rfl | omega
      · rw [if_neg hi]
        cases j with
        | zero => simp [T.get_zero, T.get_leaf]
        | succ j =>
          rw [T.get_odd, T.get_setF x f .leaf (i / 2) (j / 2) h2]
          simp only [T.get_leaf]
          (repeat' split) <;> first | rfl | omega
    | node v l r =>
      rw [T.setF_node_succ]
      by_cases hi : i % 2 = 0
      · rw [if_pos hi]
        cases j with
        | zero => simp [T.get_zero]
        | succ j =>
          rw [T.get_odd, T.get_odd, T.get_setF x f l (i / 2) (j / 2) h2]
          (repeat' split) <;> first | rfl | omega
      · rw [if_neg hi]
        cases j with
        | zero => simp [T.get_zero]
        | succ j =>
          rw [T.get_odd, T.get_odd, T.get_setF x f r (i / 2) (j / 2) h2]
          (repeat' split) <;> first | rfl | omega
theorem T.get_put {α : Type} (t : T α) (i j : Nat) (x : α) : (t.put i x).get j = if j = i then some x else t.get j :=
  T.get_setF _ _ _ _ _ (by omega)
theorem T.get_ofL {α : Type} : ∀ (l : List (Option α)) (i : Nat) (t : T α) (j : Nat), (T.ofL l i t).get j = if i ≤ j ∧ j < i + l.length then (l[j - i]?).join else t.get j
  | [], i, t, j => by simp [T.ofL]; omega
  | x :: r, i, t, j => by
    rw [T.ofL, T.get_ofL r (i + 1) _ j, T.get_setF _ _ _ _ _ (by omega)]
    by_cases h : i + 1 ≤ j ∧ j < i + 1 + r.length
    · have h2 : i ≤ j ∧ j < i + (x :: r).length := by simp; omega
      rw [if_pos h, if_pos h2]
      have : j - i = (j - (i + 1)) + 1 := by omega
      rw [this, List.getElem?_cons_succ]
    · rw [if_neg h]
      by_cases h3 : j = i
      · subst h3
        simp
      · have h2 : ¬ (i ≤ j ∧ j < i + (x :: r).length) := by simp; omega
        rw [if_neg h2, if_neg h3]

/-- what stands for whole numbers, for texts -/
class Sy where
  i : Nat → Int
  s : Nat → List Nat
  /-- blocks that stand from the start -/
  tab : List (Nat × Obj)
set_option linter.unusedSectionVars false
variable [Sy]
/-- whom a block stands for: the address's block, and how many cells it has -/
abbrev Mp := Nat → Option (Nat × Nat)
def Mp.le (σ τ : Mp) : Prop := ∀ B p, σ B = some p → τ B = some p
theorem Mp.le.refl (σ : Mp) : Mp.le σ σ := fun _ _ h => h
theorem Mp.le.trans {a b c : Mp} (h : Mp.le a b) (k : Mp.le b c) : Mp.le a c := fun B p e => k B p (h B p e)
def bytesOf (s : List Nat) : ByteArray := ⟨(s.map Nat.toUInt8).toArray⟩

mutual
inductive Rep (σ : Mp) : V → Value → Prop
  | bool (b : Bool) : Rep σ (.bool b) (.bool b)
  | int (k : IntKind) (n : Int) : Rep σ (.int k n) (.int k n)
  | str (s : List Nat) : (∀ b ∈ s, b < 256) → Rep σ (.str s) (.string (bytesOf s))
  | nilp : Rep σ .nilp (.pointer none)
  | ptr (B off b n : Nat) : σ B = some (b, n) → Rep σ (.ptr B off) (.pointer (some ⟨b, off, none⟩))
  | nils : Rep σ .nils (.slice none 0 0)
  | sl (B off len cap b n : Nat) : σ B = some (b, n) → Rep σ (.sl B off len cap) (.slice (some ⟨b, off, none⟩) len cap)
  | slo (B off len lo sz b n c : Nat) : σ B = some (b, n) → lo ≤ c → len ≤ lo → off + c * sz ≤ n → Rep σ (.slo B off len lo sz) (.slice (some ⟨b, off, none⟩) len c)
  | emp (a : Option Addr) (c : Nat) : Rep σ .emp (.slice a 0 c)
  | nilm : Rep σ .nilm (.map none)
  | mp (B b n : Nat) : σ B = some (b, n) → Rep σ (.mp B) (.map (some b))
  | fn (f : Fn) (a c : List V) (x y : List Value) : RepL σ a x → RepL σ c y → Rep σ (.fn f a c) (.func f x.toArray y.toArray)
  | nilf : Rep σ .nilf .nilFunc
  | iface (t : TypeId) (v : V) (x : Value) : Rep σ v x → Rep σ (.iface t v) (.iface t x)
  | nili : Rep σ .nili .nilIface
  | agg (l : List V) (x : List Value) : RepL σ l x → Rep σ (.agg l) (.agg x.toArray)
  | tup (l : List V) (x : List Value) : RepL σ l x → Rep σ (.tup l) (.tuple x.toArray)
  | any (x : Value) : x.oneCell' = true → Rep σ .any x
  | symI (k : IntKind) (j : Nat) : Rep σ (.symI k j) (.int k (Sy.i j))
  | symS (j : Nat) : (∀ b ∈ Sy.s j, b < 256) → Rep σ (.symS j) (.string (bytesOf (Sy.s j)))
  | gptr (g off : Nat) : Rep σ (.gptr g off) (.pointer (some ⟨g, off, none⟩))
inductive RepL (σ : Mp) : List V → List Value → Prop
  | nil : RepL σ [] []
  | cons (v : V) (x : Value) (l : List V) (y : List Value) : Rep σ v x → RepL σ l y → RepL σ (v :: l) (x :: y)
end
theorem Rep.mono {σ τ : Mp} (h : Mp.le σ τ) {v : V} {x : Value} (r : Rep σ v x) : Rep τ v x :=
  Rep.rec (motive_1 := fun v x _ => Rep τ v x) (motive_2 := fun l y _ => RepL τ l y)
    .bool .int .str .nilp (fun B off b n e => .ptr B off b n (h _ _ e)) .nils (fun B off len cap b n e => .sl B off len cap b n (h _ _ e))
    (fun B off len lo sz b n c e h1 h2 h3 => .slo B off len lo sz b n c (h _ _ e) h1 h2 h3) (fun a c => .emp a c) .nilm (fun B b n e => .mp B b n (h _ _ e))
    (fun f a c x y _ _ h1 h2 => .fn f a c x y h1 h2) .nilf (fun t v x _ h1 => .iface t v x h1) .nili (fun l x _ h1 => .agg l x h1) (fun l x _ h1 => .tup l x h1) (fun x h1 => .any x h1) .symI .symS .gptr
    .nil (fun v x l y _ _ h1 h2 => .cons v x l y h1 h2) r
theorem RepL.mono {σ τ : Mp} (h : Mp.le σ τ) : ∀ {l : List V} {y : List Value}, RepL σ l y → RepL τ l y
  | _, _, .nil => .nil
  | _, _, .cons v x l y r s => .cons v x l y (r.mono h) (RepL.mono h s)
theorem RepL.length {σ : Mp} : ∀ {l : List V} {y : List Value}, RepL σ l y → l.length = y.length
  | _, _, .nil => rfl
  | _, _, .cons _ _ _ _ _ s => by simp [RepL.length s]
theorem RepL.get {σ : Mp} : ∀ {l : List V} {y : List Value} {i : Nat} {v : V}, RepL σ l y → l[i]? = some v → ∃ x, y[i]? = some x ∧ Rep σ v x
  | _, _, i, _, .nil, h => by simp at h
  | _, _, 0, _, .cons v x l y r s, h => by simp at h; subst h; exact ⟨x, by simp, r⟩
  | _, _, i + 1, _, .cons v x l y r s, h => by
    simp only [List.getElem?_cons_succ] at h ⊢
    exact RepL.get s h
theorem RepL.append {σ : Mp} : ∀ {l m : List V} {y z : List Value}, RepL σ l y → RepL σ m z → RepL σ (l ++ m) (y ++ z)
  | _, _, _, _, .nil, h => h
  | _, _, _, _, .cons v x l y r s, h => .cons v x _ _ r (RepL.append s h)
theorem RepL.drop {σ : Mp} : ∀ {l : List V} {y : List Value} (n : Nat), RepL σ l y → RepL σ (l.drop n) (y.drop n)
  | _, _, 0, h => by simpa using h
  | _, _, n + 1, .nil => by simpa using .nil
  | _, _, n + 1, .cons v x l y r s => by simpa using RepL.drop n s
theorem RepL.take {σ : Mp} : ∀ {l : List V} {y : List Value} (n : Nat), RepL σ l y → RepL σ (l.take n) (y.take n)
  | _, _, 0, h => by simpa using .nil
  | _, _, n + 1, .nil => by simpa using .nil
  | _, _, n + 1, .cons v x l y r s => by simpa using .cons _ _ _ _ r (RepL.take n s)
theorem RepL.split {σ : Mp} : ∀ {l m : List V} {y : List Value}, RepL σ (l ++ m) y → ∃ a b, y = a ++ b ∧ RepL σ l a ∧ RepL σ m b
  | [], m, y, h => ⟨[], y, rfl, .nil, h⟩
  | v :: l, m, _, .cons _ x _ y r s => by
    obtain ⟨a, b, rfl, h1, h2⟩ := RepL.split s
    exact ⟨x :: a, b, rfl, .cons _ _ _ _ r h1, h2⟩
theorem RepL.one {σ : Mp} {v : V} {x : Value} (h : Rep σ v x) : RepL σ [v] [x] := .cons _ _ _ _ h .nil

/-- entries of a map -/
inductive RepE (σ : Mp) : List (V × V × Nat) → List MapEntry → Prop
  | nil : RepE σ [] []
  | cons (k v : V) (n : Nat) (kx vx : Value) (l : List (V × V × Nat)) (m : List MapEntry) : Rep σ k kx → Rep σ v vx → RepE σ l m → RepE σ ((k, v, n) :: l) (⟨kx, vx, n⟩ :: m)
theorem RepE.mono {σ τ : Mp} (h : Mp.le σ τ) : ∀ {l : List (V × V × Nat)} {y : List MapEntry}, RepE σ l y → RepE τ l y
  | _, _, .nil => .nil
  | _, _, .cons k v n kx vx l y r1 r2 s => .cons k v n kx vx l y (r1.mono h) (r2.mono h) (RepE.mono h s)

/-- a block of cells: the cells told, and others behind them; none is frozen, if it may be written -/
structure CellsAre (σ : Mp) (n : Nat) (vs : List V) (e : Nat) (ro : Bool) (o : Obj) : Prop where
  out : ∃ xs ys fz, o = .cells (xs ++ ys).toArray e fz ∧ RepL σ vs xs ∧ (xs ++ ys).length = n ∧ (ro = false → ∀ i, i < n → ¬ (fz.1 ≤ i ∧ i < fz.2))
def RepB (σ : Mp) (n : Nat) : Blk → Obj → Prop
  | .cells vs e ro, o => CellsAre σ n vs e ro o
  | .map es c, o => ∃ ms, o = .map ms.toArray c ∧ RepE σ es ms
  | .siter s p, o => o = .stringIter (bytesOf s) p ∧ ∀ b ∈ s, b < 256
  | .dead, _ => True
theorem RepB.mono {σ τ : Mp} (h : Mp.le σ τ) {n : Nat} {b : Blk} {o : Obj} (r : RepB σ n b o) : RepB τ n b o := by
  cases b with
  | cells vs e ro => obtain ⟨xs, ys, fz, h1, h2, h3⟩ := r.out; exact ⟨xs, ys, fz, h1, h2.mono h, h3⟩
  | map es c => obtain ⟨ms, h1, h2⟩ := r; exact ⟨ms, h1, h2.mono h⟩
  | siter s p => exact r
  | dead => trivial

/-- the machine's memory beside a world: what is told of is there; two that are alive are two; what is below N is not written -/
structure Rel (N : Nat) (σ : Mp) (h : Hp) (w : World) : Prop where
  has : ∀ B b n, σ B = some (b, n) → B < h.n ∧ b < w.heap.size ∧ ∃ k, h.t.get B = some k ∧ ∀ o, w.heap[b]? = some o → RepB σ n k o
  inj : ∀ B C b n m, σ B = some (b, n) → σ C = some (b, m) → B = C ∨ h.t.get B = some .dead ∨ h.t.get C = some .dead
  old : ∀ B b n, σ B = some (b, n) → b < N → (∃ vs e, h.t.get B = some (.cells vs e true)) ∨ h.t.get B = some .dead
  base : N ≤ w.heap.size
  tab : ∀ p ∈ Sy.tab, p.1 < N ∧ w.heap[p.1]? = some p.2
theorem Rel.cells {N : Nat} {σ : Mp} {h : Hp} {w : World} (R : Rel N σ h w) {B b n : Nat} (e : σ B = some (b, n)) {vs : List V} (hv : rdCells h B = some vs) :
    ∃ el xs ys fz, w.heap[b]? = some (.cells (xs ++ ys).toArray el fz) ∧ RepL σ vs xs ∧ (xs ++ ys).length = n ∧ (∀ e, h.t.get B = some (.cells vs e false) → ∀ i, i < n → ¬ (fz.1 ≤ i ∧ i < fz.2)) := by
  obtain ⟨_, hb, k, hk, ho⟩ := R.has B b n e
  unfold rdCells at hv
  rw [hk] at hv
  cases k with
  | cells us el ro =>
    simp only [Option.some.injEq] at hv
    subst hv
    obtain ⟨xs, ys, fz, h1, h2, h3⟩ := (ho _ (Array.getElem?_eq_getElem hb)).out
    exact ⟨el, xs, ys, fz, by rw [Array.getElem?_eq_getElem hb, h1], h2, h3.1, fun e he => h3.2 (by rw [hk] at he; cases he; rfl)⟩
  | map es c => cases hv
  | siter s p => cases hv
  | dead => cases hv
/-- slots beside the frame's -/
structure RepT (σ : Mp) (t : Tm) (n : Nat) (a : Array Value) : Prop where
  size : a.size = n
  at_ : ∀ i, Rep σ ((t.get i).getD undefV) (a.getD i undef)
theorem Rep.undef (σ : Mp) : Rep σ undefV undef := .tup [] [] .nil
end Go.Proofs.YtehbfpcfbpbllaaGreatDoor.VM
