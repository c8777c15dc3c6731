/- A call's arguments as the machine reads them: the blocks in which they lie are told cell by cell, whole numbers and texts as they are, all else unknown; they are only read. No program in sight. · law17.PatchUndo at worlds: it answers true. · A law's arguments opened: what came in reads as lists. No program in sight. -/
import Derived.ProofKit
import Derived.Test.YtpimnaojhaeiiaaGreatDoorMg7
namespace Go.Proofs.YtpimnaojhaeiiaaGreatDoor.VM
open Go Go.RowKit
set_option linter.unusedVariables false
noncomputable section
/-- what a cell is told as -/
structure Told (v : V) (x : Value) : Prop where
  rep : ∀ σ, Rep σ v x
  int : ∀ k n, x = .int k n → v = .int k n
  str : ∀ s, x = .string s → v = .str (strOf s)
theorem exL {l : List Value} (hl : ∀ y ∈ l, ∃ v : V, Told v y) : ∃ vs : List V, (∀ σ, RepL σ vs l) ∧ ∀ (i : Nat) (x : Value), l[i]? = some x → ∃ v, vs[i]? = some v ∧ Told v x := by
  induction l with
  | nil => exact ⟨[], fun _ => .nil, fun i x h => by simp at h⟩
  | cons y l ih =>
    obtain ⟨v, hv⟩ := hl y (by simp)
    obtain ⟨vs, hvs, h2⟩ := ih fun z hz => hl z (by simp [hz])
    refine ⟨v :: vs, fun σ => .cons _ _ _ _ (hv.rep σ) (hvs σ), fun i x h => ?_⟩
    cases i with
    | zero => simp at h; subst h; exact ⟨v, rfl, hv⟩
    | succ i => simpa using h2 i x (by simpa using h)
theorem exV (y : Value) : ∃ v : V, Told v y := by
  obtain ⟨x, hx⟩ : ∃ x, x = y := ⟨_, rfl⟩
  rw [← hx]
  by_cases h : x.oneCell' = true
  · by_cases hi : ∃ k n, x = .int k n
    · obtain ⟨k, n, rfl⟩ := hi
      exact ⟨.int k n, fun _ => .int k n, fun _ _ e => (by cases e; rfl), fun _ e => (by cases e)⟩
    · by_cases hs : ∃ s, x = .string s
      · obtain ⟨s, rfl⟩ := hs
        refine ⟨.str (strOf s), fun σ => ?_, fun _ _ e => (by cases e), fun _ e => (by cases e; rfl)⟩
        have := Rep.str (σ := σ) (strOf s) (strOf_lt s)
        rwa [bytesOf_strOf] at this
      · exact ⟨.any, fun _ => .any x h, fun k n e => absurd ⟨k, n, e⟩ hi, fun s e => absurd ⟨s, e⟩ hs⟩
  · match x, hx, h with
    | .agg cs, hx, _ =>
      have hm : ∀ z ∈ cs.toList, ∃ v : V, Told v z := fun z hz => by
        have hz' : z ∈ cs := by simpa using hz
        have h1 := Array.sizeOf_lt_of_mem hz'
        have h2 : SizeOf.sizeOf z < SizeOf.sizeOf y := by rw [← hx]; simp; omega
        exact exV z
      obtain ⟨vs, hvs, _⟩ := exL hm
      exact ⟨.agg vs, fun σ => .agg vs cs.toList (hvs σ), fun _ _ e => (by cases e), fun _ e => (by cases e)⟩
    | .tuple cs, hx, _ =>
      have hm : ∀ z ∈ cs.toList, ∃ v : V, Told v z := fun z hz => by
        have hz' : z ∈ cs := by simpa using hz
        have h1 := Array.sizeOf_lt_of_mem hz'
        have h2 : SizeOf.sizeOf z < SizeOf.sizeOf y := by rw [← hx]; simp; omega
        exact exV z
      obtain ⟨vs, hvs, _⟩ := exL hm
      exact ⟨.tup vs, fun σ => .tup vs cs.toList (hvs σ), fun _ _ e => (by cases e), fun _ e => (by cases e)⟩
termination_by SizeOf.sizeOf y
/-- a slice that reads as a list of cells -/
def RdO (h : Hp) (v : V) (len : Nat) (cs : List V) : Prop := (v = .emp ∧ len = 0) ∨ ∃ b off vs, rdCells h b = some vs ∧ sub vs off len = some cs ∧ ∃ cap, v = .sl b off len cap
def V.block? : V → Option Nat
  | .sl b _ _ _ => some b
  | _ => none
theorem Hp.n_new' (h : Hp) (b : Blk) : (h.new b).n = h.n + 1 := rfl
/-- memory that tells some blocks -/
structure Opened (w : World) (bs : List Nat) (h : Hp) (σ : Mp) : Prop where
  rel : Rel w.heap.size σ h w
  n : h.n = bs.length
  at_ : ∀ (i b : Nat) (arr : Array Value) (e : TypeId) (fz : Nat × Nat), bs[i]? = some b → w.heap[b]? = some (.cells arr e fz) → σ i = some (b, arr.size) ∧ ∃ vs : List V, rdCells h i = some vs ∧ ∀ (j : Nat) (x : Value), arr[j]? = some x → ∃ v, vs[j]? = some v ∧ Told v x
  only : ∀ i b m, σ i = some (b, m) → bs[i]? = some b
theorem opened_nil (w : World) : Opened w [] ⟨.leaf, 0⟩ (fun _ => none) := ⟨Rel.none w, rfl, fun i b _ _ _ h => (by simp at h), fun _ _ _ h => (by cases h)⟩
theorem opened_snoc {w : World} {bs : List Nat} {h : Hp} {σ : Mp} (O : Opened w bs h σ) {b : Nat} (hb : b ∉ bs) {arr : Array Value} {e : TypeId} {fz : Nat × Nat} (hw : w.heap[b]? = some (.cells arr e fz)) : ∃ h' σ', Opened w (bs ++ [b]) h' σ' := by
  obtain ⟨vs, hvs, hv2⟩ := exL (l := arr.toList) fun y _ => exV y
  have hbl := (Array.getElem?_eq_some_iff.1 hw).1
  have hfree : ∀ C m, σ C ≠ some (b, m) := fun C m hC => hb (List.mem_of_getElem? (O.only C b m hC))
  have hn := O.n
  have hnone : σ h.n = Option.none := O.rel.free
  have R := O.rel.more (.cells vs e true)
  have hle : Mp.le σ (σ.put h.n (b, arr.size)) := Mp.le_put hnone
  have key : ∀ C c m, (σ.put h.n (b, arr.size)) C = some (c, m) → (C = h.n ∧ c = b ∧ m = arr.size) ∨ σ C = some (c, m) := fun C c m hC => by
    unfold Mp.put at hC
    split at hC
    · rename_i e; cases hC; exact .inl ⟨e, rfl, rfl⟩
    · exact .inr hC
  have hnew : (h.new (.cells vs e true)).t.get h.n = some (.cells vs e true) := by rw [Hp.get_new, if_pos rfl]
  refine ⟨h.new (.cells vs e true), σ.put h.n (b, arr.size), ⟨⟨fun C c m hC => ?_, fun C D c m q hC hD => ?_, fun C c m hC hlt => ?_, O.rel.base⟩, by simp [Hp.n_new', hn], fun i b' arr' e' fz' hi hw' => ?_, fun C c m hC => ?_⟩⟩
  · rcases key C c m hC with ⟨rfl, rfl, rfl⟩ | h1
    · refine ⟨Nat.lt_succ_self _, hbl, _, hnew, fun o ho => ?_⟩
      rw [hw] at ho; cases ho
      exact ⟨arr.toList, [], fz, by simp, hvs _, by simp, fun h => by cases h⟩
    · obtain ⟨h2, h3, k2, h4, h5⟩ := R.has C c m h1
      exact ⟨h2, h3, k2, h4, fun o ho => (h5 o ho).mono hle⟩
  · rcases key C c m hC with ⟨rfl, rfl, rfl⟩ | h1 <;> rcases key D c q hD with ⟨e1, e2, e3⟩ | h2
    · exact .inl e1.symm
    · exact absurd h2 (hfree _ _)
    · subst e2; exact absurd h1 (hfree _ _)
    · exact R.inj C D c m q h1 h2
  · rcases key C c m hC with ⟨rfl, rfl, rfl⟩ | h1
    · exact .inl ⟨vs, e, hnew⟩
    · exact R.old C c m h1 hlt
  · by_cases hil : i < bs.length
    · rw [List.getElem?_append_left hil] at hi
      obtain ⟨h1, us, h2, h3⟩ := O.at_ i b' arr' e' fz' hi hw'
      refine ⟨hle _ _ h1, us, ?_, h3⟩
      unfold rdCells at h2 ⊢
      rw [Hp.get_new, if_neg (by omega)]
      exact h2
    · rw [List.getElem?_append_right (by omega)] at hi
      have h0 : i = bs.length := by
        have := (List.getElem?_eq_some_iff.1 hi).1
        simp at this; omega
      subst h0
      simp at hi
      subst hi
      rw [hw] at hw'; cases hw'
      rw [← hn]
      refine ⟨Mp.put_same _ _ _, vs, by unfold rdCells; rw [hnew], fun j x hx => hv2 j x (by simpa using hx)⟩
  · rcases key C c m hC with ⟨rfl, rfl, rfl⟩ | h1
    · rw [hn]; simp
    · have := O.only C c m h1
      rw [List.getElem?_append_left (List.getElem?_eq_some_iff.1 this).1]
      exact this
theorem opened_all (w : World) : ∀ (bs : List Nat), (∀ b ∈ bs, ∃ arr e fz, w.heap[b]? = some (.cells arr e fz)) → ∃ cs h σ, (∀ b ∈ bs, b ∈ cs) ∧ Opened w cs h σ
  | [], _ => ⟨[], _, _, fun _ h => h, opened_nil w⟩
  | b :: bs, hb => by
    obtain ⟨cs, h, σ, h1, O⟩ := opened_all w bs fun c hc => hb c (by simp [hc])
    by_cases hm : b ∈ cs
    · refine ⟨cs, h, σ, fun c hc => ?_, O⟩
      rcases List.mem_cons.1 hc with rfl | hc
      · exact hm
      · exact h1 c hc
    · obtain ⟨arr, e, fz, hw⟩ := hb b (by simp)
      obtain ⟨h', σ', O'⟩ := opened_snoc O hm hw
      refine ⟨cs ++ [b], h', σ', fun c hc => ?_, O'⟩
      rcases List.mem_cons.1 hc with rfl | hc
      · simp
      · simp [h1 c hc]
/-- a list that reads in the world reads in the machine -/
def blocksOf {α : Type} (A : Option Addr) (l : List α) : List Nat := match A, l with
  | some a, _ :: _ => [a.block]
  | _, _ => []
theorem blocks_ok {α : Type} {f : α → Value} {w : World} {A : Option Addr} {l : List α} (h : At1 f w A l) : ∀ b ∈ blocksOf A l, ∃ arr e fz, w.heap[b]? = some (.cells arr e fz) := by
  intro b hb
  unfold blocksOf at hb
  split at hb
  · rename_i a x l'
    simp at hb; subst hb
    obtain ⟨ad, e, hc⟩ := h.2 (by simp)
    cases e
    have := hc 0 x rfl
    unfold World.cell? at this
    rw [block_of_add] at this
    split at this
    · rename_i c t f hh; exact ⟨_, _, _, hh⟩
    · cases this
  · simp at hb
theorem opened_list {α : Type} {f : α → Value} {g : α → V} (hfg : ∀ x v, Told v (f x) → v = g x) {w : World} {cs : List Nat} {h : Hp} {σ : Mp} (O : Opened w cs h σ) {A : Option Addr} {l : List α} {c : Nat} (hA : At1 f w A l) (hb : ∀ b ∈ blocksOf A l, b ∈ cs) :
    ∃ v, Rep σ v (.slice A l.length c) ∧ RdO h v l.length (l.map g) ∧ ∀ b, v.block? = some b → b < h.n := by
  cases l with
  | nil => exact ⟨.emp, .emp _ _, .inl ⟨rfl, rfl⟩, fun b h => by cases h⟩
  | cons x l =>
    obtain ⟨ad, rfl, hc⟩ := hA.2 (by simp)
    obtain ⟨i, hi⟩ := List.mem_iff_getElem?.1 (hb ad.block (by simp [blocksOf]))
    have h0 := hc 0 x rfl
    have hsp : ad.spot = none ∧ ∃ arr e fz, w.heap[ad.block]? = some (.cells arr e fz) := by
      unfold World.cell? at h0
      rw [block_of_add] at h0
      split at h0
      · rename_i arr e fz hh
        split at h0
        · cases h0
        · rename_i hs
          refine ⟨?_, arr, e, fz, hh⟩
          unfold Addr.add at hs
          split at hs <;> simp_all
      · cases h0
    obtain ⟨hs, arr, e, fz, hw⟩ := hsp
    obtain ⟨b, o, s⟩ := ad
    simp only at hs hw hi
    subst hs
    obtain ⟨h1, vs, h2, h3⟩ := O.at_ i b arr e fz hi hw
    have hin := (List.getElem?_eq_some_iff.1 hi).1
    refine ⟨.sl i o (x :: l).length c, .sl _ _ _ _ _ _ h1, .inr ⟨i, o, vs, h2, ?_, _, rfl⟩, fun b' hb' => by cases hb'; rw [O.n]; exact hin⟩
    have key : (vs.drop o).take (x :: l).length = (x :: l).map g := by
      apply List.ext_getElem?
      intro j
      rw [List.getElem?_take, List.getElem?_map]
      split
      · rename_i hj
        have hl : (x :: l)[j]? = some (x :: l)[j] := List.getElem?_eq_getElem hj
        have hcj := hc j _ hl
        rw [addr_add] at hcj
        simp only [World.cell?, hw, Option.isSome_none, Bool.false_eq_true, if_false] at hcj
        obtain ⟨v, g1, g2⟩ := h3 _ _ hcj
        rw [List.getElem?_drop, g1, hl, Option.map_some, hfg _ _ g2]
      · rw [List.getElem?_eq_none (by omega)]; rfl
    unfold sub
    rw [key]
    simp
end
end Go.Proofs.YtpimnaojhaeiiaaGreatDoor.VM
namespace Go.Proofs.YtpimnaojhaeiiaaGreatDoor.VM
open Go Go.RowKit
set_option linter.unusedVariables false
noncomputable section
theorem hook_idx : E.hook 211 = some idxH := rfl
set_option maxRecDepth 20000 in
theorem hooksOK9 : HooksOK Tryz.prog EE := by
  intro f g hg N al h v h' hc σ w xs R hr
  have hg' : hooks9 f = some g := hg
  unfold hooks9 at hg'
  cases h1 : Nat.beq f 211 with
  | true =>
    have := Nat.eq_of_beq_eq_true h1
    subst this
    rw [h1] at hg'
    cases hg'
    exact @hooksOK 211 idxH hook_idx N al h v h' hc σ w xs R hr
  | false =>
    rw [h1] at hg'
    cases h2 : Nat.beq f 4 with
    | true =>
      have := Nat.eq_of_beq_eq_true h2
      subst this
      rw [h2] at hg'
      cases hg'
      exact @memoH_sound Tryz.prog 4 [awakeMemo] (fun m hm => by rw [List.mem_singleton.1 hm]; exact @awakeMemo_ok) N al h v h' hc σ w xs R hr
    | false =>
      rw [h2] at hg'
      cases h3 : Nat.beq f 7 with
      | true =>
        have := Nat.eq_of_beq_eq_true h3
        subst this
        rw [h3] at hg'
        cases hg'
        exact @undoH_ok N al h v h' hc σ w xs R hr
      | false => rw [h3] at hg'; cases hg'
theorem idleOK9 : IdleOK Tryz.prog EE := @idleOK
theorem calls_of_ans {f : Nat} {fn : Func} (hf : Tryz.prog.funcs[f]? = some fn) (hb : fn.body.isNone = false) {al : List V} {h : Hp} {Q : V → Hp → Prop} (hc : Ans EE f al h Q) {N : Nat} {σ : Mp} {w : World} {xs : List Value} (R : Rel N σ h w) (hr : RepL σ al xs) :
    Calls Tryz.prog f xs.toArray w fun e w'' => ∃ v h' x, Q v h' ∧ e = .returned x ∧ Does N σ h w v h' x w'' := by
  obtain ⟨v, h', ⟨n, hn⟩, hq⟩ := hc
  refine (@runs Tryz.prog EE envOK9 @idleOK9 @hooksOK9 nameOK f fn hf hb al h h' v n hn N σ w xs R hr).mono ?_
  rintro e w2 ⟨x, h1, h2⟩
  exact ⟨v, h', x, hq, h1, h2⟩
theorem told_byte (x : UInt8) (v : V) (t : Told v (vByte x)) : v = vB x.toNat := t.int _ _ rfl
theorem rd_of {h : Hp} {v : V} {l : List UInt8} (r : RdO h v l.length (l.map fun x => vB x.toNat)) : RdB h v (l.map UInt8.toNat) := by
  have e : (l.map UInt8.toNat).map vB = l.map fun x => vB x.toNat := by rw [List.map_map]; rfl
  rcases r with ⟨rfl, h0⟩ | ⟨b, off, vs, h1, h2, c, rfl⟩
  · exact ⟨by simp, .inl ⟨.inr rfl, by simpa using h0⟩⟩
  · exact ⟨by simp, .inr ⟨b, off, vs, h1, by rw [List.length_map, Nat.mul_one]; exact h2.trans (by rw [← e]), .inl ⟨c, by rw [List.length_map]⟩⟩⟩
theorem in_of {n : Nat} {v : V} {h : Hp} {len : Nat} {cs : List V} (r : RdO h v len cs) (hv : ∀ b, v.block? = some b → b < n) : In n v := by
  intro b hb
  rcases r with ⟨rfl, _⟩ | ⟨b', off, vs, h1, h2, c, rfl⟩
  · cases hb
  · exact hv b hb
end
end Go.Proofs.YtpimnaojhaeiiaaGreatDoor.VM
namespace Go.Proofs.YtpimnaojhaeiiaaGreatDoor
open Go Go.RowKit VM
theorem patchUndo_walk (W : World) (A0 : Option Addr) (l0 : List UInt8) (c0 : Nat) (A1 : Option Addr) (l1 : List UInt8) (c1 : Nat) (A2 : Option Addr) (l2 : List UInt8) (c2 : Nat) (s3 : ByteArray) (h0 : At1 vByte W A0 l0) (h1 : At1 vByte W A1 l1) (h2 : At1 vByte W A2 l2) (_h3 : s3.size ≤ maxLen) :
    Calls Tryz.prog 3 #[.slice A0 l0.length c0, .slice A1 l1.length c1, .slice A2 l2.length c2, .string s3] W fun e W' => e = .returned (.bool true) ∧ Below W.heap.size W W' := by
  obtain ⟨cs, h, σ, hcs, O⟩ := opened_all W (blocksOf A0 l0 ++ (blocksOf A1 l1 ++ blocksOf A2 l2)) fun b hb => by
    rcases List.mem_append.1 hb with hb | hb
    · exact blocks_ok h0 b hb
    · rcases List.mem_append.1 hb with hb | hb
      · exact blocks_ok h1 b hb
      · exact blocks_ok h2 b hb
  obtain ⟨v0, r0, d0, i0⟩ := opened_list (g := fun x => vB x.toNat) told_byte O (c := c0) h0 fun b hb => hcs b (by simp [hb])
  obtain ⟨v1, r1, d1, i1⟩ := opened_list (g := fun x => vB x.toNat) told_byte O (c := c1) h1 fun b hb => hcs b (by simp [hb])
  obtain ⟨v2, r2, d2, i2⟩ := opened_list (g := fun x => vB x.toNat) told_byte O (c := c2) h2 fun b hb => hcs b (by simp [hb])
  have lt : ∀ l : List UInt8, ∀ x ∈ l.map UInt8.toNat, x < 256 := fun l x hx => by
    obtain ⟨y, _, rfl⟩ := List.mem_map.1 hx
    exact y.toNat_lt
  have hs := Rep.str (σ := σ) (strOf s3) (strOf_lt s3)
  rw [bytesOf_strOf] at hs
  have A := patchUndo_ok (l0.map UInt8.toNat) (l1.map UInt8.toNat) (l2.map UInt8.toNat) (strOf s3) (lt l0) (lt l1) (lt l2) (strOf_lt s3) v0 v1 v2 h (rd_of d0) (rd_of d1) (rd_of d2) (in_of d0 i0) (in_of d1 i1) (in_of d2 i2)
  refine (calls_of_ans Tryz.func3 (by kernel_rfl) A O.rel (.cons _ _ _ _ r0 (.cons _ _ _ _ r1 (.cons _ _ _ _ r2 (.cons _ _ _ _ hs .nil))))).mono ?_
  rintro e W' ⟨v, h', x, rfl, rfl, σ', _, _, hr, _, hb⟩
  cases hr
  exact ⟨rfl, hb⟩
end Go.Proofs.YtpimnaojhaeiiaaGreatDoor
namespace Go.Proofs.YtpimnaojhaeiiaaGreatDoor
open Go.ChangeShapes Go.WideShapes Go.ChangeAt Go.RowKit
section
variable {H : Type} {enc : TypeId × Value → H} {P : Program} {w : World} {base : Nat} {spare : Nat → Bool} {held : Bool} {r : Reach} {b0 : Nat} {t e : TypeId} {v : Value} {d : DataW H} {p : List MemPlace}

theorem getElem?_take_getD {α : Type} {l : List α} {n i : Nat} {x y : α} (h : (l.take n)[i]? = some x) : i < l.length ∧ l.getD i y = x := by
  rw [List.getElem?_take] at h
  split at h
  · obtain ⟨h1, h2⟩ := List.getElem?_eq_some_iff.1 h
    exact ⟨h1, by simp [List.getD, h]⟩
  · cases h

theorem open_ints_at {k : IntKind} (ht : P.underlying t = some (.slice e)) (he : P.underlying e = some (.int k)) (hc : P.cellsOf e = 1) (hval : Value.okWide P w r b0 t v) (h : DataW.Trod enc P w base spare held t v d p) :
    ∃ A c zs, v = .slice A zs.length c ∧ At1 (Value.int k) w A zs ∧ (∀ n ∈ zs, (Lit.int k n).wf = true) := by
  obtain ⟨a, len, cap, rfl⟩ := okWide_slice ht hval
  obtain ⟨fuel, hf⟩ := h
  rcases open_ints ht he hc hf with ⟨hcs, _⟩ | ⟨x, l, c, zs, hcs, _, hl, hm, hz, _, hcell, hwz⟩
  · simp [Value.cells] at hcs
    obtain ⟨rfl, rfl, rfl⟩ := hcs
    exact ⟨none, 0, [], rfl, At1.nil _ _ _, by simp⟩
  · simp [Value.cells] at hcs
    obtain ⟨rfl, rfl, rfl⟩ := hcs
    have hz' : len ≤ zs.length := by rw [hz]; split <;> omega
    refine ⟨some x, cap, zs.take len, by rw [List.length_take, Nat.min_eq_left hz'], ⟨?_, fun _ => ⟨x, rfl, fun i y hy => ?_⟩⟩, fun n hn => hwz n (List.mem_of_mem_take hn)⟩
    · rw [List.length_take]; unfold maxLen at hm; omega
    · obtain ⟨h1, h2⟩ := getElem?_take_getD (y := 0) hy
      rw [hcell i h1, h2]

theorem open_bytes_at (ht : P.underlying t = some (.slice e)) (he : P.underlying e = some (.int .u8)) (hc : P.cellsOf e = 1) (hval : Value.okWide P w r b0 t v) (h : DataW.Trod enc P w base spare held t v d p) :
    ∃ A c ns, v = .slice A ns.length c ∧ At1 vByte w A ns := by
  obtain ⟨A, c, zs, rfl, h1, h2⟩ := open_ints_at ht he hc hval h
  refine ⟨A, c, zs.map fun n => UInt8.ofNat n.toNat, by simp, by simpa using h1.1, fun hn => ?_⟩
  obtain ⟨ad, rfl, hcell⟩ := h1.2 (by simpa using hn)
  refine ⟨ad, rfl, fun i x hx => ?_⟩
  rw [List.getElem?_map] at hx
  cases hz : zs[i]? with
  | none => rw [hz] at hx; cases hx
  | some z =>
    rw [hz] at hx
    injection hx with hx
    subst hx
    have hw := h2 z (List.mem_of_getElem? hz)
    simp [Lit.wf, IntKind.min, IntKind.max, IntKind.signed, IntKind.bits] at hw
    rw [hcell i z hz]
    have hlt : z.toNat < 256 := by omega
    show some (Value.int .u8 z) = some (Value.int .u8 ((UInt8.ofNat z.toNat).toNat : Int))
    rw [UInt8.toNat_ofNat_of_lt' hlt]
    congr 2
    omega

theorem open_strs_at (ht : P.underlying t = some (.slice e)) (he : P.underlying e = some .string) (hc : P.cellsOf e = 1) (hval : Value.okWide P w r b0 t v) (h : DataW.Trod enc P w base spare held t v d p) :
    ∃ A c ss, v = .slice A ss.length c ∧ At1 vStr w A ss ∧ (∀ s ∈ ss, s.size ≤ 9223372036854775807) := by
  obtain ⟨a, len, cap, rfl⟩ := okWide_slice ht hval
  obtain ⟨fuel, hf⟩ := h
  rcases open_strings ht he hc hf with ⟨hcs, _⟩ | ⟨x, l, c, zs, hcs, _, hl, hm, hz, _, hcell, hwz⟩
  · simp [Value.cells] at hcs
    obtain ⟨rfl, rfl, rfl⟩ := hcs
    exact ⟨none, 0, [], rfl, At1.nil _ _ _, by simp⟩
  · simp [Value.cells] at hcs
    obtain ⟨rfl, rfl, rfl⟩ := hcs
    have hz' : len ≤ zs.length := by rw [hz]; split <;> omega
    refine ⟨some x, cap, zs.take len, by rw [List.length_take, Nat.min_eq_left hz'], ⟨?_, fun _ => ⟨x, rfl, fun i y hy => ?_⟩⟩, fun n hn => hwz n (List.mem_of_mem_take hn)⟩
    · rw [List.length_take]; unfold maxLen at hm; omega
    · obtain ⟨h1, h2⟩ := getElem?_take_getD (y := ByteArray.empty) hy
      rw [hcell i h1, h2]
end
end Go.Proofs.YtpimnaojhaeiiaaGreatDoor
