/- Calls of LEFT, RIGHT, MID, LEN at arguments of one value each; steps of a plan with boxes. -/
import Derived.Test.YtcbaioagcemmnaaDoorFunText
import Derived.Test.YtcbaioagcemmnaaDoorFunLit
import Derived.Test.YtcbaioagcemmnaaDoorPlanA
import Derived.Test.YtcbaioagcemmnaaDoorValLoad
namespace Go.Proofs.YtcbaioagcemmnaaDoor
open Go.RowKit Go.Maps
/-- the effects' obligations, closed -/
structure PE (P : Program) (ops : Array Oper) (Q : Exit → Act → World → Prop) (ds : List Nat) (cs : Nat → Obj) (B : Nat) (R : Act → World → Prop) (E : List Nat) (a : Act) (w : World) : Prop where
  out : PA.wpE P ops Q ds cs B R E a w
section
variable {P : Program} {ops : Array Oper} {Q : Exit → Act → World → Prop} {ds : List Nat} {cs : Nat → Obj} {B : Nat} {R : Act → World → Prop} {a : Act} {w : World}
theorem pe_eff {i : Nat} {r : List Nat} (h : ∀ u w1, Ext w w1 → ∀ K : Act → World → Prop, (∀ a' w', (∀ d ∈ ds, a'.eval (.tmp d) = u d) → Ext w1 w' → PE P ops Q ds cs B R r a' w' → K a' w') → (ops.getD i default).wp P (PA.putF ds u a) w1 K Q) : PE P ops Q ds cs B R (i :: r) a w :=
  ⟨fun u w1 hx => h u w1 hx _ fun _ _ h1 h2 h3 => ⟨h1, h2, h3.out⟩⟩
theorem pe_end (h : ∀ u w1 (g : Nat → Nat), Ext w w1 → (∀ d ∈ ds, u d = .pointer (some ⟨g d, 0, none⟩) ∧ w1.heap[g d]? = some (cs d) ∧ B ≤ g d) → (∀ d ∈ ds, ∀ e ∈ ds, d ≠ e → g d ≠ g e) → R (PA.putF ds u a) w1) : PE P ops Q ds cs B R [] a w := ⟨h⟩
/-- two stores at the end, in either order -/
theorem two_last {md : Region.Mode} {S : World → Prop} {tail : List Nat} {L : Array Bool} {i j : Nat} (h1 : (Region.ready md ops L == [i, j]) = true) (h2 : (Region.ready md ops (L.setIfInBounds i true) == [j]) = true) (h3 : (Region.ready md ops (L.setIfInBounds j true) == [i]) = true)
    (h4 : (Region.ready md ops ((L.setIfInBounds i true).setIfInBounds j true)).isEmpty = true) (h5 : (Region.ready md ops ((L.setIfInBounds j true).setIfInBounds i true)).isEmpty = true)
    (hg : ((ops.getD i default).guard.isNone && (ops.getD j default).guard.isNone && tail.contains i && tail.contains j) = true)
    (hi : (ops.getD i default).wp P a w (fun a w => (ops.getD j default).wp P a w (fun a w => Q .normal a w) Q) Q) (hj : (ops.getD j default).wp P a w (fun a w => (ops.getD i default).wp P a w (fun a w => Q .normal a w) Q) Q) :
    wpAnyD P md ops Q S tail 2 L a w := by
  simp only [Bool.and_eq_true] at hg
  obtain ⟨⟨⟨g1, g2⟩, t1⟩, t2⟩ := hg
  have h1 := eq_of_beq h1
  have h2 := eq_of_beq h2
  have h3 := eq_of_beq h3
  have one : ∀ (k : Nat) (L : Array Bool) (a : Act) (w : World), Region.ready md ops L = [k] → (ops.getD k default).guard.isNone = true → (Region.ready md ops (L.setIfInBounds k true)).isEmpty = true → (ops.getD k default).wp P a w (fun a w => Q .normal a w) Q → wpAny P md ops Q 1 L a w := by
    intro k L a w hr hg he h
    refine ⟨fun h0 => (by rw [hr] at h0; cases h0), fun m hm => ?_⟩
    have hk := ready_get (md := md) (ops := ops) (listed := L) (i := m) hm
    obtain rfl : m = k := by rw [hr] at hm; simpa using hm
    unfold wpOp
    simp only [hk, PA.wanted_none hg, if_true]
    exact .inl (Oper.wp_mono (fun a' w' hh => ⟨by simpa using he, hh⟩) h)
  refine ⟨fun h0 => (by rw [h1] at h0; cases h0), fun m hm => ?_⟩
  have hk := ready_get (md := md) (ops := ops) (listed := L) (i := m) hm
  have hm' := hm
  rw [h1] at hm'
  rcases (by simpa using hm' : m = i ∨ m = j) with rfl | rfl
  · unfold wpOp
    simp only [hk, PA.wanted_none g1, t1, if_true]
    exact .inl (Oper.wp_mono (fun a' w' hh => one _ _ a' w' h2 g2 h4 hh) hi)
  · unfold wpOp
    simp only [hk, PA.wanted_none g2, t2, if_true]
    exact .inl (Oper.wp_mono (fun a' w' hh => one _ _ a' w' h3 g1 h5 hh) hj)
/-- two stores at the end, one behind the other -/
theorem chain_last {md : Region.Mode} {S : World → Prop} {tail : List Nat} {L : Array Bool} {i j : Nat} (h1 : (Region.ready md ops L == [i]) = true) (h2 : (Region.ready md ops (L.setIfInBounds i true) == [j]) = true)
    (h4 : (Region.ready md ops ((L.setIfInBounds i true).setIfInBounds j true)).isEmpty = true)
    (hg : ((ops.getD i default).guard.isNone && (ops.getD j default).guard.isNone && tail.contains i) = true)
    (hi : (ops.getD i default).wp P a w (fun a w => (ops.getD j default).wp P a w (fun a w => Q .normal a w) Q) Q) :
    wpAnyD P md ops Q S tail 2 L a w := by
  simp only [Bool.and_eq_true] at hg
  obtain ⟨⟨g1, g2⟩, t1⟩ := hg
  have h1 := eq_of_beq h1
  have h2 := eq_of_beq h2
  refine ⟨fun h0 => (by rw [h1] at h0; cases h0), fun m hm => ?_⟩
  have hk := ready_get (md := md) (ops := ops) (listed := L) (i := m) hm
  obtain rfl : m = i := by rw [h1] at hm; simpa using hm
  unfold wpOp
  simp only [hk, PA.wanted_none g1, t1, if_true]
  refine .inl (Oper.wp_mono (fun a' w' hh => ?_) hi)
  refine ⟨fun h0 => (by rw [h2] at h0; cases h0), fun m hm => ?_⟩
  have hk := ready_get (md := md) (ops := ops) (i := m) hm
  obtain rfl : m = j := by rw [h2] at hm; simpa using hm
  unfold wpOp
  simp only [hk, PA.wanted_none g2, if_true]
  exact .inl (Oper.wp_mono (fun a' w' hh => ⟨by simpa using h4, hh⟩) hh)
/-- one store at the end -/
theorem one_last {md : Region.Mode} {S : World → Prop} {tail : List Nat} {L : Array Bool} {i : Nat} (h1 : (Region.ready md ops L == [i]) = true)
    (h4 : (Region.ready md ops (L.setIfInBounds i true)).isEmpty = true) (hg : ((ops.getD i default).guard.isNone && tail.contains i) = true)
    (hi : (ops.getD i default).wp P a w (fun a w => Q .normal a w) Q) : wpAnyD P md ops Q S tail 1 L a w := by
  simp only [Bool.and_eq_true] at hg
  have h1 := eq_of_beq h1
  refine ⟨fun h0 => (by rw [h1] at h0; cases h0), fun m hm => ?_⟩
  have hk := ready_get (md := md) (ops := ops) (listed := L) (i := m) hm
  obtain rfl : m = i := by rw [h1] at hm; simpa using hm
  unfold wpOp
  simp only [hk, PA.wanted_none hg.1, hg.2, if_true]
  exact .inl (Oper.wp_mono (fun a' w' hh => ⟨by simpa using h4, hh⟩) hi)
/-- a load of a whole block, at a plan with a hole -/
theorem ph_loadB {H : Nat → Act → World → Prop} {o : Oper} {t : PH.PTo} {T : TypeId} {x : Operand} {k : Nat} {v : Value} (hrun : ∀ W, W.heap[k]? = w.heap[k]? → (Instr.loadAt T (.pointer (some ⟨k, 0, none⟩))).run P W = .ok v W) (hlt : k < w.heap.size)
    (hw : Region.wanted o (yielded ops a.tmps) = true) (ho : o.op = .load T x) (hx : a.eval x = .pointer (some ⟨k, 0, none⟩)) (h2 : PH.PlannedT P ops Q H t (a.put o.dst v) w) : PH.PlannedT P ops Q H (.free o t) a w := by
  refine PH.pt_at hw (fun W hW => ?_) h2
  unfold execOp
  rw [ho]
  simp only [hx, Sem.run_bind, hrun W (hW.block k hlt), Result.andThen_ok]
  rfl
/-- a plan with a hole: boxes among effects -/
theorem ph_lin {D ds E : List Nat} {sl : Nat → Nat} {cs : Nat → Obj} {tail : List Nat} {L0 : Array Bool} {k n : Nat} (hok : PA.linOk .any ops tail L0 E D = true) (hk : k = E.length + D.length + n) (hds : D.map sl = ds) (hnd : ds.Nodup) (hinj : ∀ i ∈ D, ∀ j ∈ D, sl i = sl j → i = j)
    (hal : ∀ i ∈ D, ∀ a w (K : Act → World → Prop), K (a.put (some (sl i)) (.pointer (some ⟨w.heap.size, 0, none⟩))) (w.alloc (cs (sl i))) → (ops.getD i default).wp P a w K Q)
    (hcs : ∀ i ∈ D, ∀ w : World, (w.alloc (cs (sl i))).heap[w.heap.size]? = some (cs (sl i)))
    (h : PE P ops Q ds cs w.heap.size (fun a w => wpAnyD P .any ops Q (Ext w) tail n (PA.lst L0 E E.length D) a w) E a w) :
    PH.PlannedT P ops Q (fun n a w => wpAnyD P .any ops Q (Ext w) tail n L0 a w) (.hole k) a w := by
  refine PH.pt_hole ?_
  subst hds hk
  have := PA.lin_sound (P := P) (Q := Q) (md := .any) (n := n) (B := w.heap.size) (R := fun a w => wpAnyD P .any ops Q (Ext w) tail n (PA.lst L0 E E.length D) a w) hok hnd hinj hal hcs (fun a w h => h) (E.length + D.length) 0 (fun _ => false) a w (fun d => a.eval (.tmp d)) (fun _ => 0) (Nat.zero_le _) (by rw [List.filter_eq_nil_iff.2 (fun _ _ h => by cases h)]; simp) (Nat.le_refl _) (fun i _ h => by cases h) (fun i _ j _ h => by cases h) (by rw [List.drop_zero]; exact h.out)
  rw [PA.putF_self (fun _ _ => rfl)] at this
  have e : PA.lst L0 E 0 (D.filter fun _ => false) = L0 := by
    apply Array.ext
    · simp [PA.lst]
    · intro i h1 h2
      simp [PA.lst]
  rw [e] at this
  exact this
theorem alloc_wp {o : Oper} {K : Act → World → Prop} {T : TypeId} {d : Nat} {v : Value} {w' : World} (ho : o.op = .alloc T) (hd : o.dst = some d) (hrun : (Instr.alloc T true (.tuple #[])).run P w = .ok v w') (hK : K (a.put (some d) v) w') : o.wp P a w K Q := by
  unfold Oper.wp execOp
  rw [ho]
  simp only [Sem.run_bind, hrun, Result.andThen_ok]
  show K (a.put o.dst v) w'
  rw [hd]
  exact hK
end
theorem alloc_val (w : World) : (Instr.alloc 31 true (.tuple #[])).run Tryd.prog w = .ok (.pointer (some ⟨w.heap.size, 0, none⟩)) (w.alloc (.cells #[.int .i64 0, .int .i64 0, .string ⟨#[]⟩] 31)) := by kernel_rfl
theorem store_other {W : World} {O O' : Nat} {x y z : Value} {o : Obj} (h : W.heap[O']? = some o) (hne : O ≠ O') : (((W.setCell ⟨O, 0, none⟩ x).setCell ⟨O, 1, none⟩ y).setCell ⟨O, 2, none⟩ z).heap[O']? = some o := by
  simp [World.setCell, Array.getElem?_modify, h, hne]
theorem AtV.store3 {W : World} {O g : Nat} {x y z : Value} {l : List V3} (h : AtV W (some ⟨g, 0, none⟩) l) (hne : O ≠ g) : AtV (((W.setCell ⟨O, 0, none⟩ x).setCell ⟨O, 1, none⟩ y).setCell ⟨O, 2, none⟩ z) (some ⟨g, 0, none⟩) l := by
  refine ⟨h.1, fun hn => ?_⟩
  obtain ⟨b, o, e, hc⟩ := h.2 hn
  have hb : b = g := by injection e with e; injection e with e; exact e.symm
  subst hb
  have hk : ∀ j, (((W.setCell ⟨O, 0, none⟩ x).setCell ⟨O, 1, none⟩ y).setCell ⟨O, 2, none⟩ z).cell? ⟨b, j, none⟩ = W.cell? ⟨b, j, none⟩ := fun j => by simp [World.cell?, World.setCell, Array.getElem?_modify, hne]
  exact ⟨b, o, e, fun i x hx => by rw [hk, hk, hk]; exact hc i x hx⟩
theorem load_arg (k : Nat) (W : World) (a b c : Value) (h : W.heap[k]? = some (.cells #[a, b, c] 27 (0, 0))) :
    (Instr.loadAt 27 (.pointer (some ⟨k, 0, none⟩))).run Tryd.prog W = .ok (.agg #[a, b, c]) W := by
  obtain ⟨h0, h1, h2, _⟩ := val3 h
  simp [go_sem, h0, h1, h2]
theorem one_arg {as_ : List (Option Addr × V3)} {a : FArg} (h : a ∈ as_.map fun p => oneArg p.1 p.2) : ∃ p ∈ as_, a = oneArg p.1 p.2 := by
  obtain ⟨p, hp, rfl⟩ := List.mem_map.1 h
  exact ⟨p, hp, rfl⟩
/-- Call at arguments of one value each, none of them an error -/
theorem callT (w : World) (A : Option Addr) (l : List (Option Addr × V3)) (c : Nat) (hA : AtA w A (l.map fun p => oneArg p.1 p.2)) (h4 : ∀ p ∈ l, p.2.1 ≠ 4) (name : ByteArray) (hn : name.size ≤ maxLen) (m : Int) (hm : m = l.length) (g : Nat)
    (hr : (ruleTab A (l.map fun p => oneArg p.1 p.2).length c).atKey (.string name.data.toList) .nil = .held (.agg #[.int .i64 m, .int .i64 m, .bool false, .bool true, .func (.func g) #[.agg #[.slice A (l.map fun p => oneArg p.1 p.2).length c]] #[]]))
    (rk rn : Int) (rs : ByteArray) (hg : ∀ us W, (callFunc g us).run Tryd.prog W = .ok (.enter g us) W)
    (hc : ∀ W, AtA W A (l.map fun p => oneArg p.1 p.2) → Calls Tryd.prog g #[.agg #[.slice A (l.map fun p => oneArg p.1 p.2).length c]] W fun e W' => e = .returned (.agg #[.int .i64 rk, .int .i64 rn, .string rs]) ∧ Below W.heap.size W W') :
    Calls Tryd.prog 12 #[.string name, .slice A (l.map fun p => oneArg p.1 p.2).length c] w fun e w' => e = .returned (.agg #[.int .i64 rk, .int .i64 rn, .string rs]) ∧ Below w.heap.size w w' :=
  call_any w A _ c name hn m m false true g hr hA (by rw [hm]; simp) (by rw [hm]; simp)
    (fun a ha => by obtain ⟨p, hp, rfl⟩ := one_arg ha; exact ⟨fun h => absurd h (by simp [oneArg]), fun _ => rfl⟩)
    (fun a ha v hv _ => by obtain ⟨p, hp, rfl⟩ := one_arg ha; simp only [oneArg, List.mem_cons, List.not_mem_nil, or_false] at hv; subst hv; exact h4 p hp) rk rn rs hg (fun W hW => hc W (hA.below hW))
theorem call_left (w : World) (G g1 g2 : Nat) (s : ByteArray) (k m : Nat) (hA : AtA w (some ⟨G, 0, none⟩) [oneArg (some ⟨g1, 0, none⟩) (2, 0, s), oneArg (some ⟨g2, 0, none⟩) (1, (k : Int), ⟨#[]⟩)]) (hs : s.size ≤ 200) (hk : k ≤ 100) (hm : m = min k s.size) (t : ByteArray) (ht : t = s.extract 0 m) :
    Calls Tryd.prog 12 #[.string ⟨#[76, 69, 70, 84]⟩, .slice (some ⟨G, 0, none⟩) 2 2] w fun e w' => e = .returned (.agg #[.int .i64 2, .int .i64 0, .string t]) ∧ Below w.heap.size w w' :=
  callT w (some ⟨G, 0, none⟩) [(some ⟨g1, 0, none⟩, (2, 0, s)), (some ⟨g2, 0, none⟩, (1, (k : Int), ⟨#[]⟩))] 2 hA (fun p hp => by simp only [List.mem_cons, List.not_mem_nil, or_false] at hp; rcases hp with rfl | rfl <;> simp) _ (by unfold maxLen; decide) 2 rfl 28 (by kernel_rfl) 2 0 t
    (fun us W => run_enter Tryd.func28 (by kernel_rfl) rfl us W) (fun W hW => left_any W _ _ 2 hW _ _ 0 k s ⟨#[]⟩ rfl rfl rfl rfl hs hk t m hm ht)
theorem call_right (w : World) (G g1 g2 : Nat) (s : ByteArray) (k m : Nat) (hA : AtA w (some ⟨G, 0, none⟩) [oneArg (some ⟨g1, 0, none⟩) (2, 0, s), oneArg (some ⟨g2, 0, none⟩) (1, (k : Int), ⟨#[]⟩)]) (hs : s.size ≤ 200) (hk : k ≤ 100) (hm : m = min k s.size) (t : ByteArray) (ht : t = s.extract (s.size - m) s.size) :
    Calls Tryd.prog 12 #[.string ⟨#[82, 73, 71, 72, 84]⟩, .slice (some ⟨G, 0, none⟩) 2 2] w fun e w' => e = .returned (.agg #[.int .i64 2, .int .i64 0, .string t]) ∧ Below w.heap.size w w' :=
  callT w (some ⟨G, 0, none⟩) [(some ⟨g1, 0, none⟩, (2, 0, s)), (some ⟨g2, 0, none⟩, (1, (k : Int), ⟨#[]⟩))] 2 hA (fun p hp => by simp only [List.mem_cons, List.not_mem_nil, or_false] at hp; rcases hp with rfl | rfl <;> simp) _ (by unfold maxLen; decide) 2 rfl 29 (by kernel_rfl) 2 0 t
    (fun us W => run_enter Tryd.func29 (by kernel_rfl) rfl us W) (fun W hW => right_any W _ _ 2 hW _ _ 0 k s ⟨#[]⟩ rfl rfl rfl rfl hs hk t m hm ht)
theorem call_mid (w : World) (G g1 g2 g3 : Nat) (s : ByteArray) (k p f m : Nat) (hA : AtA w (some ⟨G, 0, none⟩) [oneArg (some ⟨g1, 0, none⟩) (2, 0, s), oneArg (some ⟨g2, 0, none⟩) (1, (p : Int), ⟨#[]⟩), oneArg (some ⟨g3, 0, none⟩) (1, (k : Int), ⟨#[]⟩)]) (hs : s.size ≤ 200) (hk : k ≤ 100) (hp : 1 ≤ p) (hp2 : p ≤ 100)
    (hf : f = min (p - 1) s.size) (hm : m = min k (s.size - f)) (t : ByteArray) (ht : t = (s.extract f s.size).extract 0 m) :
    Calls Tryd.prog 12 #[.string ⟨#[77, 73, 68]⟩, .slice (some ⟨G, 0, none⟩) 3 3] w fun e w' => e = .returned (.agg #[.int .i64 2, .int .i64 0, .string t]) ∧ Below w.heap.size w w' :=
  callT w (some ⟨G, 0, none⟩) [(some ⟨g1, 0, none⟩, (2, 0, s)), (some ⟨g2, 0, none⟩, (1, (p : Int), ⟨#[]⟩)), (some ⟨g3, 0, none⟩, (1, (k : Int), ⟨#[]⟩))] 3 hA (fun p hp => by simp only [List.mem_cons, List.not_mem_nil, or_false] at hp; rcases hp with rfl | rfl | rfl <;> simp) _ (by unfold maxLen; decide) 3 rfl 30 (by kernel_rfl) 2 0 t
    (fun us W => run_enter Tryd.func30 (by kernel_rfl) rfl us W) (fun W hW => mid_any W _ _ 3 hW _ _ 0 k s ⟨#[]⟩ rfl rfl rfl rfl hs hk t m _ p ⟨#[]⟩ rfl rfl hp hp2 f hf hm ht)
theorem call_len (w : World) (G g1 : Nat) (s : ByteArray) (hA : AtA w (some ⟨G, 0, none⟩) [oneArg (some ⟨g1, 0, none⟩) (2, 0, s)]) :
    Calls Tryd.prog 12 #[.string ⟨#[76, 69, 78]⟩, .slice (some ⟨G, 0, none⟩) 1 1] w fun e w' => e = .returned (.agg #[.int .i64 1, .int .i64 s.size, .string ⟨#[]⟩]) ∧ Below w.heap.size w w' :=
  callT w (some ⟨G, 0, none⟩) [(some ⟨g1, 0, none⟩, (2, 0, s))] 1 hA (fun p hp => by simp only [List.mem_cons, List.not_mem_nil, or_false] at hp; rcases hp with rfl; simp) _ (by unfold maxLen; decide) 1 rfl 27 (by kernel_rfl) 1 _ _
    (fun us W => run_enter Tryd.func27 (by kernel_rfl) rfl us W) (fun W hW => length_any W _ _ 1 hW _ 0 s rfl rfl)
/-- a part of a part -/
theorem part_part (s : ByteArray) (f m e : Nat) (h : f + m = e) (he : e ≤ s.size) : (s.extract f s.size).extract 0 m = s.extract f e := by
  subst h
  rw [ByteArray.extract_extract]
  congr 1
  omega
end Go.Proofs.YtcbaioagcemmnaaDoor
