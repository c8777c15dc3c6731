/- Arguments that hold a list of numbers, dealt out to ranges or one by one; what SUM, COUNT, MIN, MAX make of them. -/
import Derived.Test.YtcbaioagcemmnaaDoorFunLInts
import Derived.Test.YtcbaioagcemmnaaDoorFunCount
import Derived.Test.YtcbaioagcemmnaaDoorFunBest
namespace Go.Proofs.YtcbaioagcemmnaaDoor
open Go.RowKit Go.Maps
/-- arguments in a row of the call's own -/
theorem atA_of_own {w : World} {base n c : Nat} {A : Option Addr} {l : List FArg} (h : w.ownsRow base 27 3 (.slice A n c) n (l.flatMap argCells)) (hl : l.length ≤ 9223372036854775807) (hn : l.length = n) (hv : ∀ a ∈ l, AtV w a.A a.vs) : AtA w A l := by
  refine ⟨hl, hv, fun hp => ?_⟩
  obtain ⟨g, cap, hv, hx⟩ := h.form (by omega)
  have hA : A = some ⟨g, 0, none⟩ := by injection hv
  subst hA
  refine ⟨g, 0, rfl, fun i x hx => ?_⟩
  have hi : i < l.length := (List.getElem?_eq_some_iff.1 hx).1
  obtain ⟨h0, h1, h2⟩ := argCells_get l i x hx
  rw [Nat.zero_add]
  exact ⟨(h.cellAt _ (by omega)).trans h0, (h.cellAt _ (by omega)).trans h1, (h.cellAt _ (by omega)).trans h2⟩
/-- a literal of arguments is a row of the call's own -/
theorem own_lit_args {w : World} {base : Nat} {l : List FArg} {cs : Array Value} (hb : base ≤ w.heap.size) (hc : cs.toList = l.flatMap argCells) (hs : cs.size = 3 * l.length) (hl : l.length ≤ maxLen) :
    (w.alloc (.cells cs 27)).ownsRow base 27 3 (.slice (some ⟨w.heap.size, 0, none⟩) l.length l.length) l.length (l.flatMap argCells) :=
  ⟨by rw [← hc]; simp [hs]; omega, .inr ⟨w.heap.size, l.length, cs, rfl, hb, heap_alloc_new w _, Nat.le_refl _, hl, by simp [hs]; omega, by rw [← hc, List.take_of_length_le]; simp [hs]; omega⟩⟩
theorem eArg : EInfo Tryd.prog 28 27 (.agg #[.bool false, .int .i64 0, .slice none 0 0]) 3 40 := ⟨Tryd.underlying28, by kernel_rfl, rfl, by decide, by decide⟩
/-- the arguments hold these numbers -/
structure SA (l : List Int) (as_ : List FArg) : Prop where
  vals : as_.flatMap FArg.vs = ivals l
  one : ∀ a ∈ as_, a.rg = false → a.vs.length = 1
  len : 1 ≤ as_.length
theorem SA.snoc {l : List Int} {i : Nat} {x : Int} {as_ : List FArg} (h : SA (l.take i) as_) (hx : l[i]? = some x) (g : Option Addr) : SA (l.take (i + 1)) (as_ ++ [oneArg g (1, x, ⟨#[]⟩)]) := by
  refine ⟨?_, ?_, by simp⟩
  · rw [List.flatMap_append, h.vals, ivals_snoc hx]
    rfl
  · intro a ha hr
    rcases List.mem_append.1 ha with ha | ha
    · exact h.one a ha hr
    · simp only [List.mem_cons, List.not_mem_nil, or_false] at ha
      subst ha
      rfl
theorem SA.first (l : List Int) (B : Option Addr) (c : Nat) : SA l [⟨true, 1, B, ivals l, c⟩] :=
  ⟨by simp, (fun a ha hr => by simp only [List.mem_cons, List.not_mem_nil, or_false] at ha; subst ha; cases hr), by simp⟩
theorem SA.both (l : List Int) (k : Nat) (B B' : Option Addr) (c c' : Nat) : SA l [⟨true, 1, B, ivals (l.take k), c⟩, ⟨true, 1, B', ivals (l.drop k), c'⟩] := by
  refine ⟨?_, (fun a ha hr => by simp only [List.mem_cons, List.not_mem_nil, or_false] at ha; rcases ha with rfl | rfl <;> cases hr), by simp⟩
  simp only [List.flatMap_cons, List.flatMap_nil, List.append_nil, ivals, ← List.map_append, List.take_append_drop]
section
variable {l : List Int} {as_ : List FArg}
theorem SA.ints (h : SA l as_) : intsOf as_ = ivals l := by unfold intsOf; rw [h.vals, filter_ivals]
theorem SA.mem (h : SA l as_) : ∀ a ∈ as_, ∀ v ∈ FArg.vs a, v.1 = 1 := fun a ha v hv => ivals_one v (h.vals ▸ List.mem_flatMap.2 ⟨a, ha, hv⟩)
theorem SA.cnt (h : SA l as_) : (as_.flatMap FArg.vs).length = l.length := by rw [h.vals, ivals_len]
theorem rule_sum (A : Option Addr) (n c : Nat) : (ruleTab A n c).atKey (.string (⟨#[83, 85, 77]⟩ : ByteArray).data.toList) .nil = .held (.agg #[.int .i64 1, .int .i64 9223372036854775807, .bool true, .bool true, .func (.func 17) #[.agg #[.slice A n c]] #[]]) := by kernel_rfl
theorem rule_count (A : Option Addr) (n c : Nat) : (ruleTab A n c).atKey (.string (⟨#[67, 79, 85, 78, 84]⟩ : ByteArray).data.toList) .nil = .held (.agg #[.int .i64 1, .int .i64 9223372036854775807, .bool true, .bool false, .func (.func 20) #[.agg #[.slice A n c]] #[]]) := by kernel_rfl
theorem rule_min (A : Option Addr) (n c : Nat) : (ruleTab A n c).atKey (.string (⟨#[77, 73, 78]⟩ : ByteArray).data.toList) .nil = .held (.agg #[.int .i64 1, .int .i64 9223372036854775807, .bool true, .bool true, .func (.func 18) #[.agg #[.slice A n c]] #[]]) := by kernel_rfl
theorem rule_max (A : Option Addr) (n c : Nat) : (ruleTab A n c).atKey (.string (⟨#[77, 65, 88]⟩ : ByteArray).data.toList) .nil = .held (.agg #[.int .i64 1, .int .i64 9223372036854775807, .bool true, .bool true, .func (.func 19) #[.agg #[.slice A n c]] #[]]) := by kernel_rfl
/-- Call at arguments that hold numbers -/
theorem callN (w : World) (A : Option Addr) (c : Nat) (h : SA l as_) (hA : AtA w A as_) (name : ByteArray) (hn : name.size ≤ maxLen) (td : Bool) (g : Nat)
    (hr : (ruleTab A as_.length c).atKey (.string name.data.toList) .nil = .held (.agg #[.int .i64 1, .int .i64 9223372036854775807, .bool true, .bool td, .func (.func g) #[.agg #[.slice A as_.length c]] #[]]))
    (rk rn : Int) (rs : ByteArray) (hg : ∀ us W, (callFunc g us).run Tryd.prog W = .ok (.enter g us) W)
    (hc : ∀ W, AtA W A as_ → Calls Tryd.prog g #[.agg #[.slice A as_.length c]] W fun e W' => e = .returned (.agg #[.int .i64 rk, .int .i64 rn, .string rs]) ∧ Below W.heap.size W W') :
    Calls Tryd.prog 12 #[.string name, .slice A as_.length c] w fun e w' => e = .returned (.agg #[.int .i64 rk, .int .i64 rn, .string rs]) ∧ Below w.heap.size w w' :=
  call_any w A as_ c name hn 1 9223372036854775807 true td g hr hA (by have := h.len; omega) (by have := hA.1; omega)
    (fun a ha => ⟨fun _ => rfl, fun hr => h.one a ha hr⟩) (fun a ha v hv _ => by rw [h.mem a ha v hv]; decide) rk rn rs hg (fun W hW => hc W (hA.below hW))
theorem call_sum (w : World) (A : Option Addr) (c : Nat) (h : SA l as_) (hA : AtA w A as_) (hl : l.length ≤ 1000) (hw : ∀ n ∈ l, InR n) (hs : ∀ k, InR (psum (ivals l) k)) :
    Calls Tryd.prog 12 #[.string ⟨#[83, 85, 77]⟩, .slice A as_.length c] w fun e w' => e = .returned (.agg #[.int .i64 1, .int .i64 (psum (ivals l) l.length), .string ⟨#[]⟩]) ∧ Below w.heap.size w w' :=
  callN w A c h hA _ (by unfold maxLen; decide) true _ (rule_sum A as_.length c) 1 _ _ (fun us W => run_enter Tryd.func17 (by kernel_rfl) rfl us W) (fun W hW => by
    have := sum_any W A as_ c hW (fun a ha v hv => .inl (h.mem a ha v hv)) (by rw [h.cnt]; omega)
      (by rw [h.ints]; intro v hv; obtain ⟨x, hx, rfl⟩ := List.mem_map.1 hv; exact hw x hx) (by rw [h.ints]; exact hs)
    rw [h.ints, ivals_len] at this
    exact this)
theorem call_count (w : World) (A : Option Addr) (c : Nat) (h : SA l as_) (hA : AtA w A as_) (hl : l.length ≤ 1000) :
    Calls Tryd.prog 12 #[.string ⟨#[67, 79, 85, 78, 84]⟩, .slice A as_.length c] w fun e w' => e = .returned (.agg #[.int .i64 1, .int .i64 l.length, .string ⟨#[]⟩]) ∧ Below w.heap.size w w' :=
  callN w A c h hA _ (by unfold maxLen; decide) false _ (rule_count A as_.length c) 1 _ _ (fun us W => run_enter Tryd.func20 (by kernel_rfl) rfl us W) (fun W hW => by
    have := count_any W A as_ c hW (by rw [h.cnt]; omega)
    rw [h.ints, ivals_len] at this
    exact this)
theorem call_min (w : World) (A : Option Addr) (c : Nat) (h : SA l as_) (hA : AtA w A as_) (hl : l.length ≤ 1000) :
    Calls Tryd.prog 12 #[.string ⟨#[77, 73, 78]⟩, .slice A as_.length c] w fun e w' => e = .returned (.agg #[.int .i64 1, .int .i64 (best (fun x y => decide (x < y)) (ivals l) l.length).2.1, .string (best (fun x y => decide (x < y)) (ivals l) l.length).2.2]) ∧ Below w.heap.size w w' :=
  callN w A c h hA _ (by unfold maxLen; decide) true _ (rule_min A as_.length c) 1 _ _ (fun us W => run_enter Tryd.func18 (by kernel_rfl) rfl us W) (fun W hW => by
    have := min_any W A as_ c hW (fun a ha v hv => .inl (h.mem a ha v hv)) (by rw [h.cnt]; omega)
    rw [h.ints, ivals_len] at this
    exact this)
theorem call_max (w : World) (A : Option Addr) (c : Nat) (h : SA l as_) (hA : AtA w A as_) (hl : l.length ≤ 1000) :
    Calls Tryd.prog 12 #[.string ⟨#[77, 65, 88]⟩, .slice A as_.length c] w fun e w' => e = .returned (.agg #[.int .i64 1, .int .i64 (best (fun x y => decide (x > y)) (ivals l) l.length).2.1, .string (best (fun x y => decide (x > y)) (ivals l) l.length).2.2]) ∧ Below w.heap.size w w' :=
  callN w A c h hA _ (by unfold maxLen; decide) true _ (rule_max A as_.length c) 1 _ _ (fun us W => run_enter Tryd.func19 (by kernel_rfl) rfl us W) (fun W hW => by
    have := max_any W A as_ c hW (fun a ha v hv => .inl (h.mem a ha v hv)) (by rw [h.cnt]; omega)
    rw [h.ints, ivals_len] at this
    exact this)
end
/-- the part of the numbers from a place on -/
theorem ivals_take (l : List Int) (k : Nat) : (ivals l).take k = ivals (l.take k) := by simp [ivals]
theorem ivals_drop (l : List Int) (k : Nat) : (ivals l).drop k = ivals (l.drop k) := by simp [ivals]
theorem atV_cut {w : World} {B : Option Addr} {l : List Int} {cap k : Nat} (h : AtV w B (ivals l)) (hc : l.length ≤ cap) (hk : k ≤ l.length) : AtV w (if cap = k then B else B.map (·.add (k * 3))) (ivals (l.drop k)) := by
  by_cases he : k = l.length
  · subst he
    rw [List.drop_length]
    exact AtV.nil _ _
  rw [if_neg (by omega)]
  obtain ⟨b, o, rfl, _⟩ := h.2 (by rw [ivals_len]; omega)
  have := h.drop k
  rw [ivals_drop] at this
  have e : (some (⟨b, o, none⟩ : Addr)).map (·.add (k * 3)) = some ⟨b, o + k * 3, none⟩ := by
    simp only [Option.map_some]
    congr 1
    unfold Addr.add
    split <;> simp_all
  rw [e]
  exact this
/-- values that read, in a block of values -/
def AV (w : World) (A : Option Addr) (l : List V3) : Prop :=
  AtV w A l ∧ (0 < l.length → ∃ ad cs fr, A = some ad ∧ w.heap[ad.block]? = some (.cells cs 31 fr))
theorem AV.below {w w' : World} {A : Option Addr} {l : List V3} (h : AV w A l) (hb : Below w.heap.size w w') : AV w' A l := by
  refine ⟨h.1.below hb, fun hn => ?_⟩
  obtain ⟨ad, cs, fr, rfl, hh⟩ := h.2 hn
  exact ⟨ad, cs, fr, rfl, (hb.block _ (Array.getElem?_eq_some_iff.1 hh).1).trans hh⟩
theorem AV.grown {w w' : World} {A : Option Addr} {l : List V3} (h : AV w A l) {base n : Nat} {v : Value} {xs : List Value} (ho : w.ownsRow base 27 3 v n xs) (hg : w.grownBy w' v.ownBlock) : AV w' A l := by
  refine ⟨⟨h.1.1, fun hn => ?_⟩, fun hn => ?_⟩
  · obtain ⟨b, o, rfl, hc⟩ := h.1.2 hn
    obtain ⟨ad, cs, fr, e, hh⟩ := h.2 hn
    injection e with e
    subst e
    have hb := grown_block ho hh (by decide) hg
    have hk : ∀ j, w'.cell? ⟨b, j, none⟩ = w.cell? ⟨b, j, none⟩ := fun j => by unfold World.cell?; rw [show w'.heap[b]? = _ from hb, show w.heap[b]? = _ from hh]
    exact ⟨b, o, rfl, fun i x hx => by rw [hk, hk, hk]; exact hc i x hx⟩
  · obtain ⟨ad, cs, fr, rfl, hh⟩ := h.2 hn
    exact ⟨ad, cs, fr, rfl, grown_block ho hh (by decide) hg⟩
theorem av_of_own {w : World} {base n c : Nat} {A : Option Addr} {l : List V3} (h : w.ownsRow base 31 3 (.slice A n c) n (cells3 l)) (hl : l.length ≤ 9223372036854775807) : AV w A l := by
  have h1 := atV_of_own h hl
  refine ⟨h1, fun hn => ?_⟩
  obtain ⟨b, o, rfl, _⟩ := h1.2 hn
  obtain ⟨cur, hcur⟩ := own_kind h (k := b) rfl
  exact ⟨_, cur, _, rfl, hcur⟩
theorem AV.take {w : World} {B : Option Addr} {l : List Int} (h : AV w B (ivals l)) (k : Nat) : AV w B (ivals (l.take k)) := by
  refine ⟨by rw [← ivals_take]; exact h.1.take k, fun hn => h.2 ?_⟩
  rw [ivals_len, List.length_take] at hn
  rw [ivals_len]
  omega
theorem AV.cut {w : World} {B : Option Addr} {l : List Int} {cap k : Nat} (h : AV w B (ivals l)) (hc : l.length ≤ cap) (hk : k ≤ l.length) : AV w (if cap = k then B else B.map (fun x => x.add (k * 3))) (ivals (l.drop k)) := by
  refine ⟨atV_cut h.1 hc hk, fun hn => ?_⟩
  rw [ivals_len, List.length_drop] at hn
  obtain ⟨ad, cs, fr, rfl, hh⟩ := h.2 (by rw [ivals_len]; omega)
  rw [if_neg (by omega)]
  exact ⟨_, cs, fr, rfl, by rw [block_of_add]; exact hh⟩
/-- law8.one, its block's kind too -/
theorem lone_av (w : World) (k n : Int) (s : ByteArray) : Calls Tryd.prog 11 #[.agg #[.int .i64 k, .int .i64 n, .string s]] w fun e w' => ∃ g, e = .returned (.agg #[.bool false, .int .i64 0, .slice (some ⟨g, 0, none⟩) 1 1]) ∧ Below w.heap.size w w' ∧ AV w' (some ⟨g, 0, none⟩) [(k, n, s)] := by
  go_enter Tryd.func11, Tryd.ntmps11
  go_wp2
  have hz := heap_alloc_new ((w.alloc (.cells #[.int .i64 k, .int .i64 n, .string s] 31)).alloc (.cells #[.bool false, .int .i64 0, .slice (some ⟨w.heap.size + 1 + 1, 0, none⟩) 1 1] 27)) (.cells #[.int .i64 k, .int .i64 n, .string s] 31)
  rw [World.size_alloc, World.size_alloc] at hz
  refine bodyPost_ret (v := .agg #[.bool false, .int .i64 0, .slice (some ⟨w.heap.size + 1 + 1, 0, none⟩) 1 1]) ?_ rfl ⟨w.heap.size + 1 + 1, rfl, (((Below.refl _ _).alloc (Nat.le_refl _) _).alloc (by simp) _).alloc (by simp; omega) _, ⟨⟨by simp, fun _ => ⟨_, 0, rfl, fun i x hx => ?_⟩⟩, fun _ => ⟨_, _, _, rfl, hz⟩⟩⟩
  · simp [results, Tryd.f11, go_sem]
  · obtain ⟨q0, q1, q2, _⟩ := val3 hz
    rcases i with _ | i
    · simp only [List.getElem?_cons_zero, Option.some.injEq] at hx
      subst hx
      exact ⟨by simpa using q0, by simpa using q1, by simpa using q2⟩
    · simp at hx
end Go.Proofs.YtcbaioagcemmnaaDoor
