/- fun.Call at a literal of one, two, three arguments of one value each. Written by funlitgen.py. -/
import Derived.Test.YtcbaioagcemmnaaDoorFunAwake
namespace Go.Proofs.YtcbaioagcemmnaaDoor
open Go.RowKit Go.Maps
set_option maxRecDepth 100000 in
theorem call1 (w : World) (g1 : Nat) (x1 : V3) (hv1 : AtV w (some ⟨g1, 0, none⟩) [x1]) (name : ByteArray) (hn : name.size ≤ maxLen) (least most : Int) (rg td : Bool) (g : Nat)
    (hr : (ruleTab (some ⟨w.heap.size, 0, none⟩) 1 1).atKey (.string name.data.toList) .nil = .held (.agg #[.int .i64 least, .int .i64 most, .bool rg, .bool td, .func (.func g) #[.agg #[.slice (some ⟨w.heap.size, 0, none⟩) 1 1]] #[]]))
    (h1 : least ≤ 1) (h2 : 1 ≤ most) (he : td = true → x1.1 ≠ 4) (rk rn : Int) (rs : ByteArray)
    (hg : ∀ us W, (callFunc g us).run Tryd.prog W = .ok (.enter g us) W)
    (hc : ∀ W, AtA W (some ⟨w.heap.size, 0, none⟩) [oneArg (some ⟨g1, 0, none⟩) x1] → Calls Tryd.prog g #[.agg #[.slice (some ⟨w.heap.size, 0, none⟩) 1 1]] W fun e W' => e = .returned (.agg #[.int .i64 rk, .int .i64 rn, .string rs]) ∧ Below W.heap.size W W') :
    Calls Tryd.prog 12 #[.string name, .slice (some ⟨w.heap.size, 0, none⟩) 1 1] (w.alloc (.cells #[.bool false, .int .i64 0, .slice (some ⟨g1, 0, none⟩) 1 1] 27)) fun e w' => e = .returned (.agg #[.int .i64 rk, .int .i64 rn, .string rs]) ∧ Below w.heap.size (w.alloc (.cells #[.bool false, .int .i64 0, .slice (some ⟨g1, 0, none⟩) 1 1] 27)) w' := by
  have hz := heap_alloc_new w (.cells #[.bool false, .int .i64 0, .slice (some ⟨g1, 0, none⟩) 1 1] 27)
  have hA : AtA (w.alloc (.cells #[.bool false, .int .i64 0, .slice (some ⟨g1, 0, none⟩) 1 1] 27)) (some ⟨w.heap.size, 0, none⟩) [oneArg (some ⟨g1, 0, none⟩) x1] :=
    atA_lit (by simp) hz rfl (fun a ha => by
      simp only [List.mem_cons, List.not_mem_nil, or_false] at ha
      rcases ha with rfl
      · exact hv1.below ((Below.refl _ _).alloc (Nat.le_refl _) _))
  refine (call_any _ _ [oneArg (some ⟨g1, 0, none⟩) x1] 1 name hn least most rg td g hr hA (by simpa using h1) (by simpa using h2) (fun a ha => by
      simp only [List.mem_cons, List.not_mem_nil, or_false] at ha
      rcases ha with rfl <;> exact ⟨fun h => absurd h (by simp [oneArg]), fun _ => rfl⟩) (fun a ha v hv ht => by
      simp only [List.mem_cons, List.not_mem_nil, or_false] at ha
      rcases ha with rfl
      · simp only [oneArg, List.mem_cons, List.not_mem_nil, or_false] at hv; subst hv; exact he ht) rk rn rs hg (fun W hW => hc W (hA.below hW))).mono ?_
  rintro e w' ⟨he, hb⟩
  exact ⟨he, hb.mono (by simp)⟩
set_option maxRecDepth 100000 in
theorem call2 (w : World) (g1 g2 : Nat) (x1 x2 : V3) (hv1 : AtV w (some ⟨g1, 0, none⟩) [x1]) (hv2 : AtV w (some ⟨g2, 0, none⟩) [x2]) (name : ByteArray) (hn : name.size ≤ maxLen) (least most : Int) (rg td : Bool) (g : Nat)
    (hr : (ruleTab (some ⟨w.heap.size, 0, none⟩) 2 2).atKey (.string name.data.toList) .nil = .held (.agg #[.int .i64 least, .int .i64 most, .bool rg, .bool td, .func (.func g) #[.agg #[.slice (some ⟨w.heap.size, 0, none⟩) 2 2]] #[]]))
    (h1 : least ≤ 2) (h2 : 2 ≤ most) (he : td = true → x1.1 ≠ 4 ∧ x2.1 ≠ 4) (rk rn : Int) (rs : ByteArray)
    (hg : ∀ us W, (callFunc g us).run Tryd.prog W = .ok (.enter g us) W)
    (hc : ∀ W, AtA W (some ⟨w.heap.size, 0, none⟩) [oneArg (some ⟨g1, 0, none⟩) x1, oneArg (some ⟨g2, 0, none⟩) x2] → Calls Tryd.prog g #[.agg #[.slice (some ⟨w.heap.size, 0, none⟩) 2 2]] W fun e W' => e = .returned (.agg #[.int .i64 rk, .int .i64 rn, .string rs]) ∧ Below W.heap.size W W') :
    Calls Tryd.prog 12 #[.string name, .slice (some ⟨w.heap.size, 0, none⟩) 2 2] (w.alloc (.cells #[.bool false, .int .i64 0, .slice (some ⟨g1, 0, none⟩) 1 1, .bool false, .int .i64 0, .slice (some ⟨g2, 0, none⟩) 1 1] 27)) fun e w' => e = .returned (.agg #[.int .i64 rk, .int .i64 rn, .string rs]) ∧ Below w.heap.size (w.alloc (.cells #[.bool false, .int .i64 0, .slice (some ⟨g1, 0, none⟩) 1 1, .bool false, .int .i64 0, .slice (some ⟨g2, 0, none⟩) 1 1] 27)) w' := by
  have hz := heap_alloc_new w (.cells #[.bool false, .int .i64 0, .slice (some ⟨g1, 0, none⟩) 1 1, .bool false, .int .i64 0, .slice (some ⟨g2, 0, none⟩) 1 1] 27)
  have hA : AtA (w.alloc (.cells #[.bool false, .int .i64 0, .slice (some ⟨g1, 0, none⟩) 1 1, .bool false, .int .i64 0, .slice (some ⟨g2, 0, none⟩) 1 1] 27)) (some ⟨w.heap.size, 0, none⟩) [oneArg (some ⟨g1, 0, none⟩) x1, oneArg (some ⟨g2, 0, none⟩) x2] :=
    atA_lit (by simp) hz rfl (fun a ha => by
      simp only [List.mem_cons, List.not_mem_nil, or_false] at ha
      rcases ha with rfl | rfl
      · exact hv1.below ((Below.refl _ _).alloc (Nat.le_refl _) _)
      · exact hv2.below ((Below.refl _ _).alloc (Nat.le_refl _) _))
  refine (call_any _ _ [oneArg (some ⟨g1, 0, none⟩) x1, oneArg (some ⟨g2, 0, none⟩) x2] 2 name hn least most rg td g hr hA (by simpa using h1) (by simpa using h2) (fun a ha => by
      simp only [List.mem_cons, List.not_mem_nil, or_false] at ha
      rcases ha with rfl | rfl <;> exact ⟨fun h => absurd h (by simp [oneArg]), fun _ => rfl⟩) (fun a ha v hv ht => by
      simp only [List.mem_cons, List.not_mem_nil, or_false] at ha
      rcases ha with rfl | rfl
      · simp only [oneArg, List.mem_cons, List.not_mem_nil, or_false] at hv; subst hv; exact (he ht).1
      · simp only [oneArg, List.mem_cons, List.not_mem_nil, or_false] at hv; subst hv; exact (he ht).2) rk rn rs hg (fun W hW => hc W (hA.below hW))).mono ?_
  rintro e w' ⟨he, hb⟩
  exact ⟨he, hb.mono (by simp)⟩
set_option maxRecDepth 100000 in
theorem call3 (w : World) (g1 g2 g3 : Nat) (x1 x2 x3 : V3) (hv1 : AtV w (some ⟨g1, 0, none⟩) [x1]) (hv2 : AtV w (some ⟨g2, 0, none⟩) [x2]) (hv3 : AtV w (some ⟨g3, 0, none⟩) [x3]) (name : ByteArray) (hn : name.size ≤ maxLen) (least most : Int) (rg td : Bool) (g : Nat)
    (hr : (ruleTab (some ⟨w.heap.size, 0, none⟩) 3 3).atKey (.string name.data.toList) .nil = .held (.agg #[.int .i64 least, .int .i64 most, .bool rg, .bool td, .func (.func g) #[.agg #[.slice (some ⟨w.heap.size, 0, none⟩) 3 3]] #[]]))
    (h1 : least ≤ 3) (h2 : 3 ≤ most) (he : td = true → x1.1 ≠ 4 ∧ x2.1 ≠ 4 ∧ x3.1 ≠ 4) (rk rn : Int) (rs : ByteArray)
    (hg : ∀ us W, (callFunc g us).run Tryd.prog W = .ok (.enter g us) W)
    (hc : ∀ W, AtA W (some ⟨w.heap.size, 0, none⟩) [oneArg (some ⟨g1, 0, none⟩) x1, oneArg (some ⟨g2, 0, none⟩) x2, oneArg (some ⟨g3, 0, none⟩) x3] → Calls Tryd.prog g #[.agg #[.slice (some ⟨w.heap.size, 0, none⟩) 3 3]] W fun e W' => e = .returned (.agg #[.int .i64 rk, .int .i64 rn, .string rs]) ∧ Below W.heap.size W W') :
    Calls Tryd.prog 12 #[.string name, .slice (some ⟨w.heap.size, 0, none⟩) 3 3] (w.alloc (.cells #[.bool false, .int .i64 0, .slice (some ⟨g1, 0, none⟩) 1 1, .bool false, .int .i64 0, .slice (some ⟨g2, 0, none⟩) 1 1, .bool false, .int .i64 0, .slice (some ⟨g3, 0, none⟩) 1 1] 27)) fun e w' => e = .returned (.agg #[.int .i64 rk, .int .i64 rn, .string rs]) ∧ Below w.heap.size (w.alloc (.cells #[.bool false, .int .i64 0, .slice (some ⟨g1, 0, none⟩) 1 1, .bool false, .int .i64 0, .slice (some ⟨g2, 0, none⟩) 1 1, .bool false, .int .i64 0, .slice (some ⟨g3, 0, none⟩) 1 1] 27)) w' := by
  have hz := heap_alloc_new w (.cells #[.bool false, .int .i64 0, .slice (some ⟨g1, 0, none⟩) 1 1, .bool false, .int .i64 0, .slice (some ⟨g2, 0, none⟩) 1 1, .bool false, .int .i64 0, .slice (some ⟨g3, 0, none⟩) 1 1] 27)
  have hA : AtA (w.alloc (.cells #[.bool false, .int .i64 0, .slice (some ⟨g1, 0, none⟩) 1 1, .bool false, .int .i64 0, .slice (some ⟨g2, 0, none⟩) 1 1, .bool false, .int .i64 0, .slice (some ⟨g3, 0, none⟩) 1 1] 27)) (some ⟨w.heap.size, 0, none⟩) [oneArg (some ⟨g1, 0, none⟩) x1, oneArg (some ⟨g2, 0, none⟩) x2, oneArg (some ⟨g3, 0, none⟩) x3] :=
    atA_lit (by simp) hz rfl (fun a ha => by
      simp only [List.mem_cons, List.not_mem_nil, or_false] at ha
      rcases ha with rfl | rfl | rfl
      · exact hv1.below ((Below.refl _ _).alloc (Nat.le_refl _) _)
      · exact hv2.below ((Below.refl _ _).alloc (Nat.le_refl _) _)
      · exact hv3.below ((Below.refl _ _).alloc (Nat.le_refl _) _))
  refine (call_any _ _ [oneArg (some ⟨g1, 0, none⟩) x1, oneArg (some ⟨g2, 0, none⟩) x2, oneArg (some ⟨g3, 0, none⟩) x3] 3 name hn least most rg td g hr hA (by simpa using h1) (by simpa using h2) (fun a ha => by
      simp only [List.mem_cons, List.not_mem_nil, or_false] at ha
      rcases ha with rfl | rfl | rfl <;> exact ⟨fun h => absurd h (by simp [oneArg]), fun _ => rfl⟩) (fun a ha v hv ht => by
      simp only [List.mem_cons, List.not_mem_nil, or_false] at ha
      rcases ha with rfl | rfl | rfl
      · simp only [oneArg, List.mem_cons, List.not_mem_nil, or_false] at hv; subst hv; exact (he ht).1
      · simp only [oneArg, List.mem_cons, List.not_mem_nil, or_false] at hv; subst hv; exact (he ht).2.1
      · simp only [oneArg, List.mem_cons, List.not_mem_nil, or_false] at hv; subst hv; exact (he ht).2.2) rk rn rs hg (fun W hW => hc W (hA.below hW))).mono ?_
  rintro e w' ⟨he, hb⟩
  exact ⟨he, hb.mono (by simp)⟩
end Go.Proofs.YtcbaioagcemmnaaDoor
