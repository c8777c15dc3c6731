/- The walk of FunTexts. Written by funtextsgen.py. -/
import Derived.Test.YtcbaioagcemmnaaDoorFunTextsA
namespace Go.Proofs.YtcbaioagcemmnaaDoor
open Go.RowKit Go.Maps
theorem atV_lt {W : World} {g : Nat} {v : V3} {l : List V3} (h : AtV W (some ⟨g, 0, none⟩) l) (hl : l = [v]) : g < W.heap.size := by
  subst hl
  obtain ⟨b, o, e, hc⟩ := h.2 (by simp)
  have hb : b = g := by injection e with e; injection e with e; exact e.symm
  subst hb
  exact World.block_lt_of_cell? W _ (hc 0 _ rfl).1
theorem load_i (p : Addr) (v : Value) (W : World) (h : W.cell? p = some v) : (Instr.loadAt 3 (.pointer (some p))).run Tryd.prog W = .ok v W := by simp [go_sem, h]
theorem load_s (p : Addr) (v : Value) (W : World) (h : W.cell? p = some v) : (Instr.loadAt 9 (.pointer (some p))).run Tryd.prog W = .ok v W := by simp [go_sem, h]
theorem field_nn (x y z : Value) (W : World) : (Instr.field 31 (.agg #[x, y, z]) 1).run Tryd.prog W = .ok y W := by kernel_rfl
set_option maxRecDepth 100000 in
set_option maxHeartbeats 4000000 in
theorem funTexts_walk (w : World) (s : ByteArray) (n at_ : Int) (_ : s.size ≤ maxLen) (hn : (Lit.int .u8 n).wf = true) (hat : (Lit.int .u8 at_).wf = true) :
    Calls Tryd.prog 5 #[.string s, .int .u8 n, .int .u8 at_] w fun e w' => e = .returned (.bool true) ∧ Below w.heap.size w w' := by
  have hn0 : 0 ≤ n ∧ n ≤ 255 := by simpa [Lit.wf, IntKind.min, IntKind.max, IntKind.signed, IntKind.bits] using hn
  have ha0 : 0 ≤ at_ ∧ at_ ≤ 255 := by simpa [Lit.wf, IntKind.min, IntKind.max, IntKind.signed, IntKind.bits] using hat
  by_cases hbig : 200 < s.size
  · have hd : decide (200 < (s.size : Int)) = true := decide_eq_true (by omega)
    clear hn0 ha0
    go_enter Tryd.func5, Tryd.ntmps5
    go_wp2_with fail
    refine (awake8 _).mono ?_
    rintro e w5 ⟨rfl, hb9⟩
    go_wp2
    go_ret
    exact ⟨rfl, hb9⟩
  have hd : decide (200 < (s.size : Int)) = false := decide_eq_false (by omega)
  have hs2 : s.size ≤ 200 := by omega
  obtain ⟨k, hk⟩ : ∃ k : Nat, n.tmod 60 = (k : Int) := ⟨(n.tmod 60).toNat, by rw [Int.toNat_of_nonneg (Int.tmod_nonneg _ hn0.1)]⟩
  obtain ⟨q, hq⟩ : ∃ q : Nat, at_.tmod 60 = (q : Int) := ⟨(at_.tmod 60).toNat, by rw [Int.toNat_of_nonneg (Int.tmod_nonneg _ ha0.1)]⟩
  have hk1 : k ≤ 59 := by
    have h1 := Int.tmod_lt_of_pos n (show (0 : Int) < 60 by omega)
    omega
  have hq1 : q ≤ 59 := by
    have h1 := Int.tmod_lt_of_pos at_ (show (0 : Int) < 60 by omega)
    omega
  obtain ⟨m, hm⟩ : ∃ m, m = min k s.size := ⟨_, rfl⟩
  have HM := Lib.hid hm
  clear hm
  obtain ⟨p, hp⟩ : ∃ p : Nat, (1 : Int) + (q : Int) = (p : Int) := ⟨1 + q, by omega⟩
  have hp1 : 1 ≤ p ∧ p ≤ 60 := by omega
  obtain ⟨f9, hf9⟩ : ∃ f, f = min (p - 1) s.size := ⟨_, rfl⟩
  obtain ⟨m9, hm9⟩ : ∃ m, m = min k (s.size - f9) := ⟨_, rfl⟩
  obtain ⟨e9, he9⟩ : ∃ e, e = f9 + m9 := ⟨_, rfl⟩
  have mn1 : min (k : Int) (s.size : Int) = (m : Int) := by have := HM.out; omega
  have mn2 : min ((p : Int) - 1) (s.size : Int) = (f9 : Int) := by omega
  have mn3 : min (s.size : Int) ((f9 : Int) + (k : Int)) = (e9 : Int) := by omega
  have HE := Lib.hid (show f9 + m9 = e9 ∧ e9 ≤ s.size by omega)
  have HF := Lib.hid hf9
  have HM9 := Lib.hid hm9
  have HB := Lib.hid (show m ≤ s.size ∧ f9 ≤ e9 ∧ e9 ≤ s.size by have := HM.out; omega)
  clear hf9 hm9 he9
  have wn : IntKind.i64.wrap n = n := by simp [IntKind.wrap, IntKind.signed, IntKind.bits]; omega
  have wa : IntKind.i64.wrap at_ = at_ := by simp [IntKind.wrap, IntKind.signed, IntKind.bits]; omega
  clear hn hat hn0 ha0 hbig
  have hb0 : Below w.heap.size w (w.alloc (.cells #[.int .i64 2, .int .i64 0, .string s] 31)) := (Below.refl _ _).alloc (Nat.le_refl _) _
  have hX := heap_alloc_new w (.cells #[.int .i64 2, .int .i64 0, .string s] 31)
  have hs0 := hb0.size
  go_enter Tryd.func5, Tryd.ntmps5
  go_wp2_with fail
  obtain ⟨X, hXe⟩ : ∃ X, w.heap.size = X := ⟨_, rfl⟩
  obtain ⟨w0, hw0⟩ : ∃ w0, w0 = w.alloc (.cells #[.int .i64 2, .int .i64 0, .string s] 31) := ⟨_, rfl⟩
  rw [hXe] at hX
  rw [← hw0] at hX hb0 hs0 ⊢
  rw [hXe]
  clear hw0
  have hXl := (Array.getElem?_eq_some_iff.1 hX).1
  refine (lone_any _ 1 k ⟨#[]⟩).mono ?_
  rintro e w1 ⟨g0, rfl, hbx, hv0⟩
  have hX := (hbx.block _ hXl).trans hX
  have hb1 := hb0.trans (hbx.mono hs0)
  clear hbx hb0 hs0 hXl
  have hXl := (Array.getElem?_eq_some_iff.1 hX).1
  have hs1 := hb1.size
  have hb2 := hb1.alloc hs1 (.cells #[.bool false, .int .i64 0, .slice (some ⟨g0, 0, none⟩) 1 1] 27)
  have hY := heap_alloc_new w1 (.cells #[.bool false, .int .i64 0, .slice (some ⟨g0, 0, none⟩) 1 1] 27)
  have hX := (Below.heap_alloc w1 (.cells #[.bool false, .int .i64 0, .slice (some ⟨g0, 0, none⟩) 1 1] 27) X hXl).trans hX
  have hv0 := hv0.below ((Below.refl _ _).alloc (Nat.le_refl _) (.cells #[.bool false, .int .i64 0, .slice (some ⟨g0, 0, none⟩) 1 1] 27))
  clear hXl
  go_wp2_with fail
  obtain ⟨Y, hYe⟩ : ∃ Y, w1.heap.size = Y := ⟨_, rfl⟩
  obtain ⟨w2, hw2⟩ : ∃ w2, w2 = w1.alloc (.cells #[.bool false, .int .i64 0, .slice (some ⟨g0, 0, none⟩) 1 1] 27) := ⟨_, rfl⟩
  rw [hYe] at hY
  rw [← hw2] at hX hY hb2 hv0 ⊢
  rw [hYe]
  clear hw2
  refine PH.wp_region_tree [12, 13] #[true, false, true, false, false, true, false, true, false, false, false, false, false, false] (.free 0 (.free 2 (.free 5 (.free 7 (.hole 10))))) (by kernel_rfl) (by kernel_rfl) (fun _ _ d _ _ h => by cases d <;> exact h) ?_
  obtain ⟨w3, hw3⟩ : ∃ w3, w3 = w2.drew := ⟨_, rfl⟩
  have hb3 : Below w.heap.size w w3 := hw3 ▸ hb2.drew
  have hX : w3.heap[X]? = _ := hw3 ▸ (show w2.drew.heap[X]? = _ from hX)
  have hY : w3.heap[Y]? = _ := hw3 ▸ (show w2.drew.heap[Y]? = _ from hY)
  have hv0 : AtV w3 (some ⟨g0, 0, none⟩) [(1, (k : Int), ⟨#[]⟩)] := hw3 ▸ (show AtV w2.drew _ _ from hv0)
  rw [← hw3]
  clear hw3 hb2
  have hXl := (Array.getElem?_eq_some_iff.1 hX).1
  have hYl := (Array.getElem?_eq_some_iff.1 hY).1
  conv => arg 5; whnf
  conv => arg 5; arg 1; whnf
  refine ph_loadB (k := X) (fun W h => load_val _ W _ _ _ (h.trans hX)) hXl (by rfl) rfl rfl ?_
  simp only [Act.put, List.setIfInBounds_toArray, List.set_cons_zero, List.set_cons_succ]
  conv => arg 5; whnf
  conv => arg 5; arg 1; whnf
  refine ph_loadB (k := Y) (fun W h => load_arg _ W _ _ _ (h.trans hY)) hYl (by rfl) rfl rfl ?_
  simp only [Act.put, List.setIfInBounds_toArray, List.set_cons_zero, List.set_cons_succ]
  conv => arg 5; whnf
  conv => arg 5; arg 1; whnf
  refine ph_loadB (k := X) (fun W h => load_val _ W _ _ _ (h.trans hX)) hXl (by rfl) rfl rfl ?_
  simp only [Act.put, List.setIfInBounds_toArray, List.set_cons_zero, List.set_cons_succ]
  conv => arg 5; whnf
  conv => arg 5; arg 1; whnf
  refine ph_loadB (k := Y) (fun W h => load_arg _ W _ _ _ (h.trans hY)) hYl (by rfl) rfl rfl ?_
  simp only [Act.put, List.setIfInBounds_toArray, List.set_cons_zero, List.set_cons_succ]
  have h0l := atV_lt hv0 rfl
  have HS3 := Lib.hid (show X < w3.heap.size ∧ Y < w3.heap.size ∧ g0 < w3.heap.size ∧ w.heap.size ≤ w3.heap.size from ⟨hXl, hYl, h0l, hb3.size⟩)
  clear hXl hYl h0l
  conv => arg 5; whnf
  refine ph_lin (D := [10, 11]) (ds := [11, 12]) (E := [1, 3, 4, 6, 8, 9]) (sl := fun i => i + 1) (cs := fun _ => .cells #[.int .i64 0, .int .i64 0, .string ⟨#[]⟩] 31) (n := 2) (by kernel_rfl) rfl rfl (by decide) (fun i _ j _ h => by simpa using h) (fun i hi a w K hK => by
    simp only [List.mem_cons, List.not_mem_nil, or_false] at hi
    rcases hi with rfl | rfl <;> exact alloc_wp rfl rfl (alloc_val _) hK) (fun _ _ w => heap_alloc_new w _) ?_
  refine pe_eff (fun u w4 hx K hK => ?_)
  conv => arg 2; whnf
  simp only [PA.putF, List.foldl_cons, List.foldl_nil, Act.put, List.setIfInBounds_toArray, List.set_cons_zero, List.set_cons_succ]
  have hX := (hx.block _ (Array.getElem?_eq_some_iff.1 hX).1).trans hX
  have hY := (hx.block _ (Array.getElem?_eq_some_iff.1 hY).1).trans hY
  have hv0 := hv0.below hx
  have hb3 := hb3.trans (hx.mono hb3.size)
  clear hx
  go_wp2_with fail
  refine (lone_any _ 2 0 s).mono ?_
  rintro e w5 ⟨g1, rfl, hy, hv1⟩
  refine hK _ _ (by intro d hd; simp only [List.mem_cons, List.not_mem_nil, or_false] at hd; rcases hd with rfl | rfl <;> rfl) hy ?_
  clear hK K
  have hX := (hy.block _ (Array.getElem?_eq_some_iff.1 hX).1).trans hX
  have hY := (hy.block _ (Array.getElem?_eq_some_iff.1 hY).1).trans hY
  have hv0 := hv0.below hy
  have hb3 := hb3.trans (hy.mono hb3.size)
  clear hy
  generalize w5 = wv at *
  refine pe_eff (fun u w4 hx K hK => ?_)
  conv => arg 2; whnf
  simp only [PA.putF, List.foldl_cons, List.foldl_nil, Act.put, List.setIfInBounds_toArray, List.set_cons_zero, List.set_cons_succ]
  have hX := (hx.block _ (Array.getElem?_eq_some_iff.1 hX).1).trans hX
  have hY := (hx.block _ (Array.getElem?_eq_some_iff.1 hY).1).trans hY
  have hv0 := hv0.below hx
  have hv1 := hv1.below hx
  have hb3 := hb3.trans (hx.mono hb3.size)
  clear hx
  go_wp2
  have hy : Ext w4 (w4.alloc (.cells #[.bool false, .int .i64 0, .slice (some ⟨g1, 0, none⟩) 1 1, .bool false, .int .i64 0, .slice (some ⟨g0, 0, none⟩) 1 1] 27)) := (Below.refl _ _).alloc (Nat.le_refl _) _
  have hA1 : AtA (w4.alloc (.cells #[.bool false, .int .i64 0, .slice (some ⟨g1, 0, none⟩) 1 1, .bool false, .int .i64 0, .slice (some ⟨g0, 0, none⟩) 1 1] 27)) (some ⟨w4.heap.size, 0, none⟩) [oneArg (some ⟨g1, 0, none⟩) (2, 0, s), oneArg (some ⟨g0, 0, none⟩) (1, (k : Int), ⟨#[]⟩)] := atA_lit (by simp) (heap_alloc_new w4 _) rfl (fun a ha => by
    simp only [List.mem_cons, List.not_mem_nil, or_false] at ha
    rcases ha with rfl | rfl
    · exact hv1.below hy
    · exact hv0.below hy)
  refine hK _ _ (by intro d hd; simp only [List.mem_cons, List.not_mem_nil, or_false] at hd; rcases hd with rfl | rfl <;> rfl) hy ?_
  clear hK K
  have hX := (hy.block _ (Array.getElem?_eq_some_iff.1 hX).1).trans hX
  have hY := (hy.block _ (Array.getElem?_eq_some_iff.1 hY).1).trans hY
  have hv0 := hv0.below hy
  have hv1 := hv1.below hy
  have hb3 := hb3.trans (hy.mono hb3.size)
  clear hy
  obtain ⟨G1, hG1⟩ : ∃ G1, w4.heap.size = G1 := ⟨_, rfl⟩
  rw [hG1] at hA1 ⊢
  clear hG1
  generalize w4.alloc (.cells #[.bool false, .int .i64 0, .slice (some ⟨g1, 0, none⟩) 1 1, .bool false, .int .i64 0, .slice (some ⟨g0, 0, none⟩) 1 1] 27) = wv at *
  refine pe_eff (fun u w4 hx K hK => ?_)
  conv => arg 2; whnf
  simp only [PA.putF, List.foldl_cons, List.foldl_nil, Act.put, List.setIfInBounds_toArray, List.set_cons_zero, List.set_cons_succ]
  have hX := (hx.block _ (Array.getElem?_eq_some_iff.1 hX).1).trans hX
  have hY := (hx.block _ (Array.getElem?_eq_some_iff.1 hY).1).trans hY
  have hv0 := hv0.below hx
  have hv1 := hv1.below hx
  have hA1 := hA1.below hx
  have hb3 := hb3.trans (hx.mono hb3.size)
  clear hx
  go_wp2_with fail
  refine (call_left _ G1 g1 g0 s k m hA1 hs2 (by omega) HM.out _ rfl).mono ?_
  rintro e w5 ⟨rfl, hy⟩
  refine hK _ _ (by intro d hd; simp only [List.mem_cons, List.not_mem_nil, or_false] at hd; rcases hd with rfl | rfl <;> rfl) hy ?_
  clear hK K
  have hX := (hy.block _ (Array.getElem?_eq_some_iff.1 hX).1).trans hX
  have hY := (hy.block _ (Array.getElem?_eq_some_iff.1 hY).1).trans hY
  have hv0 := hv0.below hy
  have hv1 := hv1.below hy
  have hA1 := hA1.below hy
  have hb3 := hb3.trans (hy.mono hb3.size)
  clear hy
  generalize w5 = wv at *
  clear hA1
  refine pe_eff (fun u w4 hx K hK => ?_)
  conv => arg 2; whnf
  simp only [PA.putF, List.foldl_cons, List.foldl_nil, Act.put, List.setIfInBounds_toArray, List.set_cons_zero, List.set_cons_succ]
  have hX := (hx.block _ (Array.getElem?_eq_some_iff.1 hX).1).trans hX
  have hY := (hx.block _ (Array.getElem?_eq_some_iff.1 hY).1).trans hY
  have hv0 := hv0.below hx
  have hv1 := hv1.below hx
  have hb3 := hb3.trans (hx.mono hb3.size)
  clear hx
  go_wp2_with fail
  refine (lone_any _ 2 0 s).mono ?_
  rintro e w5 ⟨g2, rfl, hy, hv2⟩
  refine hK _ _ (by intro d hd; simp only [List.mem_cons, List.not_mem_nil, or_false] at hd; rcases hd with rfl | rfl <;> rfl) hy ?_
  clear hK K
  have hX := (hy.block _ (Array.getElem?_eq_some_iff.1 hX).1).trans hX
  have hY := (hy.block _ (Array.getElem?_eq_some_iff.1 hY).1).trans hY
  have hv0 := hv0.below hy
  have hv1 := hv1.below hy
  have hb3 := hb3.trans (hy.mono hb3.size)
  clear hy
  generalize w5 = wv at *
  refine pe_eff (fun u w4 hx K hK => ?_)
  conv => arg 2; whnf
  simp only [PA.putF, List.foldl_cons, List.foldl_nil, Act.put, List.setIfInBounds_toArray, List.set_cons_zero, List.set_cons_succ]
  have hX := (hx.block _ (Array.getElem?_eq_some_iff.1 hX).1).trans hX
  have hY := (hx.block _ (Array.getElem?_eq_some_iff.1 hY).1).trans hY
  have hv0 := hv0.below hx
  have hv1 := hv1.below hx
  have hv2 := hv2.below hx
  have hb3 := hb3.trans (hx.mono hb3.size)
  clear hx
  go_wp2
  have hy : Ext w4 (w4.alloc (.cells #[.bool false, .int .i64 0, .slice (some ⟨g2, 0, none⟩) 1 1, .bool false, .int .i64 0, .slice (some ⟨g0, 0, none⟩) 1 1] 27)) := (Below.refl _ _).alloc (Nat.le_refl _) _
  have hA2 : AtA (w4.alloc (.cells #[.bool false, .int .i64 0, .slice (some ⟨g2, 0, none⟩) 1 1, .bool false, .int .i64 0, .slice (some ⟨g0, 0, none⟩) 1 1] 27)) (some ⟨w4.heap.size, 0, none⟩) [oneArg (some ⟨g2, 0, none⟩) (2, 0, s), oneArg (some ⟨g0, 0, none⟩) (1, (k : Int), ⟨#[]⟩)] := atA_lit (by simp) (heap_alloc_new w4 _) rfl (fun a ha => by
    simp only [List.mem_cons, List.not_mem_nil, or_false] at ha
    rcases ha with rfl | rfl
    · exact hv2.below hy
    · exact hv0.below hy)
  refine hK _ _ (by intro d hd; simp only [List.mem_cons, List.not_mem_nil, or_false] at hd; rcases hd with rfl | rfl <;> rfl) hy ?_
  clear hK K
  have hX := (hy.block _ (Array.getElem?_eq_some_iff.1 hX).1).trans hX
  have hY := (hy.block _ (Array.getElem?_eq_some_iff.1 hY).1).trans hY
  have hv0 := hv0.below hy
  have hv1 := hv1.below hy
  have hv2 := hv2.below hy
  have hb3 := hb3.trans (hy.mono hb3.size)
  clear hy
  obtain ⟨G2, hG2⟩ : ∃ G2, w4.heap.size = G2 := ⟨_, rfl⟩
  rw [hG2] at hA2 ⊢
  clear hG2
  generalize w4.alloc (.cells #[.bool false, .int .i64 0, .slice (some ⟨g2, 0, none⟩) 1 1, .bool false, .int .i64 0, .slice (some ⟨g0, 0, none⟩) 1 1] 27) = wv at *
  refine pe_eff (fun u w4 hx K hK => ?_)
  conv => arg 2; whnf
  simp only [PA.putF, List.foldl_cons, List.foldl_nil, Act.put, List.setIfInBounds_toArray, List.set_cons_zero, List.set_cons_succ]
  have hX := (hx.block _ (Array.getElem?_eq_some_iff.1 hX).1).trans hX
  have hY := (hx.block _ (Array.getElem?_eq_some_iff.1 hY).1).trans hY
  have hv0 := hv0.below hx
  have hv1 := hv1.below hx
  have hv2 := hv2.below hx
  have hA2 := hA2.below hx
  have hb3 := hb3.trans (hx.mono hb3.size)
  clear hx
  go_wp2_with fail
  refine (call_right _ G2 g2 g0 s k m hA2 hs2 (by omega) HM.out _ rfl).mono ?_
  rintro e w5 ⟨rfl, hy⟩
  refine hK _ _ (by intro d hd; simp only [List.mem_cons, List.not_mem_nil, or_false] at hd; rcases hd with rfl | rfl <;> rfl) hy ?_
  clear hK K
  have hX := (hy.block _ (Array.getElem?_eq_some_iff.1 hX).1).trans hX
  have hY := (hy.block _ (Array.getElem?_eq_some_iff.1 hY).1).trans hY
  have hv0 := hv0.below hy
  have hv1 := hv1.below hy
  have hv2 := hv2.below hy
  have hA2 := hA2.below hy
  have hb3 := hb3.trans (hy.mono hb3.size)
  clear hy
  generalize w5 = wv at *
  clear hA2 hv1 hv2
  refine pe_end (fun u w4 g hx hbx hne => ?_)
  have hX := (hx.block _ (Array.getElem?_eq_some_iff.1 hX).1).trans hX
  have hY := (hx.block _ (Array.getElem?_eq_some_iff.1 hY).1).trans hY
  have hv0 := hv0.below hx
  have hb3 := hb3.trans (hx.mono hb3.size)
  have hgg := hne 11 (by simp) 12 (by simp) (by decide)
  obtain ⟨e1, hB, hB1⟩ := hbx 11 (by simp)
  obtain ⟨e2, hC, hC1⟩ := hbx 12 (by simp)
  have hs3 := HS3.out
  clear hx hbx hne
  simp only [PA.putF, List.foldl_cons, List.foldl_nil, Act.put, List.setIfInBounds_toArray, List.set_cons_zero, List.set_cons_succ, e1, e2]
  clear e1 e2
  obtain ⟨GB, hGB⟩ : ∃ GB, g 11 = GB := ⟨_, rfl⟩
  obtain ⟨GC, hGC⟩ : ∃ GC, g 12 = GC := ⟨_, rfl⟩
  simp only [hGB, hGC] at hB hC hgg hB1 hC1 ⊢
  clear hGB hGC
  refine chain_last (i := 12) (j := 13) (by kernel_rfl) (by kernel_rfl) (by kernel_rfl) (by kernel_rfl) ?_
  conv => arg 2; whnf
  have hC2 := store_other (x := .int .i64 2) (y := .int .i64 0) (z := .string (s.extract 0 m)) hC hgg
  obtain ⟨r0, r1, r2, z0, z1, z2⟩ := val3 hB
  obtain ⟨q0, q1, q2, y0, y1, y2⟩ := val3 hC2
  have hBX : GB ≠ X := by omega
  have hBY : GB ≠ Y := by omega
  have hCX : GC ≠ X := by omega
  have hCY : GC ≠ Y := by omega
  have hB0 : GB ≠ g0 := by omega
  have hC0 : GC ≠ g0 := by omega
  have hbw : w.heap.size ≤ GB ∧ w.heap.size ≤ GC := by omega
  go_wp2
  have hB9 := store_other (x := .int .i64 2) (y := .int .i64 0) (z := .string (s.extract (s.size - m) s.size)) (val_store (x := .int .i64 2) (y := .int .i64 0) (z := .string (s.extract 0 m)) hB) (Ne.symm hgg)
  have hC9 := val_store (x := .int .i64 2) (y := .int .i64 0) (z := .string (s.extract (s.size - m) s.size)) hC2
  have hX9 := store_other (x := .int .i64 2) (y := .int .i64 0) (z := .string (s.extract (s.size - m) s.size)) (store_other (x := .int .i64 2) (y := .int .i64 0) (z := .string (s.extract 0 m)) hX hBX) hCX
  have hY9 := store_other (x := .int .i64 2) (y := .int .i64 0) (z := .string (s.extract (s.size - m) s.size)) (store_other (x := .int .i64 2) (y := .int .i64 0) (z := .string (s.extract 0 m)) hY hBY) hCY
  have hv9 := (hv0.store3 (x := .int .i64 2) (y := .int .i64 0) (z := .string (s.extract 0 m)) hB0).store3 (x := .int .i64 2) (y := .int .i64 0) (z := .string (s.extract (s.size - m) s.size)) hC0
  have hb9 := (((((hb3.setCell (p := ⟨GB, 0, none⟩) hbw.1 (.int .i64 2)).setCell (p := ⟨GB, 1, none⟩) hbw.1 (.int .i64 0)).setCell (p := ⟨GB, 2, none⟩) hbw.1 (.string (s.extract 0 m))).setCell (p := ⟨GC, 0, none⟩) hbw.2 (.int .i64 2)).setCell (p := ⟨GC, 1, none⟩) hbw.2 (.int .i64 0)).setCell (p := ⟨GC, 2, none⟩) hbw.2 (.string (s.extract (s.size - m) s.size))
  clear r0 r1 r2 z0 z1 z2 q0 q1 q2 y0 y1 y2 hBX hBY hCX hCY hB0 hC0 hbw hB1 hC1 hs3 hgg hC2 hB hC hX hY hv0 hb3 HS3
  obtain ⟨wz, hwz⟩ : ∃ wz, wz = ((((((w4.setCell ⟨GB, 0, none⟩ (.int .i64 2)).setCell ⟨GB, 1, none⟩ (.int .i64 0)).setCell ⟨GB, 2, none⟩ (.string (s.extract 0 m))).setCell ⟨GC, 0, none⟩ (.int .i64 2)).setCell ⟨GC, 1, none⟩ (.int .i64 0)).setCell ⟨GC, 2, none⟩ (.string (s.extract (s.size - m) s.size))) := ⟨_, rfl⟩
  rw [← hwz] at hB9 hC9 hX9 hY9 hv9 hb9 ⊢
  clear hwz
  refine PH.wp_region_tree [9] #[true, false, true, true, false, true, false, false, false, false] (.free 0 (.free 2 (.free 3 (.free 5 (.hole 6))))) (by kernel_rfl) (by kernel_rfl) (fun _ _ d _ _ h => by cases d <;> exact h) ?_
  obtain ⟨w3, hw3⟩ : ∃ w3, w3 = wz.drew := ⟨_, rfl⟩
  have hb3 : Below w.heap.size w w3 := hw3 ▸ hb9.drew
  have hX : w3.heap[X]? = _ := hw3 ▸ (show wz.drew.heap[X]? = _ from hX9)
  have hY : w3.heap[Y]? = _ := hw3 ▸ (show wz.drew.heap[Y]? = _ from hY9)
  have hB : w3.heap[GB]? = _ := hw3 ▸ (show wz.drew.heap[GB]? = _ from hB9)
  have hC : w3.heap[GC]? = _ := hw3 ▸ (show wz.drew.heap[GC]? = _ from hC9)
  have hv0 : AtV w3 (some ⟨g0, 0, none⟩) [(1, (k : Int), ⟨#[]⟩)] := hw3 ▸ (show AtV wz.drew _ _ from hv9)
  rw [← hw3]
  clear hw3 hb9 hX9 hY9 hB9 hC9 hv9
  have hXl := (Array.getElem?_eq_some_iff.1 hX).1
  have hYl := (Array.getElem?_eq_some_iff.1 hY).1
  have hBl := (Array.getElem?_eq_some_iff.1 hB).1
  have hCl := (Array.getElem?_eq_some_iff.1 hC).1
  conv => arg 5; whnf
  conv => arg 5; arg 1; whnf
  refine ph_loadB (k := X) (fun W h => load_val _ W _ _ _ (h.trans hX)) hXl (by rfl) rfl rfl ?_
  simp only [Act.put, List.setIfInBounds_toArray, List.set_cons_zero, List.set_cons_succ]
  conv => arg 5; whnf
  conv => arg 5; arg 1; whnf
  refine PH.pt_free (by rfl) (fun K hK => ?_)
  go_big_quiet_op
  first | (refine hK _ ?_; clear hK K) | (refine ⟨_, fun _ _ => rfl, hK _ ?_⟩; clear hK K)
  conv => arg 5; whnf
  conv => arg 5; arg 1; whnf
  refine PH.pt_free (by rfl) (fun K hK => ?_)
  go_big_quiet_op
  first | (refine hK _ ?_; clear hK K) | (refine ⟨_, fun _ _ => rfl, hK _ ?_⟩; clear hK K)
  conv => arg 5; whnf
  conv => arg 5; arg 1; whnf
  refine ph_loadB (k := Y) (fun W h => load_arg _ W _ _ _ (h.trans hY)) hYl (by rfl) rfl rfl ?_
  simp only [Act.put, List.setIfInBounds_toArray, List.set_cons_zero, List.set_cons_succ]
  have h0l := atV_lt hv0 rfl
  have HS3 := Lib.hid (show X < w3.heap.size ∧ Y < w3.heap.size ∧ g0 < w3.heap.size ∧ GB < w3.heap.size ∧ GC < w3.heap.size ∧ w.heap.size ≤ w3.heap.size from ⟨hXl, hYl, h0l, hBl, hCl, hb3.size⟩)
  clear hXl hYl h0l hBl hCl
  conv => arg 5; whnf
  refine ph_lin (D := [8]) (ds := [13]) (E := [1, 4, 6, 7]) (sl := fun i => i + 5) (cs := fun _ => .cells #[.int .i64 0, .int .i64 0, .string ⟨#[]⟩] 31) (n := 1) (by kernel_rfl) rfl rfl (by decide) (fun i _ j _ h => by simpa using h) (fun i hi a w K hK => by
    simp only [List.mem_cons, List.not_mem_nil, or_false] at hi
    subst hi
    exact alloc_wp rfl rfl (alloc_val _) hK) (fun _ _ w => heap_alloc_new w _) ?_
  refine pe_eff (fun u w4 hx K hK => ?_)
  conv => arg 2; whnf
  simp only [PA.putF, List.foldl_cons, List.foldl_nil, Act.put, List.setIfInBounds_toArray, List.set_cons_zero, List.set_cons_succ]
  have hX := (hx.block _ (Array.getElem?_eq_some_iff.1 hX).1).trans hX
  have hY := (hx.block _ (Array.getElem?_eq_some_iff.1 hY).1).trans hY
  have hB := (hx.block _ (Array.getElem?_eq_some_iff.1 hB).1).trans hB
  have hC := (hx.block _ (Array.getElem?_eq_some_iff.1 hC).1).trans hC
  have hv0 := hv0.below hx
  have hb3 := hb3.trans (hx.mono hb3.size)
  clear hx
  go_wp2_with fail
  refine (lone_any _ 2 0 s).mono ?_
  rintro e w5 ⟨g1, rfl, hy, hv1⟩
  refine hK _ _ (by intro d hd; simp only [List.mem_cons, List.not_mem_nil, or_false] at hd; subst hd; rfl) hy ?_
  clear hK K
  have hX := (hy.block _ (Array.getElem?_eq_some_iff.1 hX).1).trans hX
  have hY := (hy.block _ (Array.getElem?_eq_some_iff.1 hY).1).trans hY
  have hB := (hy.block _ (Array.getElem?_eq_some_iff.1 hB).1).trans hB
  have hC := (hy.block _ (Array.getElem?_eq_some_iff.1 hC).1).trans hC
  have hv0 := hv0.below hy
  have hb3 := hb3.trans (hy.mono hb3.size)
  clear hy
  generalize w5 = wv at *
  refine pe_eff (fun u w4 hx K hK => ?_)
  conv => arg 2; whnf
  simp only [PA.putF, List.foldl_cons, List.foldl_nil, Act.put, List.setIfInBounds_toArray, List.set_cons_zero, List.set_cons_succ]
  have hX := (hx.block _ (Array.getElem?_eq_some_iff.1 hX).1).trans hX
  have hY := (hx.block _ (Array.getElem?_eq_some_iff.1 hY).1).trans hY
  have hB := (hx.block _ (Array.getElem?_eq_some_iff.1 hB).1).trans hB
  have hC := (hx.block _ (Array.getElem?_eq_some_iff.1 hC).1).trans hC
  have hv0 := hv0.below hx
  have hv1 := hv1.below hx
  have hb3 := hb3.trans (hx.mono hb3.size)
  clear hx
  go_wp2_with fail
  refine (lone_any _ 1 p ⟨#[]⟩).mono ?_
  rintro e w5 ⟨g2, rfl, hy, hv2⟩
  refine hK _ _ (by intro d hd; simp only [List.mem_cons, List.not_mem_nil, or_false] at hd; subst hd; rfl) hy ?_
  clear hK K
  have hX := (hy.block _ (Array.getElem?_eq_some_iff.1 hX).1).trans hX
  have hY := (hy.block _ (Array.getElem?_eq_some_iff.1 hY).1).trans hY
  have hB := (hy.block _ (Array.getElem?_eq_some_iff.1 hB).1).trans hB
  have hC := (hy.block _ (Array.getElem?_eq_some_iff.1 hC).1).trans hC
  have hv0 := hv0.below hy
  have hv1 := hv1.below hy
  have hb3 := hb3.trans (hy.mono hb3.size)
  clear hy
  generalize w5 = wv at *
  refine pe_eff (fun u w4 hx K hK => ?_)
  conv => arg 2; whnf
  simp only [PA.putF, List.foldl_cons, List.foldl_nil, Act.put, List.setIfInBounds_toArray, List.set_cons_zero, List.set_cons_succ]
  have hX := (hx.block _ (Array.getElem?_eq_some_iff.1 hX).1).trans hX
  have hY := (hx.block _ (Array.getElem?_eq_some_iff.1 hY).1).trans hY
  have hB := (hx.block _ (Array.getElem?_eq_some_iff.1 hB).1).trans hB
  have hC := (hx.block _ (Array.getElem?_eq_some_iff.1 hC).1).trans hC
  have hv0 := hv0.below hx
  have hv1 := hv1.below hx
  have hv2 := hv2.below hx
  have hb3 := hb3.trans (hx.mono hb3.size)
  clear hx
  go_wp2
  have hy : Ext w4 (w4.alloc (.cells #[.bool false, .int .i64 0, .slice (some ⟨g1, 0, none⟩) 1 1, .bool false, .int .i64 0, .slice (some ⟨g2, 0, none⟩) 1 1, .bool false, .int .i64 0, .slice (some ⟨g0, 0, none⟩) 1 1] 27)) := (Below.refl _ _).alloc (Nat.le_refl _) _
  have hA1 : AtA (w4.alloc (.cells #[.bool false, .int .i64 0, .slice (some ⟨g1, 0, none⟩) 1 1, .bool false, .int .i64 0, .slice (some ⟨g2, 0, none⟩) 1 1, .bool false, .int .i64 0, .slice (some ⟨g0, 0, none⟩) 1 1] 27)) (some ⟨w4.heap.size, 0, none⟩) [oneArg (some ⟨g1, 0, none⟩) (2, 0, s), oneArg (some ⟨g2, 0, none⟩) (1, (p : Int), ⟨#[]⟩), oneArg (some ⟨g0, 0, none⟩) (1, (k : Int), ⟨#[]⟩)] := atA_lit (by simp) (heap_alloc_new w4 _) rfl (fun a ha => by
    simp only [List.mem_cons, List.not_mem_nil, or_false] at ha
    rcases ha with rfl | rfl | rfl
    · exact hv1.below hy
    · exact hv2.below hy
    · exact hv0.below hy)
  refine hK _ _ (by intro d hd; simp only [List.mem_cons, List.not_mem_nil, or_false] at hd; subst hd; rfl) hy ?_
  clear hK K
  have hX := (hy.block _ (Array.getElem?_eq_some_iff.1 hX).1).trans hX
  have hY := (hy.block _ (Array.getElem?_eq_some_iff.1 hY).1).trans hY
  have hB := (hy.block _ (Array.getElem?_eq_some_iff.1 hB).1).trans hB
  have hC := (hy.block _ (Array.getElem?_eq_some_iff.1 hC).1).trans hC
  have hv0 := hv0.below hy
  have hv1 := hv1.below hy
  have hv2 := hv2.below hy
  have hb3 := hb3.trans (hy.mono hb3.size)
  clear hy
  obtain ⟨G3, hG3⟩ : ∃ G3, w4.heap.size = G3 := ⟨_, rfl⟩
  rw [hG3] at hA1 ⊢
  clear hG3
  generalize w4.alloc (.cells #[.bool false, .int .i64 0, .slice (some ⟨g1, 0, none⟩) 1 1, .bool false, .int .i64 0, .slice (some ⟨g2, 0, none⟩) 1 1, .bool false, .int .i64 0, .slice (some ⟨g0, 0, none⟩) 1 1] 27) = wv at *
  refine pe_eff (fun u w4 hx K hK => ?_)
  conv => arg 2; whnf
  simp only [PA.putF, List.foldl_cons, List.foldl_nil, Act.put, List.setIfInBounds_toArray, List.set_cons_zero, List.set_cons_succ]
  have hX := (hx.block _ (Array.getElem?_eq_some_iff.1 hX).1).trans hX
  have hY := (hx.block _ (Array.getElem?_eq_some_iff.1 hY).1).trans hY
  have hB := (hx.block _ (Array.getElem?_eq_some_iff.1 hB).1).trans hB
  have hC := (hx.block _ (Array.getElem?_eq_some_iff.1 hC).1).trans hC
  have hv0 := hv0.below hx
  have hv1 := hv1.below hx
  have hv2 := hv2.below hx
  have hA1 := hA1.below hx
  have hb3 := hb3.trans (hx.mono hb3.size)
  clear hx
  go_wp2_with fail
  refine (call_mid _ G3 g1 g2 g0 s k p f9 m9 hA1 hs2 (by omega) hp1.1 (by omega) HF.out HM9.out _ (part_part s f9 m9 e9 HE.out.1 HE.out.2).symm).mono ?_
  rintro e w5 ⟨rfl, hy⟩
  refine hK _ _ (by intro d hd; simp only [List.mem_cons, List.not_mem_nil, or_false] at hd; subst hd; rfl) hy ?_
  clear hK K
  have hX := (hy.block _ (Array.getElem?_eq_some_iff.1 hX).1).trans hX
  have hY := (hy.block _ (Array.getElem?_eq_some_iff.1 hY).1).trans hY
  have hB := (hy.block _ (Array.getElem?_eq_some_iff.1 hB).1).trans hB
  have hC := (hy.block _ (Array.getElem?_eq_some_iff.1 hC).1).trans hC
  have hv0 := hv0.below hy
  have hv1 := hv1.below hy
  have hv2 := hv2.below hy
  have hA1 := hA1.below hy
  have hb3 := hb3.trans (hy.mono hb3.size)
  clear hy
  generalize w5 = wv at *
  clear hA1 hv1 hv2
  refine pe_end (fun u w4 g hx hbx hne => ?_)
  have hX := (hx.block _ (Array.getElem?_eq_some_iff.1 hX).1).trans hX
  have hY := (hx.block _ (Array.getElem?_eq_some_iff.1 hY).1).trans hY
  have hB := (hx.block _ (Array.getElem?_eq_some_iff.1 hB).1).trans hB
  have hC := (hx.block _ (Array.getElem?_eq_some_iff.1 hC).1).trans hC
  have hv0 := hv0.below hx
  have hb3 := hb3.trans (hx.mono hb3.size)
  obtain ⟨e1, hD, hD1⟩ := hbx 13 (by simp)
  have hs3 := HS3.out
  clear hx hbx hne
  simp only [PA.putF, List.foldl_cons, List.foldl_nil, Act.put, List.setIfInBounds_toArray, List.set_cons_zero, List.set_cons_succ, e1]
  clear e1
  obtain ⟨GD, hGD⟩ : ∃ GD, g 13 = GD := ⟨_, rfl⟩
  simp only [hGD] at hD hD1 ⊢
  clear hGD
  refine one_last (i := 9) (by kernel_rfl) (by kernel_rfl) (by kernel_rfl) ?_
  conv => arg 2; whnf
  obtain ⟨r0, r1, r2, z0, z1, z2⟩ := val3 hD
  have hDX : GD ≠ X := by omega
  have hDB : GD ≠ GB := by omega
  have hDC : GD ≠ GC := by omega
  have hbw : w.heap.size ≤ GD := by omega
  go_wp2_with fail
  have hD9 := val_store (x := .int .i64 2) (y := .int .i64 0) (z := .string (s.extract f9 e9)) hD
  have hB9 := store_other (x := .int .i64 2) (y := .int .i64 0) (z := .string (s.extract f9 e9)) hB hDB
  have hC9 := store_other (x := .int .i64 2) (y := .int .i64 0) (z := .string (s.extract f9 e9)) hC hDC
  have hX9 := store_other (x := .int .i64 2) (y := .int .i64 0) (z := .string (s.extract f9 e9)) hX hDX
  have hb9 := ((hb3.setCell (p := ⟨GD, 0, none⟩) hbw (.int .i64 2)).setCell (p := ⟨GD, 1, none⟩) hbw (.int .i64 0)).setCell (p := ⟨GD, 2, none⟩) hbw (.string (s.extract f9 e9))
  clear r0 r1 r2 z0 z1 z2 hDX hDB hDC hbw hD1 hs3 hD hB hC hX hY hv0 hb3 HS3
  obtain ⟨wz, hwz⟩ : ∃ wz, wz = (((w4.setCell ⟨GD, 0, none⟩ (.int .i64 2)).setCell ⟨GD, 1, none⟩ (.int .i64 0)).setCell ⟨GD, 2, none⟩ (.string (s.extract f9 e9))) := ⟨_, rfl⟩
  rw [← hwz] at hB9 hC9 hX9 hD9 hb9 ⊢
  clear hwz
  refine wp_region_tree [] (.free 0 (.free 1 (.free 2 (.free 3 (.free 4 (.free 5 (.free 6 (.free 7 (.free 8 (.free 9 (.free 10 (.free 11 (.free 12 (.free 13 (.free 14 (.free 15 (.free 16 (.free 17 (.free 18 (.free 19 (.free 20 (.free 21 (.free 22 (.free 23 (.free 24 (.free 25 (.free 26 (.free 27 (.free 28 (.free 29 (.free 30 (.free 31 (.free 32 (.free 37 (.free 38 (.eff 33 (.eff 34 (.eff 35 (.free 36 (.free 39 (.free 40 (.free 41 (.eff 42 (.free 43 (.free 44 .nil))))))))))))))))))))))))))))))))))))))))))))) (by kernel_rfl) (by kernel_rfl) (fun _ _ d _ _ h => by cases d <;> exact h) ?_
  obtain ⟨wv, hwv⟩ : ∃ wv, wv = wz.drew := ⟨_, rfl⟩
  have hb3 : Below w.heap.size w wv := hwv ▸ hb9.drew
  have hX : wv.heap[X]? = _ := hwv ▸ (show wz.drew.heap[X]? = _ from hX9)
  have hB : wv.heap[GB]? = _ := hwv ▸ (show wz.drew.heap[GB]? = _ from hB9)
  have hC : wv.heap[GC]? = _ := hwv ▸ (show wz.drew.heap[GC]? = _ from hC9)
  have hD : wv.heap[GD]? = _ := hwv ▸ (show wz.drew.heap[GD]? = _ from hD9)
  rw [← hwv]
  clear hwv hb9 hX9 hB9 hC9 hD9
  have hXl := (Array.getElem?_eq_some_iff.1 hX).1
  have hBl := (Array.getElem?_eq_some_iff.1 hB).1
  have hCl := (Array.getElem?_eq_some_iff.1 hC).1
  have hDl := (Array.getElem?_eq_some_iff.1 hD).1
  obtain ⟨b0, _, b2, _⟩ := val3 hB
  obtain ⟨_, _, c2, _⟩ := val3 hC
  obtain ⟨_, _, d2, _⟩ := val3 hD
  have hbnd := HB.out
  have hfld := field_nn
  conv => arg 4; whnf
  conv => arg 4; arg 1; whnf
  refine pt_free (by rfl) (fun K hK => ?_)
  go_big_quiet_op
  first | (refine hK _ ?_; clear hK K) | (refine ⟨_, fun _ _ => rfl, hK _ ?_⟩; clear hK K)
  conv => arg 4; whnf
  conv => arg 4; arg 1; whnf
  refine pt_load (fun W h => load_i _ _ W h) (p := ⟨GB, 0, none⟩) b0 hBl (by rfl) rfl rfl ?_
  simp only [Act.put, List.setIfInBounds_toArray, List.set_cons_zero, List.set_cons_succ]
  conv => arg 4; whnf
  conv => arg 4; arg 1; whnf
  refine pt_free (by rfl) (fun K hK => ?_)
  go_big_quiet_op
  first | (refine hK _ ?_; clear hK K) | (refine ⟨_, fun _ _ => rfl, hK _ ?_⟩; clear hK K)
  conv => arg 4; whnf
  conv => arg 4; arg 1; whnf
  refine pt_free (by rfl) (fun K hK => ?_)
  go_big_quiet_op
  first | (refine hK _ ?_; clear hK K) | (refine ⟨_, fun _ _ => rfl, hK _ ?_⟩; clear hK K)
  conv => arg 4; whnf
  conv => arg 4; arg 1; whnf
  refine pt_free (by rfl) (fun K hK => ?_)
  go_big_quiet_op
  first | (refine hK _ ?_; clear hK K) | (refine ⟨_, fun _ _ => rfl, hK _ ?_⟩; clear hK K)
  conv => arg 4; whnf
  conv => arg 4; arg 1; whnf
  refine pt_load (fun W h => load_s _ _ W h) (p := ⟨GB, 2, none⟩) b2 hBl (by rfl) rfl rfl ?_
  simp only [Act.put, List.setIfInBounds_toArray, List.set_cons_zero, List.set_cons_succ]
  conv => arg 4; whnf
  conv => arg 4; arg 1; whnf
  refine pt_free (by rfl) (fun K hK => ?_)
  go_big_quiet_op
  first | (refine hK _ ?_; clear hK K) | (refine ⟨_, fun _ _ => rfl, hK _ ?_⟩; clear hK K)
  conv => arg 4; whnf
  conv => arg 4; arg 1; whnf
  refine pt_free (by rfl) (fun K hK => ?_)
  go_big_quiet_op
  first | (refine hK _ ?_; clear hK K) | (refine ⟨_, fun _ _ => rfl, hK _ ?_⟩; clear hK K)
  conv => arg 4; whnf
  conv => arg 4; arg 1; whnf
  refine pt_free (by rfl) (fun K hK => ?_)
  go_big_quiet_op
  first | (refine hK _ ?_; clear hK K) | (refine ⟨_, fun _ _ => rfl, hK _ ?_⟩; clear hK K)
  conv => arg 4; whnf
  conv => arg 4; arg 1; whnf
  refine pt_free (by rfl) (fun K hK => ?_)
  go_big_quiet_op
  first | (refine hK _ ?_; clear hK K) | (refine ⟨_, fun _ _ => rfl, hK _ ?_⟩; clear hK K)
  conv => arg 4; whnf
  conv => arg 4; arg 1; whnf
  refine pt_free (by rfl) (fun K hK => ?_)
  go_big_quiet_op
  first | (refine hK _ ?_; clear hK K) | (refine ⟨_, fun _ _ => rfl, hK _ ?_⟩; clear hK K)
  conv => arg 4; whnf
  conv => arg 4; arg 1; whnf
  refine pt_free (by rfl) (fun K hK => ?_)
  go_big_quiet_op
  first | (refine hK _ ?_; clear hK K) | (refine ⟨_, fun _ _ => rfl, hK _ ?_⟩; clear hK K)
  conv => arg 4; whnf
  conv => arg 4; arg 1; whnf
  refine pt_free (by rfl) (fun K hK => ?_)
  go_big_quiet_op
  first | (refine hK _ ?_; clear hK K) | (refine ⟨_, fun _ _ => rfl, hK _ ?_⟩; clear hK K)
  conv => arg 4; whnf
  conv => arg 4; arg 1; whnf
  refine pt_load (fun W h => load_s _ _ W h) (p := ⟨GC, 2, none⟩) c2 hCl (by rfl) rfl rfl ?_
  simp only [Act.put, List.setIfInBounds_toArray, List.set_cons_zero, List.set_cons_succ]
  conv => arg 4; whnf
  conv => arg 4; arg 1; whnf
  refine pt_free (by rfl) (fun K hK => ?_)
  go_big_quiet_op
  first | (refine hK _ ?_; clear hK K) | (refine ⟨_, fun _ _ => rfl, hK _ ?_⟩; clear hK K)
  conv => arg 4; whnf
  conv => arg 4; arg 1; whnf
  refine pt_free (by rfl) (fun K hK => ?_)
  go_big_quiet_op
  first | (refine hK _ ?_; clear hK K) | (refine ⟨_, fun _ _ => rfl, hK _ ?_⟩; clear hK K)
  conv => arg 4; whnf
  conv => arg 4; arg 1; whnf
  refine pt_free (by rfl) (fun K hK => ?_)
  go_big_quiet_op
  first | (refine hK _ ?_; clear hK K) | (refine ⟨_, fun _ _ => rfl, hK _ ?_⟩; clear hK K)
  conv => arg 4; whnf
  conv => arg 4; arg 1; whnf
  refine pt_free (by rfl) (fun K hK => ?_)
  go_big_quiet_op
  first | (refine hK _ ?_; clear hK K) | (refine ⟨_, fun _ _ => rfl, hK _ ?_⟩; clear hK K)
  conv => arg 4; whnf
  conv => arg 4; arg 1; whnf
  refine pt_free (by rfl) (fun K hK => ?_)
  go_big_quiet_op
  first | (refine hK _ ?_; clear hK K) | (refine ⟨_, fun _ _ => rfl, hK _ ?_⟩; clear hK K)
  conv => arg 4; whnf
  conv => arg 4; arg 1; whnf
  refine pt_free (by rfl) (fun K hK => ?_)
  go_big_quiet_op
  first | (refine hK _ ?_; clear hK K) | (refine ⟨_, fun _ _ => rfl, hK _ ?_⟩; clear hK K)
  conv => arg 4; whnf
  conv => arg 4; arg 1; whnf
  refine pt_free (by rfl) (fun K hK => ?_)
  go_big_quiet_op
  first | (refine hK _ ?_; clear hK K) | (refine ⟨_, fun _ _ => rfl, hK _ ?_⟩; clear hK K)
  conv => arg 4; whnf
  conv => arg 4; arg 1; whnf
  refine pt_free (by rfl) (fun K hK => ?_)
  go_big_quiet_op
  first | (refine hK _ ?_; clear hK K) | (refine ⟨_, fun _ _ => rfl, hK _ ?_⟩; clear hK K)
  conv => arg 4; whnf
  conv => arg 4; arg 1; whnf
  refine pt_free (by rfl) (fun K hK => ?_)
  go_big_quiet_op
  first | (refine hK _ ?_; clear hK K) | (refine ⟨_, fun _ _ => rfl, hK _ ?_⟩; clear hK K)
  conv => arg 4; whnf
  conv => arg 4; arg 1; whnf
  refine pt_free (by rfl) (fun K hK => ?_)
  go_big_quiet_op
  first | (refine hK _ ?_; clear hK K) | (refine ⟨_, fun _ _ => rfl, hK _ ?_⟩; clear hK K)
  conv => arg 4; whnf
  conv => arg 4; arg 1; whnf
  refine pt_load (fun W h => load_s _ _ W h) (p := ⟨GD, 2, none⟩) d2 hDl (by rfl) rfl rfl ?_
  simp only [Act.put, List.setIfInBounds_toArray, List.set_cons_zero, List.set_cons_succ]
  conv => arg 4; whnf
  conv => arg 4; arg 1; whnf
  refine pt_free (by rfl) (fun K hK => ?_)
  go_big_quiet_op
  first | (refine hK _ ?_; clear hK K) | (refine ⟨_, fun _ _ => rfl, hK _ ?_⟩; clear hK K)
  conv => arg 4; whnf
  conv => arg 4; arg 1; whnf
  refine pt_free (by rfl) (fun K hK => ?_)
  go_big_quiet_op
  first | (refine hK _ ?_; clear hK K) | (refine ⟨_, fun _ _ => rfl, hK _ ?_⟩; clear hK K)
  conv => arg 4; whnf
  conv => arg 4; arg 1; whnf
  refine pt_free (by rfl) (fun K hK => ?_)
  go_big_quiet_op
  first | (refine hK _ ?_; clear hK K) | (refine ⟨_, fun _ _ => rfl, hK _ ?_⟩; clear hK K)
  conv => arg 4; whnf
  conv => arg 4; arg 1; whnf
  refine pt_free (by rfl) (fun K hK => ?_)
  go_big_quiet_op
  first | (refine hK _ ?_; clear hK K) | (refine ⟨_, fun _ _ => rfl, hK _ ?_⟩; clear hK K)
  conv => arg 4; whnf
  conv => arg 4; arg 1; whnf
  refine pt_free (by rfl) (fun K hK => ?_)
  go_big_quiet_op
  first | (refine hK _ ?_; clear hK K) | (refine ⟨_, fun _ _ => rfl, hK _ ?_⟩; clear hK K)
  conv => arg 4; whnf
  conv => arg 4; arg 1; whnf
  refine pt_free (by rfl) (fun K hK => ?_)
  go_big_quiet_op
  first | (refine hK _ ?_; clear hK K) | (refine ⟨_, fun _ _ => rfl, hK _ ?_⟩; clear hK K)
  conv => arg 4; whnf
  conv => arg 4; arg 1; whnf
  refine pt_free (by rfl) (fun K hK => ?_)
  go_big_quiet_op
  first | (refine hK _ ?_; clear hK K) | (refine ⟨_, fun _ _ => rfl, hK _ ?_⟩; clear hK K)
  conv => arg 4; whnf
  conv => arg 4; arg 1; whnf
  refine pt_loadB (k := X) (fun W h => load_val _ W _ _ _ (h.trans hX)) hXl (by rfl) rfl rfl ?_
  simp only [Act.put, List.setIfInBounds_toArray, List.set_cons_zero, List.set_cons_succ]
  conv => arg 4; whnf
  conv => arg 4; arg 1; whnf
  refine pt_free (by rfl) (fun K hK => ?_)
  go_big_quiet_op
  first | (refine hK _ ?_; clear hK K) | (refine ⟨_, fun _ _ => rfl, hK _ ?_⟩; clear hK K)
  conv => arg 4; whnf
  conv => arg 4; arg 1; whnf
  refine pt_free (by rfl) (fun K hK => ?_)
  go_big_quiet_op
  first | (refine hK _ ?_; clear hK K) | (refine ⟨_, fun _ _ => rfl, hK _ ?_⟩; clear hK K)
  clear b0 b2 c2 d2 hB hC hD hBl hCl hDl hX hXl hbnd
  conv => arg 4; whnf
  conv => arg 4; arg 1; whnf
  refine pt_eff (by rfl) (fun K hK => ?_)
  go_wp2_with fail
  refine (lone_any _ 2 0 s).mono ?_
  rintro e w5 ⟨g1, rfl, hy, hv1⟩
  refine hK _ _ hy ?_
  clear hK K
  have hb4 := hb3.trans (hy.mono hb3.size)
  clear hy hb3
  conv => arg 4; whnf
  conv => arg 4; arg 1; whnf
  refine pt_eff (by rfl) (fun K hK => ?_)
  go_wp2
  have hy : Ext w5 (w5.alloc (.cells #[.bool false, .int .i64 0, .slice (some ⟨g1, 0, none⟩) 1 1] 27)) := (Below.refl _ _).alloc (Nat.le_refl _) _
  have hA1 : AtA (w5.alloc (.cells #[.bool false, .int .i64 0, .slice (some ⟨g1, 0, none⟩) 1 1] 27)) (some ⟨w5.heap.size, 0, none⟩) [oneArg (some ⟨g1, 0, none⟩) (2, 0, s)] := atA_lit (by simp) (heap_alloc_new w5 _) rfl (fun a ha => by
    simp only [List.mem_cons, List.not_mem_nil, or_false] at ha
    subst ha
    exact hv1.below hy)
  refine hK _ _ hy ?_
  clear hK K hv1
  have hb5 := hb4.trans (hy.mono hb4.size)
  clear hy hb4
  obtain ⟨G4, hG4⟩ : ∃ G4, w5.heap.size = G4 := ⟨_, rfl⟩
  rw [hG4] at hA1 ⊢
  clear hG4
  generalize w5.alloc (.cells #[.bool false, .int .i64 0, .slice (some ⟨g1, 0, none⟩) 1 1] 27) = w6 at *
  conv => arg 4; whnf
  conv => arg 4; arg 1; whnf
  refine pt_eff (by rfl) (fun K hK => ?_)
  go_wp2_with fail
  refine (call_len _ G4 g1 s hA1).mono ?_
  rintro e w7 ⟨rfl, hy⟩
  refine hK _ _ hy ?_
  clear hK K
  have hb6 := hb5.trans (hy.mono hb5.size)
  clear hy hb5 hA1
  conv => arg 4; whnf
  conv => arg 4; arg 1; whnf
  refine pt_free (by rfl) (fun K hK => ?_)
  go_big_quiet_op
  first | (refine hK _ ?_; clear hK K) | (refine ⟨_, fun _ _ => rfl, hK _ ?_⟩; clear hK K)
  conv => arg 4; whnf
  conv => arg 4; arg 1; whnf
  refine pt_free (by rfl) (fun K hK => ?_)
  go_big_quiet_op
  first | (refine hK _ ?_; clear hK K) | (refine ⟨_, fun _ _ => rfl, hK _ ?_⟩; clear hK K)
  conv => arg 4; whnf
  conv => arg 4; arg 1; whnf
  refine pt_free (by rfl) (fun K hK => ?_)
  go_big_quiet_op
  first | (refine hK _ ?_; clear hK K) | (refine ⟨_, fun _ _ => rfl, hK _ ?_⟩; clear hK K)
  conv => arg 4; whnf
  conv => arg 4; arg 1; whnf
  refine pt_free (by rfl) (fun K hK => ?_)
  go_big_quiet_op
  first | (refine hK _ ?_; clear hK K) | (refine ⟨_, fun _ _ => rfl, hK _ ?_⟩; clear hK K)
  conv => arg 4; whnf
  conv => arg 4; arg 1; whnf
  refine pt_eff (by rfl) (fun K hK => ?_)
  go_wp2_with fail
  refine (awake8 _).mono ?_
  rintro e w8 ⟨rfl, hy⟩
  refine hK _ _ hy ?_
  clear hK K
  have hb7 := hb6.trans (hy.mono hb6.size)
  clear hy hb6
  conv => arg 4; whnf
  conv => arg 4; arg 1; whnf
  refine pt_free (by rfl) (fun K hK => ?_)
  go_big_quiet_op
  first | (refine hK _ ?_; clear hK K) | (refine ⟨_, fun _ _ => rfl, hK _ ?_⟩; clear hK K)
  conv => arg 4; whnf
  conv => arg 4; arg 1; whnf
  refine pt_free (by rfl) (fun K hK => ?_)
  go_big_quiet_op
  first | (refine hK _ ?_; clear hK K) | (refine ⟨_, fun _ _ => rfl, hK _ ?_⟩; clear hK K)
  refine pt_nil ?_
  go_wp2
  go_ret
  exact ⟨rfl, hb7⟩
end Go.Proofs.YtcbaioagcemmnaaDoor
