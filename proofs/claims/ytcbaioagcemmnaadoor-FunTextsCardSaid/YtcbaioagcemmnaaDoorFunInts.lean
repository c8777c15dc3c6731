/- (fun.call).one, ints, sum; law8.one. Written by funsumgen.py. -/
import Derived.Test.YtcbaioagcemmnaaDoorFunCall
import Derived.Test.YtcbaioagcemmnaaDoorAppN
namespace Go.Proofs.YtcbaioagcemmnaaDoor
open Go.RowKit Go.Maps
theorem run_enter {f : FuncId} {fn : Func} {c : Code} (hf : Tryd.prog.funcs[f]? = some fn) (hname : (fn.name == "runtime.NumGoroutine") = false) (hb : fn.body = some c) (args : Array Value) (w : World) :
    (callFunc f args).run Tryd.prog w = .ok (.enter f args) w := by
  have h1 : fn.name ≠ "runtime.NumGoroutine" := by simpa using hname
  simp [callFunc, hf, h1, hb]
set_option maxRecDepth 100000 in
theorem lone_any (w : World) (k n : Int) (s : ByteArray) : Calls Tryd.prog 11 #[.agg #[.int .i64 k, .int .i64 n, .string s]] w fun e w' => ∃ g, e = .returned (.agg #[.bool false, .int .i64 0, .slice (some ⟨g, 0, none⟩) 1 1]) ∧ Below w.heap.size w w' ∧ AtV w' (some ⟨g, 0, none⟩) [(k, n, s)] := by
  go_enter Tryd.func11, Tryd.ntmps11
  go_wp2
  refine bodyPost_ret (v := .agg #[.bool false, .int .i64 0, .slice (some ⟨w.heap.size + 1 + 1, 0, none⟩) 1 1]) ?_ rfl ⟨w.heap.size + 1 + 1, rfl, (((Below.refl _ _).alloc (Nat.le_refl _) _).alloc (by simp) _).alloc (by simp; omega) _, by simp, fun _ => ⟨_, 0, rfl, fun i x hx => ?_⟩⟩
  · simp [results, Tryd.f11, go_sem]
  · have hz := heap_alloc_new ((w.alloc (.cells #[.int .i64 k, .int .i64 n, .string s] 31)).alloc (.cells #[.bool false, .int .i64 0, .slice (some ⟨w.heap.size + 1 + 1, 0, none⟩) 1 1] 27)) (.cells #[.int .i64 k, .int .i64 n, .string s] 31)
    rw [World.size_alloc, World.size_alloc] at hz
    obtain ⟨q0, q1, q2, _⟩ := val3 hz
    rcases i with _ | i
    · simp only [List.getElem?_cons_zero, Option.some.injEq] at hx
      subst hx
      exact ⟨by simpa using q0, by simpa using q1, by simpa using q2⟩
    · simp at hx
set_option maxRecDepth 100000 in
theorem cone_any (w : World) (A : Option Addr) (args : List FArg) (c i : Nat) (hA : AtA w A args) (a : FArg) (v : V3) (ha : args[i]? = some a) (hv : a.vs[0]? = some v) : Calls Tryd.prog 43 #[.agg #[.slice A args.length c], .int .i64 i] w fun e w' => e = .returned (vv v) ∧ Below w.heap.size w w' := by
  have hbA : Below w.heap.size w ((w.alloc (.cells #[.slice A args.length c] 44)).alloc (.cells #[.int .i64 0, .int .i64 0, .string ⟨#[]⟩] 31)) := ((Below.refl _ _).alloc (Nat.le_refl _) _).alloc (by simp) _
  replace hA := hA.below hbA
  have hi : i < args.length := (List.getElem?_eq_some_iff.1 ha).1
  obtain ⟨b, o, hAe, hcells⟩ := hA.2.2 (by omega)
  obtain ⟨c0, c1, c2⟩ := hcells i a ha
  have hav := hA.2.1 a (List.mem_of_getElem? ha)
  have hvl : 0 < a.vs.length := (List.getElem?_eq_some_iff.1 hv).1
  obtain ⟨b2, o2, hAe2, hcells2⟩ := hav.2 hvl
  obtain ⟨d0, d1, d2⟩ := hcells2 0 v hv
  have hl9 := hA.1
  have hv9 := hav.1
  obtain ⟨xr, xc, xA, xv, xcap⟩ := a
  obtain ⟨vk, vn, vs⟩ := v
  simp only at c0 c1 c2 hAe2 d0 d1 d2 hvl hv9
  simp only [Nat.zero_mul, Nat.add_zero] at d0 d1 d2
  subst hAe hAe2
  clear hcells hcells2 ha hv hA hav
  go_enter Tryd.func43, Tryd.ntmps43
  go_wp2
  refine bodyPost_ret (v := .agg #[.int .i64 vk, .int .i64 vn, .string vs]) ?_ rfl ⟨rfl, ((Below.refl _ _).alloc (Nat.le_refl _) _).alloc (by simp) _⟩
  simp [results, Tryd.f43, go_sem]
/-- the numbers among the values -/
def intsOf (args : List FArg) : List V3 := (args.flatMap FArg.vs).filter (fun v => v.1 == 1)
def cells3 (l : List V3) : List Value := l.flatMap fun v => [.int .i64 v.1, .int .i64 v.2.1, .string v.2.2]
theorem cells3_len (l : List V3) : (cells3 l).length = 3 * l.length := by
  induction l with
  | nil => rfl
  | cons x r ih => simp [cells3] at ih ⊢; omega
theorem cells3_snoc (l : List V3) (v : V3) : cells3 (l ++ [v]) = cells3 l ++ [.int .i64 v.1, .int .i64 v.2.1, .string v.2.2] := by simp [cells3]
theorem cells3_get (l : List V3) (i : Nat) (v : V3) (h : l[i]? = some v) : (cells3 l)[i * 3]? = some (.int .i64 v.1) ∧ (cells3 l)[i * 3 + 1]? = some (.int .i64 v.2.1) ∧ (cells3 l)[i * 3 + 2]? = some (.string v.2.2) := by
  induction l generalizing i with
  | nil => simp at h
  | cons x r ih =>
    cases i with
    | zero => simp at h; subst h; simp [cells3]
    | succ i =>
      obtain ⟨h0, h1, h2⟩ := ih i (by simpa using h)
      have e : cells3 (x :: r) = [.int .i64 x.1, .int .i64 x.2.1, .string x.2.2] ++ cells3 r := by simp [cells3]
      rw [e]
      refine ⟨?_, ?_, ?_⟩
      · rw [List.getElem?_append_right (by simp; omega)]; rw [← h0]; congr 1; simp; omega
      · rw [List.getElem?_append_right (by simp; omega)]; rw [← h1]; congr 1; simp; omega
      · rw [List.getElem?_append_right (by simp; omega)]; rw [← h2]; congr 1; simp; omega
theorem atV_of_own {w : World} {base n c : Nat} {A : Option Addr} {l : List V3} (h : w.ownsRow base 31 3 (.slice A n c) n (cells3 l)) (hl : l.length ≤ 9223372036854775807) : AtV w A l := by
  have hn : l.length = n := by have := h.1; rw [cells3_len] at this; omega
  refine ⟨hl, fun hp => ?_⟩
  obtain ⟨g, cap, hv, hx⟩ := h.form (by omega)
  have hA : A = some ⟨g, 0, none⟩ := by injection hv
  subst hA
  refine ⟨g, 0, rfl, fun i x hx => ?_⟩
  have hi : i < l.length := (List.getElem?_eq_some_iff.1 hx).1
  obtain ⟨h0, h1, h2⟩ := cells3_get l i x hx
  rw [Nat.zero_add]
  exact ⟨(h.cellAt _ (by omega)).trans h0, (h.cellAt _ (by omega)).trans h1, (h.cellAt _ (by omega)).trans h2⟩
theorem eVal : EInfo Tryd.prog 24 31 (.agg #[.int .i64 0, .int .i64 0, .string ⟨#[]⟩]) 3 32 := ⟨Tryd.underlying24, by kernel_rfl, rfl, by decide, by decide⟩
theorem intsOf_take {args : List FArg} {k : Nat} {x : FArg} (h : args[k]? = some x) : intsOf (args.take (k + 1)) = intsOf (args.take k) ++ x.vs.filter (fun v => v.1 == 1) := by
  obtain ⟨hk, rfl⟩ := List.getElem?_eq_some_iff.1 h
  unfold intsOf
  rw [List.take_succ_eq_append_getElem hk, List.flatMap_append, List.filter_append]
  congr 2
  simp only [List.flatMap_cons, List.flatMap_nil, List.append_nil]
theorem intsOf_len (args : List FArg) (k : Nat) : (intsOf (args.take k)).length ≤ (args.flatMap FArg.vs).length := by
  refine Nat.le_trans (List.length_filter_le _ _) ?_
  conv => rhs; rw [← List.take_append_drop k args]
  rw [List.flatMap_append, List.length_append]
  omega
theorem filt_take {xv : List V3} {j : Nat} {y : V3} (h : xv[j]? = some y) : (xv.take (j + 1)).filter (fun v => v.1 == 1) = (xv.take j).filter (fun v => v.1 == 1) ++ (if y.1 == 1 then [y] else []) := by
  obtain ⟨hk, rfl⟩ := List.getElem?_eq_some_iff.1 h
  rw [List.take_succ_eq_append_getElem hk, List.filter_append]
  congr 1
  by_cases h : xv[j].1 == 1 <;> simp [h]
set_option maxRecDepth 100000 in
set_option maxHeartbeats 4000000 in
theorem ints_any (w : World) (A : Option Addr) (args : List FArg) (c : Nat) (hA : AtA w A args) (hk : ∀ a ∈ args, ∀ v ∈ FArg.vs a, v.1 = 1 ∨ v.1 = 0 ∨ a.rg = true) (hmany : (args.flatMap FArg.vs).length ≤ 1000000) :
    Calls Tryd.prog 35 #[.agg #[.slice A args.length c]] w fun e w' => ∃ B cap, e = .returned (.tuple #[.slice B (intsOf args).length cap, .bool true]) ∧ Below w.heap.size w w' ∧ AtV w' B (intsOf args) := by
  have HK := Lib.hid hk
  have hml := Lib.hid hmany
  clear hk hmany
  have hb0 : Below w.heap.size w (w.alloc (.cells #[.slice A args.length c] 44)) := (Below.refl _ _).alloc (Nat.le_refl _) _
  have hA1 := hA.below hb0
  have hbnd := hA.1
  go_enter Tryd.func35, Tryd.ntmps35
  go_wp2_with fail
  obtain ⟨W, hW⟩ : ∃ W, W = w.alloc (.cells #[.slice A args.length c] 44) := ⟨_, rfl⟩
  rw [← hW] at hb0 hA1 ⊢
  have HW := Lib.hid hW
  clear hW
  go_loopw [2, 11] (fun v u wr => ∃ k : Nat, k ≤ args.length ∧ u = .int .i64 k ∧ wr.ownsRow W.heap.size 31 3 v (intsOf (args.take k)).length (cells3 (intsOf (args.take k))) ∧ Below W.heap.size W wr) (fun _ u _ => args.length - (intOf u).toNat)
  case atStart => exact ⟨0, Nat.zero_le _, rfl, World.ownsRow_nil _ _ _ _, Below.refl _ _⟩
  case round =>
    obtain ⟨k, hk, rfl, hown, hbr⟩ := hrel
    obtain ⟨B, cb, rfl, _, _⟩ := own_form hown
    have hsr := hbr.size
    by_cases hlt : k < args.length
    · have hi1 := Lib.hid (show k + 1 ≤ args.length by omega)
      have hi2 := Lib.hid (show args.length - (k + 1) < args.length - k by omega)
      have hAr := hA1.below hbr
      obtain ⟨b, o, hAe, hcells⟩ := hAr.2.2 (by omega)
      obtain ⟨x, hx⟩ : ∃ x, args[k]? = some x := ⟨_, List.getElem?_eq_getElem hlt⟩
      obtain ⟨c0, c1, c2⟩ := hcells k x hx
      have hm := List.mem_of_getElem? hx
      have hav := hA1.2.1 x hm
      have hkx := Lib.hid (HK.out x hm)
      have htk := Lib.hid (intsOf_take hx)
      have hcnt : ∀ j, (intsOf (args.take k) ++ (x.vs.take j).filter (fun v => v.1 == 1)).length ≤ 1000000 := fun j => by
        have h1 := intsOf_len args (k + 1)
        rw [intsOf_take hx, List.length_append] at h1
        rw [List.length_append]
        have h2 : ((x.vs.take j).filter (fun v => v.1 == 1)).length ≤ (x.vs.filter (fun v => v.1 == 1)).length := (List.Sublist.filter _ (List.take_sublist _ _)).length_le
        have := hml.out
        omega
      have hcnt := Lib.hid hcnt
      obtain ⟨xr, xc, xA, xv, xcap⟩ := x
      simp only at c0 c1 c2 hav hkx htk hcnt
      subst hAe
      clear hcells hAr
      obtain ⟨L, hL⟩ : ∃ L, L = intsOf (args.take k) := ⟨_, rfl⟩
      rw [← hL] at hown htk hcnt ⊢
      have hvl := hav.1
      have hoE := hown.alloc (.cells #[.bool xr, .int .i64 xc, .slice xA xv.length xcap] 27)
      have hbE := hbr.alloc hsr (.cells #[.bool xr, .int .i64 xc, .slice xA xv.length xcap] 27)
      have hEb := heap_alloc_new wr (.cells #[.bool xr, .int .i64 xc, .slice xA xv.length xcap] 27)
      clear hL
      go_wp2_with fail
      obtain ⟨E, hE⟩ : ∃ E, wr.heap.size = E := ⟨_, rfl⟩
      obtain ⟨we, hwe⟩ : ∃ we, we = wr.alloc (.cells #[.bool xr, .int .i64 xc, .slice xA xv.length xcap] 27) := ⟨_, rfl⟩
      rw [← hwe] at hoE hbE hEb ⊢
      rw [hE] at hEb ⊢
      clear hwe hE
      have hsE := Lib.hid hbE.size
      go_loopw [2, 18] (fun v u wi => ∃ j : Nat, j ≤ xv.length ∧ u = .int .i64 j ∧ wi.ownsRow W.heap.size 31 3 v (L ++ (xv.take j).filter (fun v => v.1 == 1)).length (cells3 (L ++ (xv.take j).filter (fun v => v.1 == 1))) ∧ wi.heap[E]? = some (.cells #[.bool xr, .int .i64 xc, .slice xA xv.length xcap] 27 (0, 0)) ∧ Below W.heap.size W wi) (fun _ u _ => xv.length - (intOf u).toNat)
      case atStart => exact ⟨0, Nat.zero_le _, rfl, by simpa using hoE, hEb, hbE⟩
      case round =>
        generalize wr = wi at *
        obtain ⟨j, hj, rfl, hown2, hEi, hbi⟩ := hrel
        obtain ⟨B2, cb2, rfl, _, _⟩ := own_form hown2
        have hsi := hbi.size
        by_cases hlt3 : j < xv.length
        · have hj1 := Lib.hid (show j + 1 ≤ xv.length by omega)
          have hj2 := Lib.hid (show xv.length - (j + 1) < xv.length - j by omega)
          obtain ⟨b2, o2, hAe2, hcells2⟩ := (hav.below hbi).2 (by omega)
          obtain ⟨y, hy⟩ : ∃ y, xv[j]? = some y := ⟨_, List.getElem?_eq_getElem hlt3⟩
          obtain ⟨d0, d1, d2⟩ := hcells2 j y hy
          have hky := Lib.hid (hkx.out y (List.mem_of_getElem? hy))
          have hft := Lib.hid (filt_take hy)
          have hc9 := Lib.hid (hcnt.out (j + 1))
          obtain ⟨yk, yn, ys⟩ := y
          simp only at d0 d1 d2 hky hft
          subst hAe2
          clear hcells2
          obtain ⟨M, hM⟩ : ∃ M, M = L ++ (xv.take j).filter (fun v => v.1 == 1) := ⟨_, rfl⟩
          rw [← hM] at hown2 ⊢
          by_cases h1 : yk = 1
          · subst h1
            have e2 : L ++ (xv.take (j + 1)).filter (fun v => v.1 == 1) = M ++ [(1, yn, ys)] := by rw [hft.out, ← List.append_assoc, ← hM]; rfl
            have E2 := Lib.hid e2
            have hMl : M.length ≤ 1000000 := by have := hc9.out; rw [e2, List.length_append] at this; omega
            clear hM e2
            have hown3 := hown2.alloc (.cells #[.int .i64 1, .int .i64 yn, .string ys] 31)
            have hE3 := (Below.heap_alloc wi (.cells #[.int .i64 1, .int .i64 yn, .string ys] 31) E (Array.getElem?_eq_some_iff.1 hEi).1).trans hEi
            have hb3 := hbi.alloc hsi (.cells #[.int .i64 1, .int .i64 yn, .string ys] 31)
            have hs3 : W.heap.size ≤ (wi.alloc (.cells #[.int .i64 1, .int .i64 yn, .string ys] 31)).heap.size := hb3.size
            go_wp2_with (at_builtin; refine wpList_appN (cs := #[.int .i64 1, .int .i64 yn, .string ys]) eVal rfl rfl hown3 rfl rfl (by first | rfl | simp) rfl (by intro u hu; simp at hu; rcases hu with rfl | rfl | rfl <;> rfl) (by omega) hs3 ?_; intro v1 w9 hown9 hg1 hk1; obtain ⟨A9, c9, rfl, _⟩ := own_form hown9; have hE9 := grown_block hown3 hE3 (by decide) hg1)
            go_roundw
            case rel =>
              refine ⟨j + 1, hj1.out, by go_num, ?_, hE9, below_grown hb3 hown3 hg1 (Nat.le_refl _) hs3⟩
              rw [E2.out, List.length_append, cells3_snoc]
              exact hown9
            case measure => first | (simp [intOf]; done) | exact hj2.out | (have := hj2.out; simp [intOf]; omega)
          · have g1 : (yk == 1) = false := by simpa using h1
            have g1' : decide (yk = 1) = false := decide_eq_false h1
            have e2 : L ++ (xv.take (j + 1)).filter (fun v => v.1 == 1) = M := by rw [hft.out, g1, hM]; simp
            have E2 := Lib.hid e2
            have hown3 := hown2.alloc (.cells #[.int .i64 yk, .int .i64 yn, .string ys] 31)
            have hE3 := (Below.heap_alloc wi (.cells #[.int .i64 yk, .int .i64 yn, .string ys] 31) E (Array.getElem?_eq_some_iff.1 hEi).1).trans hEi
            have hb3 := hbi.alloc hsi (.cells #[.int .i64 yk, .int .i64 yn, .string ys] 31)
            obtain ⟨t0, t1, t2, _⟩ := val3 hE3
            have hkz : yk = 0 ∨ xr = true := by rcases hky.out with h | h | h; exact absurd h h1; exact .inl h; exact .inr h
            clear hM e2 h1
            by_cases h0 : yk = 0
            · subst h0
              clear hkz
              go_wp2
              go_roundw
              case rel => exact ⟨j + 1, hj1.out, by go_num, by rw [E2.out]; exact hown3, hE3, hb3⟩
              case measure => first | (simp [intOf]; done) | exact hj2.out | (have := hj2.out; simp [intOf]; omega)
            · have hxr : xr = true := hkz.resolve_left h0
              subst hxr
              have g2 : (yk == 0) = false := by simpa using h0
              have g2' : decide (yk = 0) = false := decide_eq_false h0
              have g2'' : (yk != 0) = true := by simpa using h0
              clear hkz h0
              go_wp2
              go_roundw
              case rel => exact ⟨j + 1, hj1.out, by go_num, by rw [E2.out]; exact hown3, hE3, hb3⟩
              case measure => first | (simp [intOf]; done) | exact hj2.out | (have := hj2.out; simp [intOf]; omega)
        · have hje : j = xv.length := by omega
          subst hje
          rw [List.take_length] at hown2
          have hown3 : Hid (wi.ownsRow W.heap.size 31 3 (.slice B2 (L ++ xv.filter (fun v => v.1 == 1)).length cb2) (intsOf (args.take (k + 1))).length (cells3 (intsOf (args.take (k + 1))))) := by rw [htk.out]; exact hown2
          rw [List.take_length]
          go_wp2
          go_roundw
          case rel => exact ⟨k + 1, hi1.out, by go_num, hown3.out, hbi⟩
          case measure => first | (simp [intOf]; done) | exact hi2.out | (have := hi2.out; simp [intOf]; omega)
    · have hie : k = args.length := by omega
      subst hie
      rw [List.take_length] at hown ⊢
      have hl9 : (intsOf args).length ≤ 9223372036854775807 := by
        have := intsOf_len args args.length
        rw [List.take_length] at this
        have := hml.out
        omega
      have hres := Lib.hid (atV_of_own hown hl9)
      have hbz := hb0.trans (hbr.mono hb0.size)
      clear hl9 hbr hown
      go_wp2
      refine bodyPost_ret (v := .tuple #[.slice B (intsOf args).length cb, .bool true]) ?_ rfl ⟨B, cb, rfl, hbz, hres.out⟩
      simp [results, Tryd.f35, go_sem]
end Go.Proofs.YtcbaioagcemmnaaDoor
