/- (fun.call).best, min, max. Written by funbestgen.py. -/
import Derived.Test.YtcbaioagcemmnaaDoorFunLit
namespace Go.Proofs.YtcbaioagcemmnaaDoor
open Go.RowKit Go.Maps
/-- the value that is ahead of the first k -/
def best (ah : Int → Int → Bool) (l : List V3) : Nat → V3
  | 0 => (1, 0, ⟨#[]⟩)
  | k + 1 => match l[k]? with
    | some v => if k = 0 ∨ ah v.2.1 (best ah l k).2.1 = true then v else best ah l k
    | none => best ah l k
theorem best_one (ah : Int → Int → Bool) (l : List V3) (h : ∀ v ∈ l, v.1 = 1) (k : Nat) : (best ah l k).1 = 1 := by
  induction k with
  | zero => rfl
  | succ k ih =>
    unfold best
    split
    · rename_i v hv
      split
      · exact h v (List.mem_of_getElem? hv)
      · exact ih
    · exact ih
theorem best_yes {ah : Int → Int → Bool} {l : List V3} {k : Nat} {v : V3} (hv : l[k]? = some v) (h : k = 0 ∨ ah v.2.1 (best ah l k).2.1 = true) : best ah l (k + 1) = v := by
  conv => lhs; unfold best
  rw [hv]
  simp only
  rw [if_pos h]
theorem best_no {ah : Int → Int → Bool} {l : List V3} {k : Nat} {v : V3} (hv : l[k]? = some v) (h : k ≠ 0) (h2 : ah v.2.1 (best ah l k).2.1 = false) : best ah l (k + 1) = best ah l k := by
  conv => lhs; unfold best
  rw [hv]
  simp only
  rw [if_neg (by simp [h, h2])]
set_option maxRecDepth 100000 in
set_option maxHeartbeats 4000000 in
theorem best_any (w : World) (A : Option Addr) (args : List FArg) (c : Nat) (hA : AtA w A args) (hk : ∀ a ∈ args, ∀ v ∈ FArg.vs a, v.1 = 1 ∨ v.1 = 0 ∨ a.rg = true) (hmany : (args.flatMap FArg.vs).length ≤ 1000000)
    (g : Nat) (ah : Int → Int → Bool) (hg : ∀ us W, (callFunc g us).run Tryd.prog W = .ok (.enter g us) W)
    (hc : ∀ W x y, Calls Tryd.prog g #[.int .i64 x, .int .i64 y] W fun e w' => e = .returned (.bool (ah x y)) ∧ Below W.heap.size W w') :
    Calls Tryd.prog 38 #[.agg #[.slice A args.length c], .func (.func g) #[] #[]] w fun e w' => e = .returned (.agg #[.int .i64 1, .int .i64 (best ah (intsOf args) (intsOf args).length).2.1, .string (best ah (intsOf args) (intsOf args).length).2.2]) ∧ Below w.heap.size w w' := by
  have CI := Lib.hid (fun W (hW : AtA W A args) => ints_any W A args c hW hk hmany)
  have HM := Lib.hid (fun y (h : y ∈ intsOf args) => mem_ints h)
  have HC := Lib.hid hc
  have hlen : (intsOf args).length ≤ 1000000 := by
    have := intsOf_len args args.length
    rw [List.take_length] at this
    omega
  clear hk hmany hc
  obtain ⟨l, hl⟩ : ∃ l, intsOf args = l := ⟨_, rfl⟩
  rw [hl] at CI HM hlen ⊢
  clear hl
  go_enter Tryd.func38, Tryd.ntmps38
  have hb0 := ((Below.refl w.heap.size w).alloc (Nat.le_refl _) (.cells #[.slice A args.length c] 44)).alloc (by simp) (.cells #[.int .i64 0, .int .i64 0, .string ⟨#[]⟩] 31)
  have hX : ((w.alloc (.cells #[.slice A args.length c] 44)).alloc (.cells #[.int .i64 0, .int .i64 0, .string ⟨#[]⟩] 31)).heap[w.heap.size + 1]? = some (.cells #[.int .i64 0, .int .i64 0, .string ⟨#[]⟩] 31 (0, 0)) := by rw [← World.size_alloc w (.cells #[.slice A args.length c] 44)]; exact heap_alloc_new _ _
  have hA0 := hA.below hb0
  go_wp2_with fail
  refine (CI.out _ hA0).mono ?_
  rintro e w1 ⟨B, cb, rfl, hb1, hV1⟩
  have hX1 := (hb1.block _ (Array.getElem?_eq_some_iff.1 hX).1).trans hX
  have hb2 := hb0.trans (hb1.mono hb0.size)
  obtain ⟨R, hR⟩ : ∃ R, w.heap.size + 1 = R := ⟨_, rfl⟩
  rw [hR] at hX1 ⊢
  have hRl := Lib.hid hR
  clear hX hb0 hA0 hA CI hb1 hR
  go_wp2_with fail
  refine (num_any _ 0).mono ?_
  rintro e w2 ⟨rfl, hb3⟩
  have hX2 := (hb3.block _ (Array.getElem?_eq_some_iff.1 hX1).1).trans hX1
  have hb4 := hb2.trans (hb3.mono hb2.size)
  have hV2 := hV1.below hb3
  clear hX1 hb2 hV1 hb3
  have hs4 := hb4.size
  have hRR : R < w2.heap.size := (Array.getElem?_eq_some_iff.1 hX2).1
  have hN0 := heap_alloc_new w2 (.cells #[.int .i64 1, .int .i64 0, .string ⟨#[]⟩] 31)
  have hbW : Below w2.heap.size w2 (w2.alloc (.cells #[.int .i64 1, .int .i64 0, .string ⟨#[]⟩] 31)) := (Below.refl _ _).alloc (Nat.le_refl _) _
  go_wp2_with fail
  obtain ⟨Nb, hNb⟩ : ∃ Nb, w2.heap.size = Nb := ⟨_, rfl⟩
  rw [hNb] at hN0 hbW ⊢
  go_loopw [21] (fun u wr => ∃ k : Nat, k ≤ l.length ∧ u = .int .i64 k ∧ wr.heap[Nb]? = some (.cells #[.int .i64 1, .int .i64 (best ah l k).2.1, .string (best ah l k).2.2] 31 (0, 0)) ∧ Below Nb w2 wr) (fun u _ => l.length - (intOf u).toNat)
  case atStart => exact ⟨0, Nat.zero_le _, rfl, hN0, hbW⟩
  case round =>
    obtain ⟨k, hk, rfl, hNr, hbr⟩ := hrel
    have hsr := hbr.size
    have hNl := Lib.hid (Array.getElem?_eq_some_iff.1 hNr).1
    by_cases hlt : k < l.length
    · have hi1 := Lib.hid (show k + 1 ≤ l.length by omega)
      have hi2 := Lib.hid (show l.length - (k + 1) < l.length - k by omega)
      obtain ⟨b, o, hAe, hcells⟩ := (hV2.below (hNb ▸ hbr)).2 (by omega)
      obtain ⟨y, hy⟩ : ∃ y, l[k]? = some y := ⟨_, List.getElem?_eq_getElem hlt⟩
      obtain ⟨d0, d1, d2⟩ := hcells k y hy
      have hmy := List.mem_of_getElem? hy
      have hy1 := HM.out y hmy
      have BY := Lib.hid (fun h => best_yes (ah := ah) hy h)
      have BN := Lib.hid (fun h h2 => best_no (ah := ah) hy h h2)
      obtain ⟨yk, yn, ys⟩ := y
      simp only at d0 d1 d2 hy1 BY BN
      subst hy1 hAe
      have hN3 := (Below.heap_alloc wr (.cells #[.int .i64 1, .int .i64 yn, .string ys] 31) Nb hNl.out).trans hNr
      have hV3 := heap_alloc_new wr (.cells #[.int .i64 1, .int .i64 yn, .string ys] 31)
      have hb5 := hbr.alloc (by have := hNl.out; omega) (.cells #[.int .i64 1, .int .i64 yn, .string ys] 31)
      clear hcells hy hmy hNr
      obtain ⟨Vb, hVb⟩ : ∃ Vb, wr.heap.size = Vb := ⟨_, rfl⟩
      rw [hVb] at hV3
      obtain ⟨q0, q1, q2, z0, z1, z2⟩ := val3 hN3
      obtain ⟨p0, p1, p2, _⟩ := val3 hV3
      by_cases hk0 : k = 0
      · subst hk0
        rw [show o + 0 * 3 = o by omega] at d0 d1 d2
        have BE := Lib.hid (BY.out (.inl rfl))
        clear BY BN
        go_wp2_with fail
        (try rw [hVb])
        clear hVb
        go_wp2
        go_roundw
        case rel =>
          refine ⟨0 + 1, hi1.out, by go_num, ?_, ((hb5.setCell (p := ⟨Nb, 0, none⟩) (Nat.le_refl _) _).setCell (p := ⟨Nb, 1, none⟩) (Nat.le_refl _) _).setCell (p := ⟨Nb, 2, none⟩) (Nat.le_refl _) _⟩
          rw [BE.out]
          exact val_store (x := .int .i64 1) (y := .int .i64 yn) (z := .string ys) hN3
        case measure => first | (simp [intOf]; done) | exact hi2.out | (have := hi2.out; simp [intOf]; omega)
      · have kz : ((k : Int) == 0) = false := by rw [beq_eq_false_iff_ne]; omega
        have kz' : decide ((k : Int) = 0) = false := decide_eq_false (by omega)
        obtain ⟨bn, hbn⟩ : ∃ bn, (best ah l k).2.1 = bn := ⟨_, rfl⟩
        obtain ⟨bs, hbs⟩ : ∃ bs, (best ah l k).2.2 = bs := ⟨_, rfl⟩
        rw [hbn] at hN3 q1 BY BN
        rw [hbs] at hN3 q2
        have BY1 := Lib.hid (fun h => BY.out (.inr h))
        have BN1 := Lib.hid (fun h => BN.out hk0 h)
        have HBN := Lib.hid hbn
        have HBS := Lib.hid hbs
        clear BY BN hbn hbs hk0
        go_wp2_with fail
        refine (HC.out _ yn bn).mono ?_
        rintro e w5 ⟨rfl, hb6⟩
        (try rw [hVb])
        clear q0 q1 q2 z0 z1 z2 p0 p1 p2
        have hN5 := (hb6.block Nb (Array.getElem?_eq_some_iff.1 hN3).1).trans hN3
        have hV5 := (hb6.block Vb (Array.getElem?_eq_some_iff.1 hV3).1).trans hV3
        have hb7 := hb5.trans (hb6.mono (by have := hNl.out; simp; omega))
        clear hVb hV3 hN3 hb6 hb5
        obtain ⟨q0, q1, q2, z0, z1, z2⟩ := val3 hN5
        obtain ⟨p0, p1, p2, _⟩ := val3 hV5
        cases hah : ah yn bn with
        | true =>
          have BE := Lib.hid (BY1.out hah)
          clear hah
          go_wp2
          go_roundw
          case rel =>
            refine ⟨k + 1, hi1.out, by go_num, ?_, ((hb7.setCell (p := ⟨Nb, 0, none⟩) (Nat.le_refl _) _).setCell (p := ⟨Nb, 1, none⟩) (Nat.le_refl _) _).setCell (p := ⟨Nb, 2, none⟩) (Nat.le_refl _) _⟩
            rw [BE.out]
            exact val_store (x := .int .i64 1) (y := .int .i64 yn) (z := .string ys) hN5
          case measure => first | (simp [intOf]; done) | exact hi2.out | (have := hi2.out; simp [intOf]; omega)
        | false =>
          have BE := Lib.hid (BN1.out hah)
          clear hah
          go_wp2
          go_roundw
          case rel =>
            refine ⟨k + 1, hi1.out, by go_num, ?_, hb7⟩
            rw [BE.out, HBN.out, HBS.out]
            exact hN5
          case measure => first | (simp [intOf]; done) | exact hi2.out | (have := hi2.out; simp [intOf]; omega)
    · have hie : k = l.length := by omega
      subst hie
      have hXr := ((hNb ▸ hbr).block R hRR).trans hX2
      obtain ⟨bn, hbn⟩ : ∃ bn, (best ah l l.length).2.1 = bn := ⟨_, rfl⟩
      obtain ⟨bs, hbs⟩ : ∃ bs, (best ah l l.length).2.2 = bs := ⟨_, rfl⟩
      rw [hbn] at hNr
      rw [hbs] at hNr
      obtain ⟨q0, q1, q2, _⟩ := val3 hNr
      obtain ⟨v0, v1, v2, z0, z1, z2⟩ := val3 hXr
      have hbz := hb4.trans ((hNb ▸ hbr).mono hs4)
      have HRL := hRl.out
      have HBN := Lib.hid hbn
      have HBS := Lib.hid hbs
      clear hNb hN0 hbW hbr hbn hbs
      go_wp2
      have hz := val_store (x := .int .i64 1) (y := .int .i64 bn) (z := .string bs) hXr
      obtain ⟨u0, u1, u2, _⟩ := val3 hz
      refine bodyPost_ret (v := .agg #[.int .i64 1, .int .i64 bn, .string bs]) ?_ rfl ?_
      · simp [results, Tryd.f38, go_sem, u0, u1, u2]
      · exact ⟨by rw [HBN.out, HBS.out], ((hbz.setCell (p := ⟨R, 0, none⟩) (by show w.heap.size ≤ R; omega) _).setCell (p := ⟨R, 1, none⟩) (by show w.heap.size ≤ R; omega) _).setCell (p := ⟨R, 2, none⟩) (by show w.heap.size ≤ R; omega) _⟩
theorem min1_any (w : World) (x y : Int) : Calls Tryd.prog 39 #[.int .i64 x, .int .i64 y] w fun e w' => e = .returned (.bool (decide (x < y))) ∧ Below w.heap.size w w' := by
  go_enter Tryd.func39, Tryd.ntmps39
  go_wp2
  go_ret
  exact ⟨rfl, Below.refl _ _⟩
set_option maxRecDepth 100000 in
set_option maxHeartbeats 4000000 in
theorem min_any (w : World) (A : Option Addr) (args : List FArg) (c : Nat) (hA : AtA w A args) (hk : ∀ a ∈ args, ∀ v ∈ FArg.vs a, v.1 = 1 ∨ v.1 = 0 ∨ a.rg = true) (hmany : (args.flatMap FArg.vs).length ≤ 1000000) :
    Calls Tryd.prog 18 #[.agg #[.slice A args.length c]] w fun e w' => e = .returned (.agg #[.int .i64 1, .int .i64 (best (fun x y => decide (x < y)) (intsOf args) (intsOf args).length).2.1, .string (best (fun x y => decide (x < y)) (intsOf args) (intsOf args).length).2.2]) ∧ Below w.heap.size w w' := by
  have C := Lib.hid (fun W (hW : AtA W A args) => best_any W A args c hW hk hmany 39 (fun x y => decide (x < y)) (fun us W => run_enter Tryd.func39 (by kernel_rfl) rfl us W) (fun W x y => min1_any W x y))
  clear hk hmany
  obtain ⟨bn, hbn⟩ : ∃ bn, (best (fun x y => decide (x < y)) (intsOf args) (intsOf args).length).2.1 = bn := ⟨_, rfl⟩
  obtain ⟨bs, hbs⟩ : ∃ bs, (best (fun x y => decide (x < y)) (intsOf args) (intsOf args).length).2.2 = bs := ⟨_, rfl⟩
  rw [hbn, hbs] at C ⊢
  clear hbn hbs
  have hb0 := ((Below.refl w.heap.size w).alloc (Nat.le_refl _) (.cells #[.slice A args.length c] 44)).alloc (by simp) (.cells #[.int .i64 0, .int .i64 0, .string ⟨#[]⟩] 31)
  have hX : ((w.alloc (.cells #[.slice A args.length c] 44)).alloc (.cells #[.int .i64 0, .int .i64 0, .string ⟨#[]⟩] 31)).heap[w.heap.size + 1]? = some (.cells #[.int .i64 0, .int .i64 0, .string ⟨#[]⟩] 31 (0, 0)) := by rw [← World.size_alloc w (.cells #[.slice A args.length c] 44)]; exact heap_alloc_new _ _
  have hA0 := hA.below hb0
  go_enter Tryd.func18, Tryd.ntmps18
  go_wp2_with fail
  refine (C.out _ hA0).mono ?_
  rintro e w1 ⟨rfl, hb1⟩
  have hX1 := (hb1.block _ (Array.getElem?_eq_some_iff.1 hX).1).trans hX
  have hb2 := hb0.trans (hb1.mono hb0.size)
  obtain ⟨R, hR⟩ : ∃ R, w.heap.size + 1 = R := ⟨_, rfl⟩
  rw [hR] at hX1 ⊢
  have HR := Lib.hid (show w.heap.size ≤ R by omega)
  clear hR hb1 hX hA0 hb0 C
  obtain ⟨v0, v1, v2, z0, z1, z2⟩ := val3 hX1
  go_wp2
  have hz := val_store (x := .int .i64 1) (y := .int .i64 bn) (z := .string bs) hX1
  obtain ⟨u0, u1, u2, _⟩ := val3 hz
  refine bodyPost_ret (v := .agg #[.int .i64 1, .int .i64 bn, .string bs]) ?_ rfl ?_
  · simp [results, Tryd.f18, go_sem, u0, u1, u2]
  · exact ⟨rfl, ((hb2.setCell (p := ⟨R, 0, none⟩) HR.out _).setCell (p := ⟨R, 1, none⟩) HR.out _).setCell (p := ⟨R, 2, none⟩) HR.out _⟩
theorem max1_any (w : World) (x y : Int) : Calls Tryd.prog 40 #[.int .i64 x, .int .i64 y] w fun e w' => e = .returned (.bool (decide (x > y))) ∧ Below w.heap.size w w' := by
  go_enter Tryd.func40, Tryd.ntmps40
  go_wp2
  go_ret
  exact ⟨rfl, Below.refl _ _⟩
set_option maxRecDepth 100000 in
set_option maxHeartbeats 4000000 in
theorem max_any (w : World) (A : Option Addr) (args : List FArg) (c : Nat) (hA : AtA w A args) (hk : ∀ a ∈ args, ∀ v ∈ FArg.vs a, v.1 = 1 ∨ v.1 = 0 ∨ a.rg = true) (hmany : (args.flatMap FArg.vs).length ≤ 1000000) :
    Calls Tryd.prog 19 #[.agg #[.slice A args.length c]] w fun e w' => e = .returned (.agg #[.int .i64 1, .int .i64 (best (fun x y => decide (x > y)) (intsOf args) (intsOf args).length).2.1, .string (best (fun x y => decide (x > y)) (intsOf args) (intsOf args).length).2.2]) ∧ Below w.heap.size w w' := by
  have C := Lib.hid (fun W (hW : AtA W A args) => best_any W A args c hW hk hmany 40 (fun x y => decide (x > y)) (fun us W => run_enter Tryd.func40 (by kernel_rfl) rfl us W) (fun W x y => max1_any W x y))
  clear hk hmany
  obtain ⟨bn, hbn⟩ : ∃ bn, (best (fun x y => decide (x > y)) (intsOf args) (intsOf args).length).2.1 = bn := ⟨_, rfl⟩
  obtain ⟨bs, hbs⟩ : ∃ bs, (best (fun x y => decide (x > y)) (intsOf args) (intsOf args).length).2.2 = bs := ⟨_, rfl⟩
  rw [hbn, hbs] at C ⊢
  clear hbn hbs
  have hb0 := ((Below.refl w.heap.size w).alloc (Nat.le_refl _) (.cells #[.slice A args.length c] 44)).alloc (by simp) (.cells #[.int .i64 0, .int .i64 0, .string ⟨#[]⟩] 31)
  have hX : ((w.alloc (.cells #[.slice A args.length c] 44)).alloc (.cells #[.int .i64 0, .int .i64 0, .string ⟨#[]⟩] 31)).heap[w.heap.size + 1]? = some (.cells #[.int .i64 0, .int .i64 0, .string ⟨#[]⟩] 31 (0, 0)) := by rw [← World.size_alloc w (.cells #[.slice A args.length c] 44)]; exact heap_alloc_new _ _
  have hA0 := hA.below hb0
  go_enter Tryd.func19, Tryd.ntmps19
  go_wp2_with fail
  refine (C.out _ hA0).mono ?_
  rintro e w1 ⟨rfl, hb1⟩
  have hX1 := (hb1.block _ (Array.getElem?_eq_some_iff.1 hX).1).trans hX
  have hb2 := hb0.trans (hb1.mono hb0.size)
  obtain ⟨R, hR⟩ : ∃ R, w.heap.size + 1 = R := ⟨_, rfl⟩
  rw [hR] at hX1 ⊢
  have HR := Lib.hid (show w.heap.size ≤ R by omega)
  clear hR hb1 hX hA0 hb0 C
  obtain ⟨v0, v1, v2, z0, z1, z2⟩ := val3 hX1
  go_wp2
  have hz := val_store (x := .int .i64 1) (y := .int .i64 bn) (z := .string bs) hX1
  obtain ⟨u0, u1, u2, _⟩ := val3 hz
  refine bodyPost_ret (v := .agg #[.int .i64 1, .int .i64 bn, .string bs]) ?_ rfl ?_
  · simp [results, Tryd.f19, go_sem, u0, u1, u2]
  · exact ⟨rfl, ((hb2.setCell (p := ⟨R, 0, none⟩) HR.out _).setCell (p := ⟨R, 1, none⟩) HR.out _).setCell (p := ⟨R, 2, none⟩) HR.out _⟩
end Go.Proofs.YtcbaioagcemmnaaDoor
