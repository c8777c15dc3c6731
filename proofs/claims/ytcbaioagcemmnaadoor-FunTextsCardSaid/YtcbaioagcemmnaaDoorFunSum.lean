/- (fun.call).sum, law8.awake. Written by funsum2gen.py. -/
import Derived.Test.YtcbaioagcemmnaaDoorFunInts
namespace Go.Proofs.YtcbaioagcemmnaaDoor
open Go.RowKit Go.Maps
/-- the sum of the first k -/
def psum (l : List V3) (k : Nat) : Int := ((l.take k).map fun v => v.2.1).sum
theorem psum_succ {l : List V3} {k : Nat} {y : V3} (h : l[k]? = some y) : psum l (k + 1) = psum l k + y.2.1 := by
  obtain ⟨hk, rfl⟩ := List.getElem?_eq_some_iff.1 h
  unfold psum
  rw [List.take_succ_eq_append_getElem hk, List.map_append, List.sum_append]
  simp
theorem mem_ints {args : List FArg} {y : V3} (h : y ∈ intsOf args) : y.1 = 1 := by
  have := (List.mem_filter.1 h).2
  simpa using this
set_option maxRecDepth 100000 in
set_option maxHeartbeats 4000000 in
theorem sum_any (w : World) (A : Option Addr) (args : List FArg) (c : Nat) (hA : AtA w A args) (hk : ∀ a ∈ args, ∀ v ∈ FArg.vs a, v.1 = 1 ∨ v.1 = 0 ∨ a.rg = true) (hmany : (args.flatMap FArg.vs).length ≤ 1000000)
    (hv : ∀ v ∈ intsOf args, InR v.2.1) (hs : ∀ k, InR (psum (intsOf args) k)) :
    Calls Tryd.prog 17 #[.agg #[.slice A args.length c]] w fun e w' => e = .returned (.agg #[.int .i64 1, .int .i64 (psum (intsOf args) (intsOf args).length), .string ⟨#[]⟩]) ∧ Below w.heap.size w w' := by
  have CI := Lib.hid (fun W (hW : AtA W A args) => ints_any W A args c hW hk hmany)
  have HV := Lib.hid hv
  have HS := Lib.hid hs
  have HM := Lib.hid (fun y (h : y ∈ intsOf args) => mem_ints h)
  have hlen : (intsOf args).length ≤ 1000000 := by
    have := intsOf_len args args.length
    rw [List.take_length] at this
    omega
  clear hk hmany hv hs
  obtain ⟨l, hl⟩ : ∃ l, intsOf args = l := ⟨_, rfl⟩
  rw [hl] at CI HV HS HM hlen ⊢
  clear hl
  go_enter Tryd.func17, Tryd.ntmps17
  have hb0 := ((Below.refl w.heap.size w).alloc (Nat.le_refl _) (.cells #[.slice A args.length c] 44)).alloc (by simp) (.cells #[.int .i64 0, .int .i64 0, .string ⟨#[]⟩] 31)
  have hX : ((w.alloc (.cells #[.slice A args.length c] 44)).alloc (.cells #[.int .i64 0, .int .i64 0, .string ⟨#[]⟩] 31)).heap[w.heap.size + 1]? = some (.cells #[.int .i64 0, .int .i64 0, .string ⟨#[]⟩] 31 (0, 0)) := by rw [← World.size_alloc w (.cells #[.slice A args.length c] 44)]; exact heap_alloc_new _ _
  have hA0 := hA.below hb0
  go_wp2_with fail
  refine (CI.out _ hA0).mono ?_
  rintro e w1 ⟨B, cb, rfl, hb1, hV1⟩
  have hX1 := (hb1.block _ (Array.getElem?_eq_some_iff.1 hX).1).trans hX
  have hb2 := hb0.trans (hb1.mono hb0.size)
  obtain ⟨R, hR⟩ : ∃ R, w.heap.size + 1 = R := ⟨_, rfl⟩
  rw [hR] at hX1 ⊢
  have hRl := Lib.hid hR
  clear hX hb0 hA0 hA CI hb1 hR
  go_wp2_with fail
  refine (num_any _ 0).mono ?_
  rintro e w2 ⟨rfl, hb3⟩
  have hX2 := (hb3.block _ (Array.getElem?_eq_some_iff.1 hX1).1).trans hX1
  have hb4 := hb2.trans (hb3.mono hb2.size)
  have hV2 := hV1.below hb3
  clear hX1 hb2 hV1 hb3
  have hs4 := hb4.size
  have hRR : R < w2.heap.size := (Array.getElem?_eq_some_iff.1 hX2).1
  have hN0 := heap_alloc_new w2 (.cells #[.int .i64 1, .int .i64 0, .string ⟨#[]⟩] 31)
  have hbW : Below w2.heap.size w2 (w2.alloc (.cells #[.int .i64 1, .int .i64 0, .string ⟨#[]⟩] 31)) := (Below.refl _ _).alloc (Nat.le_refl _) _
  go_wp2_with fail
  obtain ⟨Nb, hNb⟩ : ∃ Nb, w2.heap.size = Nb := ⟨_, rfl⟩
  rw [hNb] at hN0 hbW ⊢
  have hp0 : psum l 0 = 0 := rfl
  go_loopw [19] (fun u wr => ∃ k : Nat, k ≤ l.length ∧ u = .int .i64 k ∧ wr.heap[Nb]? = some (.cells #[.int .i64 1, .int .i64 (psum l k), .string ⟨#[]⟩] 31 (0, 0)) ∧ Below Nb w2 wr) (fun u _ => l.length - (intOf u).toNat)
  case atStart => exact ⟨0, Nat.zero_le _, rfl, hN0, hbW⟩
  case round =>
    obtain ⟨k, hk, rfl, hNr, hbr⟩ := hrel
    have hsr := hbr.size
    have hNl := Lib.hid (Array.getElem?_eq_some_iff.1 hNr).1
    by_cases hlt : k < l.length
    · have hi1 := Lib.hid (show k + 1 ≤ l.length by omega)
      have hi2 := Lib.hid (show l.length - (k + 1) < l.length - k by omega)
      obtain ⟨b, o, hAe, hcells⟩ := (hV2.below (hNb ▸ hbr)).2 (by omega)
      obtain ⟨y, hy⟩ : ∃ y, l[k]? = some y := ⟨_, List.getElem?_eq_getElem hlt⟩
      obtain ⟨d0, d1, d2⟩ := hcells k y hy
      have hmy := List.mem_of_getElem? hy
      have hy1 := HM.out y hmy
      have hyr := HV.out y hmy
      have hps := psum_succ hy
      have r1 := HS.out k
      have r2 := HS.out (k + 1)
      obtain ⟨yk, yn, ys⟩ := y
      simp only at d0 d1 d2 hy1 hyr hps
      subst hy1 hAe
      rw [hps] at r2
      have C := Lib.hid (fun W => two_sum W 1 1 (psum l k) yn ⟨#[]⟩ ys (.inl rfl) (.inl rfl) r1 hyr)
      rw [show resV (psum l k + yn) = (1, psum l k + yn, ⟨#[]⟩) from if_pos r2] at C
      have hN3 := (Below.heap_alloc wr (.cells #[.int .i64 1, .int .i64 yn, .string ys] 31) Nb hNl.out).trans hNr
      have hb5 := hbr.alloc (by have := hNl.out; omega) (.cells #[.int .i64 1, .int .i64 yn, .string ys] 31)
      obtain ⟨q0, q1, q2, z0, z1, z2⟩ := val3 hN3
      have HPS := Lib.hid hps
      clear hcells hy hmy hyr hps r1 r2 hNr
      go_wp2_with fail
      refine (C.out _).mono ?_
      rintro e w5 ⟨rfl, hb6⟩
      have hN5 := (hb6.block Nb (by have := hNl.out; simp; omega)).trans hN3
      have hb7 := hb5.trans (hb6.mono (by have := hNl.out; simp; omega))
      clear q0 q1 q2 z0 z1 z2
      obtain ⟨q0, q1, q2, z0, z1, z2⟩ := val3 hN5
      go_wp2
      go_roundw
      case rel =>
        refine ⟨k + 1, hi1.out, by go_num, ?_, ((hb7.setCell (p := ⟨Nb, 0, none⟩) (Nat.le_refl _) _).setCell (p := ⟨Nb, 1, none⟩) (Nat.le_refl _) _).setCell (p := ⟨Nb, 2, none⟩) (Nat.le_refl _) _⟩
        rw [HPS.out]
        exact val_store (x := .int .i64 1) (y := .int .i64 (psum l k + yn)) (z := .string ⟨#[]⟩) hN5
      case measure => first | (simp [intOf]; done) | exact hi2.out | (have := hi2.out; simp [intOf]; omega)
    · have hie : k = l.length := by omega
      subst hie
      have hXr := ((hNb ▸ hbr).block R hRR).trans hX2
      obtain ⟨q0, q1, q2, _⟩ := val3 hNr
      obtain ⟨v0, v1, v2, z0, z1, z2⟩ := val3 hXr
      have hbz := hb4.trans ((hNb ▸ hbr).mono hs4)
      have HRL := hRl.out
      clear hNb hN0 hbW hbr
      go_wp2
      have hz := val_store (x := .int .i64 1) (y := .int .i64 (psum l l.length)) (z := .string ⟨#[]⟩) hXr
      obtain ⟨u0, u1, u2, _⟩ := val3 hz
      refine bodyPost_ret (v := .agg #[.int .i64 1, .int .i64 (psum l l.length), .string ⟨#[]⟩]) ?_ rfl ?_
      · simp [results, Tryd.f17, go_sem, u0, u1, u2]
      · exact ⟨rfl, ((hbz.setCell (p := ⟨R, 0, none⟩) (by show w.heap.size ≤ R; omega) _).setCell (p := ⟨R, 1, none⟩) (by show w.heap.size ≤ R; omega) _).setCell (p := ⟨R, 2, none⟩) (by show w.heap.size ≤ R; omega) _⟩
end Go.Proofs.YtcbaioagcemmnaaDoor
