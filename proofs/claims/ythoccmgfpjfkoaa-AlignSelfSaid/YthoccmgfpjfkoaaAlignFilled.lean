/- The walk of align.filled. Written by filledgen.py. -/
import Derived.Test.YthoccmgfpjfkoaaAlignFst
import Derived.Lib.Hide
import Derived.Deep.RegionHeld3
namespace Go.Proofs.Ythoccmgfpjfkoaa
open Go.RowKit Go.Shelf

attribute [local go_sem] Oper.semAt_some

set_option maxRecDepth 100000 in
set_option maxHeartbeats 2000000 in
theorem alignFilled_any (w : World) (ad : Addr) (m : List Int) (c : Nat) (N : Int) (hA : At1 vInt w (some ad) m) (hl : m.length ≤ 1000) (hm : Al.Fit 1000000 m) (hN : 0 ≤ N) (hN2 : N ≤ 1000000) (hlt : ad.block < w.heap.size) :
    Calls Try.prog 42 #[.agg #[.slice (some ad) m.length c, .int .i64 N]] w fun e w' => ∃ v, e = .returned (.agg #[v, .int .i64 N]) ∧ w'.ownsRow w.heap.size 3 1 v m.length ((Al.fill m N 0).map vInt) ∧ Below w.heap.size w w' := by
  refine (callsIn_wide (n := 3)).1 ?_
  refine callsIn_of_wp_marks Try.func42 rfl trivial ?_ rfl
  simp only [Try.ntmps42, List.size_toArray, List.length_cons, List.length_nil, Nat.reduceAdd, Nat.reduceSub, Array.replicate_succ, Array.replicate_zero, List.push_toArray, List.append_toArray, List.nil_append, List.cons_append]
  have H := Lib.hid hA
  have HM := Lib.hid hm
  clear hA hm
  gi_wp2
  have hW : ∃ W, W = ((w.alloc (.cells #[.slice (some ad) m.length c, .int .i64 N] 30)).alloc (.cells #[.slice none 0 0, .int .i64 0] 30)) := ⟨_, rfl⟩
  obtain ⟨W, hW⟩ := hW
  have b0 : W.cell? ⟨w.heap.size, 0, none⟩ = some (.slice (some ad) m.length c) := by rw [hW]; simp
  have b1 : W.cell? ⟨w.heap.size, 1, none⟩ = some (.int .i64 N) := by rw [hW]; simp
  have hA2 : At1 vInt W (some ad) m := by rw [hW]; exact (H.out.alloc _).alloc _
  have hs2 : W.heap.size = w.heap.size + 2 := by rw [hW]; simp
  have hbW : Below w.heap.size w W := by rw [hW]; exact ((Below.refl _ _).alloc (Nat.le_refl _) _).alloc (by simp) _
  have hW0 : W.heap[w.heap.size + 1]? = some (.cells #[.slice none 0 0, .int .i64 0] 30) := by rw [hW]; simpa using heap_alloc_new (w.alloc (.cells #[.slice (some ad) m.length c, .int .i64 N] 30)) (.cells #[.slice none 0 0, .int .i64 0] 30)
  rw [← hW]
  clear hW
  refine wpIn_wide.2 ?_
  refine wp_region_noPanic ?_
  refine wp_region_tree [7] (.free 0 (.free 1 (.free 3 (.free 4 (.alt 2 (.free 5 (.eff 6 (.last 7 .nil))) 6 (.eff 2 (.free 5 (.last 7 .nil)))))))) (by kernel_rfl) (by kernel_rfl) (fun _ _ _ _ _ h => h) ?_
  conv => arg 4; whnf
  conv => arg 4; arg 1; whnf
  refine pt_free (by rfl) (fun K hK => ?_)
  go_big_quiet_op
  refine ⟨_, fun _ _ => rfl, hK _ ?_⟩
  clear hK K
  conv => arg 4; whnf
  conv => arg 4; arg 1; whnf
  refine pt_load (fun W h => load_ints _ _ W h) (p := ⟨w.heap.size, 0, none⟩) b0 (by show w.heap.size < W.heap.size; omega) (by rfl) rfl rfl ?_
  simp only [Act.put, List.setIfInBounds_toArray, List.set_cons_zero, List.set_cons_succ]
  conv => arg 4; whnf
  conv => arg 4; arg 1; whnf
  refine pt_free (by rfl) (fun K hK => ?_)
  go_big_quiet_op
  refine ⟨_, fun _ _ => rfl, hK _ ?_⟩
  clear hK K
  conv => arg 4; whnf
  conv => arg 4; arg 1; whnf
  refine pt_load (fun W h => load_int _ _ W h) (p := ⟨w.heap.size, 1, none⟩) b1 (by show w.heap.size < W.heap.size; omega) (by rfl) rfl rfl ?_
  simp only [Act.put, List.setIfInBounds_toArray, List.set_cons_zero, List.set_cons_succ]
  conv => arg 4; whnf
  refine pt_alt ?_ ?_
  · skip
    conv => arg 4; whnf
    conv => arg 4; arg 1; whnf
    refine pt_eff (by rfl) (fun K hK => ?_)
    go_wp2_with fail
    refine (clone_any _ (some ad) m c hA2.drew hl).mono ?_
    rintro e w1 ⟨v, rfl, hown, hb1⟩
    refine hK _ _ hb1 ?_
    clear hK K
    obtain ⟨A2, c2, rfl, hc2⟩ := own_form hown
    conv => arg 4; whnf
    conv => arg 4; arg 1; whnf
    refine pt_free (by rfl) (fun K hK => ?_)
    go_big_quiet_op
    refine ⟨_, fun _ _ => rfl, hK _ ?_⟩
    clear hK K
    conv => arg 4; whnf
    conv => arg 4; arg 1; whnf
    refine pt_eff (by rfl) (fun K hK => ?_)
    go_wp2
    refine hK _ _ ((Below.refl _ _).alloc (Nat.le_refl _) _) ?_
    clear hK K
    conv => arg 4; whnf
    conv => arg 4; arg 1; whnf
    refine pt_last (by rfl) (fun K hK => ?_)
    go_wp2
    refine pt_nil (NoPanic.normal ?_)
    obtain ⟨O, hOe⟩ : ∃ O, w1.heap.size = O := ⟨_, rfl⟩
    obtain ⟨W2, hW2⟩ : ∃ W2, W2 = w1.alloc (.cells #[.slice A2 m.length c2, .int .i64 N] 30) := ⟨_, rfl⟩
    have hs1 : w.heap.size + 2 ≤ w1.heap.size := by rw [← hs2]; exact hb1.size
    have hO : W2.heap[O]? = some (.cells #[.slice A2 m.length c2, .int .i64 N] 30) := by rw [hW2, ← hOe]; exact heap_alloc_new w1 _
    have hownB : W2.ownsRow W.heap.size 3 1 (.slice A2 m.length c2) m.length (m.map vInt) := by rw [hW2]; exact hown.alloc _
    have hap : ∀ k, (Value.slice A2 m.length c2).ownBlock = some k → k ≠ O := fun k e => by have := (hown.lt k e).2; omega
    have hOl : w.heap.size + 2 ≤ O ∧ O < W2.heap.size := by rw [hW2, World.size_alloc]; omega
    have hB12 : Below W.heap.size W W2 := by rw [hW2]; exact (show Below W.heap.size W w1 from (Below.refl _ W).drew.trans hb1).alloc hb1.size _
    rw [← hW2, hOe]
    clear hW2 hOe hs1 hown hb1 hc2
    have x0 := (hB12.cell (p := ⟨w.heap.size, 0, none⟩) (by show w.heap.size < W.heap.size; omega)).trans b0
    have x1 := (hB12.cell (p := ⟨w.heap.size, 1, none⟩) (by show w.heap.size < W.heap.size; omega)).trans b1
    have hR2 := (hB12.block (w.heap.size + 1) (by omega)).trans hW0
    have hBw : Below w.heap.size w W2 := hbW.trans (hB12.mono hbW.size)
    have hrow : ∀ k, (Value.slice A2 m.length c2).ownBlock = some k → w.heap.size + 2 ≤ k ∧ k < W2.heap.size := fun k e => by have := hownB.lt k e; omega
    have hown2 := own_base hownB hbW.size
    have y0 := (World.cell?_alloc_lt W2 (.cells #[.int .i64 N] 3) ⟨w.heap.size, 0, none⟩ (by show w.heap.size < W2.heap.size; omega)).trans x0
    have n0 := World.new_ne W2 _ x0
    clear b0 b1 hA2 hs2 hbW hW0 hB12 hownB
    gi_wp2_with (refine ⟨trivial, ?_⟩; gi_at_call 54; refine (back_in Fence.wide 2 trivial rfl _ _ _ _).mono ?_; rintro e w' ⟨rfl, rfl⟩)
    obtain ⟨NX, hNX⟩ : ∃ NX, W2.heap.size = NX := ⟨_, rfl⟩
    obtain ⟨W4, hW4⟩ : ∃ W4, W4 = (W2.alloc (.cells #[.int .i64 N] 3)).alloc (.cells #[.slice (some ad) m.length c] 25) := ⟨_, rfl⟩
    have hB4 : Below W2.heap.size W2 W4 := by rw [hW4]; exact ((Below.refl _ _).alloc (Nat.le_refl _) _).alloc (by rw [World.size_alloc]; exact Nat.le_succ _) _
    have hs4 : W4.heap.size = NX + 2 := by rw [hW4, ← hNX]; simp
    have hn4 : W4.heap[NX]? = some (.cells #[.int .i64 N] 3 (0, 0)) := by rw [hW4, ← hNX]; exact (Below.heap_alloc _ _ _ (by simp)).trans (heap_alloc_new W2 _)
    have hx5 : W4.heap[NX + 1]? = some (.cells #[.slice (some ad) m.length c] 25 (0, 0)) := by rw [hW4, ← hNX]; have := heap_alloc_new (W2.alloc (.cells #[.int .i64 N] 3)) (.cells #[.slice (some ad) m.length c] 25); rwa [World.size_alloc] at this
    have hx4 : W4.cell? ⟨NX + 1, 0, none⟩ = some (.slice (some ad) m.length c) := by simp [World.cell?, hx5]
    have hA4 : ∀ (j : Nat) (x : Int), m[j]? = some x → W4.cell? (ad.add j) = some (.int .i64 x) := fun j x hx => by
      obtain ⟨ad', e, hc⟩ := ((H.out.below hBw).below hB4).2 (by have := (List.getElem?_eq_some_iff.1 hx).1; omega)
      injection e with e
      subst e
      exact hc j x hx
    have F4 : FSt w (w.heap.size + 1) O NX (NX + 2) A2 c2 m.length N N m W4 :=
      ⟨hn4, (hB4.block O hOl.2).trans hO, (hB4.block _ (by omega)).trans hR2, own_below hown2 hB4, hBw.trans (hB4.mono hBw.size), ⟨by omega, by omega, by omega, by omega, by omega, by omega, by omega, by omega, by omega⟩,
        fun k e => by have h1 := hrow k e; have h2 := hap k e; exact ⟨by omega, h2, by omega, by omega⟩, rfl, by omega⟩
    rw [← hW4, hNX]
    have hadl : ad.block < W4.heap.size := by have := hBw.size; omega
    have hadn : ad.block < NX := by have := hBw.size; omega
    clear hW4 hB4 hn4 hx5 hO hap hOl x0 x1 hR2 hBw hrow hown2 y0 n0
    refine wpIn_rangeFunc_ownF rfl (by omega) (gf := 63) (lb := #[.pointer (some ⟨NX + 1, 0, none⟩)]) rfl trivial (enters_of Try.func63 (by kernel_rfl) rfl)
      (back_stops Fence.wide (3 - 1) trivial rfl (by omega) (NX + 1) ad c m hl W4 (by omega) hadl hx4 hA4)
      (fun h k => h.trans k) (fun W' l o o' hl' ho _ _ => fun p hp => World.cell?_of_block (World.putObj_heap_other (by rcases hp with hp | hp <;> omega))) (Below.refl _ _) (fun _ => rfl)
      (fun pre W' => ∃ nx o, FSt w (w.heap.size + 1) O NX (NX + 2) A2 c2 m.length N nx o W' ∧ (0 ≤ nx ∧ nx ≤ 1000000) ∧ ∀ j, j ≤ m.length → pre.map Spot.i = (List.range' j (m.length - j)).reverse → Back m N nx o j)
      (fun _ _ _ => False)
      (fun s A B row hs hg hr => by
        obtain ⟨nx, o, F, h2, h3⟩ := hs
        exact ⟨nx, o, F.kept hg (fun r e => by have := (hr r e).1; omega), h2, h3⟩)
      (fun _ _ _ _ _ hs _ _ => hs)
      ⟨N, m, F4, ⟨hN, hN2⟩, fun j hj he => by
        have : j = m.length := by have := congrArg List.length he; simp at this; omega
        subst this; exact back_start m N⟩
      (fun x => { tmps := #[.agg #[.slice (some ad) m.length c, .int .i64 N], .pointer (some ⟨w.heap.size, 0, none⟩), .pointer (some ⟨w.heap.size + 1, 0, none⟩), .pointer (some ⟨O, 0, none⟩), .pointer (some ⟨NX, 0, none⟩), .int .i64 (x.i : Int), .int .i64 x.v, undef, undef, undef,
        .pointer (some ⟨w.heap.size, 0, none⟩), .slice (some ad) m.length c, .slice A2 m.length c2, .pointer (some ⟨w.heap.size, 1, none⟩), .int .i64 N, .agg #[.slice A2 m.length c2, .int .i64 N], .pointer (some ⟨w.heap.size, 1, none⟩), .int .i64 N, .pointer (some ⟨w.heap.size, 0, none⟩), .slice (some ad) m.length c,
        .func (.func 63) #[] #[.pointer (some ⟨NX + 1, 0, none⟩)], .int .i64 (x.i : Int), .int .i64 x.v, undef, undef, undef, undef, undef, undef, undef, undef, undef, undef, undef, undef, undef, undef, undef, undef, undef, undef, undef, undef, undef, undef, undef, undef, undef, undef, undef, undef, undef, undef, undef, undef, undef, undef, undef, undef, undef, undef, undef, undef], defers := [] }) ?assign ?body ?done ?stop
    case assign =>
      intro l x W' K hK
      gi_wp2
      exact hK
    case body =>
      rintro l pre x W' ⟨nx, o, F, ⟨hx0, hx1⟩, hJ⟩ _
      obtain ⟨f1, f2, f3, f4, f5, f6, f7, f8⟩ := F.facts
      have hxv := x.h
      have hxf := HM.out x.v (List.mem_of_getElem? hxv)
      have hpos : x.i < m.length := (List.getElem?_eq_some_iff.1 hxv).1
      by_cases h0 : 0 ≤ x.v
      · gi_wp2
        exact ⟨KeepsOthers.setCell _ _ _, (KeptP.refl _ _ _).set (by show NX ≠ _; omega) (by show NX ≠ _; omega) _, x.v, o, F.setNext x.v, ⟨h0, by omega⟩, fun j hj he => by
          obtain ⟨q1, q2, q3⟩ := down_inv he hj
          subst q2
          exact back_pair (hJ _ q1 q3) hxv h0⟩
      · obtain ⟨g, rfl⟩ := F.some_ (by omega)
        have hol : x.i < o.length := by rw [F.len]; exact hpos
        obtain ⟨c1, c3, _⟩ := own_cell F.own (i := x.i) (x := vInt o[x.i]) (by rw [List.getElem?_map, List.getElem?_eq_getElem hol]; rfl)
        have hgr := F.row g rfl
        have hi1 : (x.i : Int) < (m.length : Int) := by omega
        gi_wp2
        exact ⟨KeepsOthers.setCell _ _ _, (KeptP.refl _ _ _).set (by show g ≠ _; omega) (by show g ≠ _; omega) _, nx, o.set x.i (-1 - nx), F.setOut x.i _, ⟨hx0, hx1⟩, fun j hj he => by
          obtain ⟨q1, q2, q3⟩ := down_inv he hj
          subst q2
          exact back_free (hJ _ q1 q3) hxv (by omega)⟩
    case done =>
      rintro D ys W' hD hys ⟨nx, o, F, _, hJ⟩ hK
      obtain ⟨_, rfl⟩ := hJ 0 (Nat.zero_le _) (by simpa using hys)
      rw [List.take_zero, List.drop_zero, List.nil_append] at F
      obtain ⟨f1, f2, f3, f4, f5, f6, f7, f8⟩ := F.facts
      gi_wp2
      gi_loopw [7, 35] (fun f i wr => ∃ (j : Nat) (fr : Int) (o : List Int), j ≤ m.length ∧ f = .int .i64 fr ∧ i = .int .i64 j ∧ 0 ≤ fr ∧ fr ≤ 1000000 ∧ FSt w (w.heap.size + 1) O NX (NX + 2) A2 c2 m.length N nx o wr ∧ Hid (Forth m N fr o j) ∧ wr.heap[D]? = some (.deferred (some []))) (fun _ i _ => m.length - (intOf i).toNat)
      case atStart => exact ⟨0, 0, _, Nat.zero_le _, rfl, rfl, by omega, by omega, F, forth_start m N, hK⟩
      case round =>
        clear F f1 f2 f3 f4 f5 f6 f7 f8 hK
        obtain ⟨j, fr, o, hj, rfl, rfl, hf0, hf1, F, hF, hK⟩ := hrel
        obtain ⟨f1, f2, f3, f4, f5, f6, f7, f8⟩ := F.facts
        by_cases hlj : j < m.length
        · obtain ⟨g, rfl⟩ := F.some_ (by omega)
          have hv := forth_val hF.out hlj
          obtain ⟨c1, c3, _⟩ := own_cell F.own (i := j) (by rw [List.getElem?_map, hv]; rfl)
          have hgr := F.row g rfl
          have hmj := HM.out m[j] (List.getElem_mem _)
          have hDg : D ≠ g := by omega
          by_cases h0 : 0 ≤ m[j]
          · have hF2 := Lib.hid (forth_pair hF.out hlj h0)
            rw [if_pos h0] at c1
            clear hF hv
            generalize m[j] = t at *
            gi_wp2
            go_roundw
            case rel => exact ⟨j + 1, t + 1, o, by omega, by go_num, by go_num, by omega, by omega, F, hF2, hK⟩
            case measure => first | (simp [intOf]; done) | (simp [intOf]; omega)
          · have hnf := Al.nextOf_fit (HM.out.drop (j + 1)) hN hN2
            have hF3 := fun hx => Lib.hid (forth_free hF.out hlj h0 hx)
            have hF4 := fun hx => Lib.hid (forth_none hF.out hlj h0 hx)
            rw [if_neg h0] at c1
            clear hF hv
            generalize Al.nextOf (m.drop (j + 1)) N = z at *
            obtain ⟨k, hk⟩ : ∃ k, k = -1 - z := ⟨_, rfl⟩
            rw [← hk] at c1
            have hk0 : k < 0 := by omega
            have hwk : wrap64 (-1 - k) = z := by rw [IntWalk.wrap64_in _ (by omega)]; omega
            by_cases hx : fr < z
            · have hF5 := hF3 hx
              clear hF3 hF4 hk h0 hmj
              gi_wp2
              go_roundw
              case rel => exact ⟨j + 1, fr + 1, o.set j fr, by omega, by go_num, by go_num, by omega, by omega, F.setOut j fr, hF5, (blkSet hDg).trans hK⟩
              case measure => first | (simp [intOf]; done) | (simp [intOf]; omega)
            · have hF5 := hF4 hx
              clear hF3 hF4 hk h0 hmj
              gi_wp2
              go_roundw
              case rel => exact ⟨j + 1, fr, o.set j (-1), by omega, by go_num, by go_num, by omega, by omega, F.setOut j (-1), hF5, (blkSet hDg).trans hK⟩
              case measure => first | (simp [intOf]; done) | (simp [intOf]; omega)
        · obtain rfl : j = m.length := by omega
          obtain rfl := forth_end hF.out
          gi_wp2
          have hlim := F.lim
          have hK2 : ((wr.setCell ⟨w.heap.size + 1, 0, none⟩ (.slice A2 m.length c2)).setCell ⟨w.heap.size + 1, 1, none⟩ (.int .i64 N)).heap[D]? = some (.deferred (some [])) := (blkSet (by show D ≠ w.heap.size + 1; omega)).trans ((blkSet (by show D ≠ w.heap.size + 1; omega)).trans hK)
          refine ⟨by simp, .inl ⟨_, _, rfl, run_takeDeferred hK2, ?_⟩⟩
          have hz : ((wr.setCell ⟨w.heap.size + 1, 0, none⟩ (.slice A2 m.length c2)).setCell ⟨w.heap.size + 1, 1, none⟩ (.int .i64 N)).heap[w.heap.size + 1]? = some (.cells #[.slice A2 m.length c2, .int .i64 N] 30 (0, 0)) := by simp [World.setCell, Array.getElem?_modify, F.res]
          have ho := ownsRow_setCell_other (ownsRow_setCell_other F.own (fun e => (F.row _ e).1 rfl) (.slice A2 m.length c2) (a := ⟨w.heap.size + 1, 0, none⟩)) (fun e => (F.row _ e).1 rfl) (.int .i64 N) (a := ⟨w.heap.size + 1, 1, none⟩)
          have hbl := (F.below.setCell (p := ⟨w.heap.size + 1, 0, none⟩) (Nat.le_succ _) (.slice A2 m.length c2)).setCell (p := ⟨w.heap.size + 1, 1, none⟩) (Nat.le_succ _) (.int .i64 N)
          have hrw := F.row
          generalize (wr.setCell ⟨w.heap.size + 1, 0, none⟩ (.slice A2 m.length c2)).setCell ⟨w.heap.size + 1, 1, none⟩ (.int .i64 N) = W5 at *
          obtain ⟨c0, c1, _⟩ := zfacts ((World.putObj_heap_other (w := W5) (o := .deferred none) (show w.heap.size + 1 ≠ D by omega)).trans hz)
          refine ⟨.agg #[.slice A2 m.length c2, .int .i64 N], ?_, _, rfl, ho.kept (grownBy_putObj' _ D (.deferred none)) ?_, hbl.trans (belowK_b (w := w) (Nat.le_refl _) W5 D _ _ (by omega) hK2 rfl rfl)⟩
          · simp [results, Try.f42, go_sem, c0, c1]
          · cases hk : (Value.slice A2 m.length c2).ownBlock with
            | none => exact .inl rfl
            | some k => exact .inr fun e => by injection e with e; have := (hrw k hk).2.2.1; omega
    case stop =>
      rintro D cc pre W' _ _ h _
      exact h.elim
  · skip
    conv => arg 4; whnf
    conv => arg 4; arg 1; whnf
    refine pt_eff (by rfl) (fun K hK => ?_)
    go_wp2
    refine hK _ _ ((Below.refl _ _).alloc (Nat.le_refl _) _) ?_
    clear hK K
    conv => arg 4; whnf
    conv => arg 4; arg 1; whnf
    refine pt_eff (by rfl) (fun K hK => ?_)
    go_wp2_with fail
    refine (clone_any _ (some ad) m c (hA2.drew.alloc _) hl).mono ?_
    rintro e w1 ⟨v, rfl, hown, hb1⟩
    refine hK _ _ hb1 ?_
    clear hK K
    obtain ⟨A2, c2, rfl, hc2⟩ := own_form hown
    have zb := (hb1.block W.heap.size (by show W.heap.size < (W.drew.alloc _).heap.size; rw [World.size_alloc]; exact Nat.lt_succ_self _)).trans (heap_alloc_new W.drew _)
    rw [hs2] at zb
    obtain ⟨z0, z1, z2, z3⟩ := zfacts zb
    conv => arg 4; whnf
    conv => arg 4; arg 1; whnf
    refine pt_free (by rfl) (fun K hK => ?_)
    go_big_quiet_op
    refine ⟨_, fun _ _ => rfl, hK _ ?_⟩
    clear hK K
    conv => arg 4; whnf
    conv => arg 4; arg 1; whnf
    refine pt_last (by rfl) (fun K hK => ?_)
    go_wp2
    refine pt_nil (NoPanic.normal ?_)
    obtain ⟨O, hOe⟩ : ∃ O, w.heap.size + 2 = O := ⟨_, rfl⟩
    obtain ⟨W2, hW2⟩ : ∃ W2, W2 = (w1.setCell ⟨w.heap.size + 2, 0, none⟩ (.slice A2 m.length c2)).setCell ⟨w.heap.size + 2, 1, none⟩ (.int .i64 N) := ⟨_, rfl⟩
    have e3 : (W.drew.alloc (.cells #[.slice none 0 0, .int .i64 0] 30)).heap.size = W.heap.size + 1 := by rw [World.size_alloc]; rfl
    have hs1 : w.heap.size + 3 ≤ w1.heap.size := by have := hb1.size; omega
    have hlow : ∀ k, (Value.slice A2 m.length c2).ownBlock = some k → w.heap.size + 3 ≤ k := fun k e => by have := (hown.lt k e).1; omega
    have hO : W2.heap[O]? = some (.cells #[.slice A2 m.length c2, .int .i64 N] 30) := by rw [hW2, ← hOe]; simp [World.setCell, Array.getElem?_modify, zb]
    have hownB : W2.ownsRow W.heap.size 3 1 (.slice A2 m.length c2) m.length (m.map vInt) := by
      rw [hW2]
      exact ownsRow_setCell_other (ownsRow_setCell_other (own_base hown (by rw [World.size_alloc]; exact Nat.le_succ _)) (fun e => by have := hlow _ e; simp at this) _) (fun e => by have := hlow _ e; simp at this) _
    have hap : ∀ k, (Value.slice A2 m.length c2).ownBlock = some k → k ≠ O := fun k e => by have := hlow k e; omega
    have hOl : w.heap.size + 2 ≤ O ∧ O < W2.heap.size := by rw [hW2]; simp; omega
    have hB12 : Below W.heap.size W W2 := by
      rw [hW2]
      exact ((show Below W.heap.size W w1 from ((Below.refl _ W).drew.alloc (Nat.le_refl _) _).trans (hb1.mono (by rw [World.size_alloc]; exact Nat.le_succ _))).setCell (p := ⟨w.heap.size + 2, 0, none⟩) (by rw [hs2]; exact Nat.le_refl _) _).setCell (p := ⟨w.heap.size + 2, 1, none⟩) (by rw [hs2]; exact Nat.le_refl _) _
    rw [← hW2, hOe]
    clear hW2 hOe hs1 hown hb1 hc2 e3 hlow z0 z1 z2 z3 zb
    have x0 := (hB12.cell (p := ⟨w.heap.size, 0, none⟩) (by show w.heap.size < W.heap.size; omega)).trans b0
    have x1 := (hB12.cell (p := ⟨w.heap.size, 1, none⟩) (by show w.heap.size < W.heap.size; omega)).trans b1
    have hR2 := (hB12.block (w.heap.size + 1) (by omega)).trans hW0
    have hBw : Below w.heap.size w W2 := hbW.trans (hB12.mono hbW.size)
    have hrow : ∀ k, (Value.slice A2 m.length c2).ownBlock = some k → w.heap.size + 2 ≤ k ∧ k < W2.heap.size := fun k e => by have := hownB.lt k e; omega
    have hown2 := own_base hownB hbW.size
    have y0 := (World.cell?_alloc_lt W2 (.cells #[.int .i64 N] 3) ⟨w.heap.size, 0, none⟩ (by show w.heap.size < W2.heap.size; omega)).trans x0
    have n0 := World.new_ne W2 _ x0
    clear b0 b1 hA2 hs2 hbW hW0 hB12 hownB
    gi_wp2_with (refine ⟨trivial, ?_⟩; gi_at_call 54; refine (back_in Fence.wide 2 trivial rfl _ _ _ _).mono ?_; rintro e w' ⟨rfl, rfl⟩)
    obtain ⟨NX, hNX⟩ : ∃ NX, W2.heap.size = NX := ⟨_, rfl⟩
    obtain ⟨W4, hW4⟩ : ∃ W4, W4 = (W2.alloc (.cells #[.int .i64 N] 3)).alloc (.cells #[.slice (some ad) m.length c] 25) := ⟨_, rfl⟩
    have hB4 : Below W2.heap.size W2 W4 := by rw [hW4]; exact ((Below.refl _ _).alloc (Nat.le_refl _) _).alloc (by rw [World.size_alloc]; exact Nat.le_succ _) _
    have hs4 : W4.heap.size = NX + 2 := by rw [hW4, ← hNX]; simp
    have hn4 : W4.heap[NX]? = some (.cells #[.int .i64 N] 3 (0, 0)) := by rw [hW4, ← hNX]; exact (Below.heap_alloc _ _ _ (by simp)).trans (heap_alloc_new W2 _)
    have hx5 : W4.heap[NX + 1]? = some (.cells #[.slice (some ad) m.length c] 25 (0, 0)) := by rw [hW4, ← hNX]; have := heap_alloc_new (W2.alloc (.cells #[.int .i64 N] 3)) (.cells #[.slice (some ad) m.length c] 25); rwa [World.size_alloc] at this
    have hx4 : W4.cell? ⟨NX + 1, 0, none⟩ = some (.slice (some ad) m.length c) := by simp [World.cell?, hx5]
    have hA4 : ∀ (j : Nat) (x : Int), m[j]? = some x → W4.cell? (ad.add j) = some (.int .i64 x) := fun j x hx => by
      obtain ⟨ad', e, hc⟩ := ((H.out.below hBw).below hB4).2 (by have := (List.getElem?_eq_some_iff.1 hx).1; omega)
      injection e with e
      subst e
      exact hc j x hx
    have F4 : FSt w (w.heap.size + 1) O NX (NX + 2) A2 c2 m.length N N m W4 :=
      ⟨hn4, (hB4.block O hOl.2).trans hO, (hB4.block _ (by omega)).trans hR2, own_below hown2 hB4, hBw.trans (hB4.mono hBw.size), ⟨by omega, by omega, by omega, by omega, by omega, by omega, by omega, by omega, by omega⟩,
        fun k e => by have h1 := hrow k e; have h2 := hap k e; exact ⟨by omega, h2, by omega, by omega⟩, rfl, by omega⟩
    rw [← hW4, hNX]
    have hadl : ad.block < W4.heap.size := by have := hBw.size; omega
    have hadn : ad.block < NX := by have := hBw.size; omega
    clear hW4 hB4 hn4 hx5 hO hap hOl x0 x1 hR2 hBw hrow hown2 y0 n0
    refine wpIn_rangeFunc_ownF rfl (by omega) (gf := 63) (lb := #[.pointer (some ⟨NX + 1, 0, none⟩)]) rfl trivial (enters_of Try.func63 (by kernel_rfl) rfl)
      (back_stops Fence.wide (3 - 1) trivial rfl (by omega) (NX + 1) ad c m hl W4 (by omega) hadl hx4 hA4)
      (fun h k => h.trans k) (fun W' l o o' hl' ho _ _ => fun p hp => World.cell?_of_block (World.putObj_heap_other (by rcases hp with hp | hp <;> omega))) (Below.refl _ _) (fun _ => rfl)
      (fun pre W' => ∃ nx o, FSt w (w.heap.size + 1) O NX (NX + 2) A2 c2 m.length N nx o W' ∧ (0 ≤ nx ∧ nx ≤ 1000000) ∧ ∀ j, j ≤ m.length → pre.map Spot.i = (List.range' j (m.length - j)).reverse → Back m N nx o j)
      (fun _ _ _ => False)
      (fun s A B row hs hg hr => by
        obtain ⟨nx, o, F, h2, h3⟩ := hs
        exact ⟨nx, o, F.kept hg (fun r e => by have := (hr r e).1; omega), h2, h3⟩)
      (fun _ _ _ _ _ hs _ _ => hs)
      ⟨N, m, F4, ⟨hN, hN2⟩, fun j hj he => by
        have : j = m.length := by have := congrArg List.length he; simp at this; omega
        subst this; exact back_start m N⟩
      (fun x => { tmps := #[.agg #[.slice (some ad) m.length c, .int .i64 N], .pointer (some ⟨w.heap.size, 0, none⟩), .pointer (some ⟨w.heap.size + 1, 0, none⟩), .pointer (some ⟨O, 0, none⟩), .pointer (some ⟨NX, 0, none⟩), .int .i64 (x.i : Int), .int .i64 x.v, undef, undef, undef,
        .pointer (some ⟨w.heap.size, 0, none⟩), .slice (some ad) m.length c, .slice A2 m.length c2, .pointer (some ⟨w.heap.size, 1, none⟩), .int .i64 N, .agg #[.slice A2 m.length c2, .int .i64 N], .pointer (some ⟨w.heap.size, 1, none⟩), .int .i64 N, .pointer (some ⟨w.heap.size, 0, none⟩), .slice (some ad) m.length c,
        .func (.func 63) #[] #[.pointer (some ⟨NX + 1, 0, none⟩)], .int .i64 (x.i : Int), .int .i64 x.v, undef, undef, undef, undef, undef, undef, undef, undef, undef, undef, undef, undef, undef, undef, undef, undef, undef, undef, undef, undef, undef, undef, undef, undef, undef, undef, undef, undef, undef, undef, undef, undef, undef, undef, undef, undef, undef, undef, undef, undef], defers := [] }) ?assign ?body ?done ?stop
    case assign =>
      intro l x W' K hK
      gi_wp2
      exact hK
    case body =>
      rintro l pre x W' ⟨nx, o, F, ⟨hx0, hx1⟩, hJ⟩ _
      obtain ⟨f1, f2, f3, f4, f5, f6, f7, f8⟩ := F.facts
      have hxv := x.h
      have hxf := HM.out x.v (List.mem_of_getElem? hxv)
      have hpos : x.i < m.length := (List.getElem?_eq_some_iff.1 hxv).1
      by_cases h0 : 0 ≤ x.v
      · gi_wp2
        exact ⟨KeepsOthers.setCell _ _ _, (KeptP.refl _ _ _).set (by show NX ≠ _; omega) (by show NX ≠ _; omega) _, x.v, o, F.setNext x.v, ⟨h0, by omega⟩, fun j hj he => by
          obtain ⟨q1, q2, q3⟩ := down_inv he hj
          subst q2
          exact back_pair (hJ _ q1 q3) hxv h0⟩
      · obtain ⟨g, rfl⟩ := F.some_ (by omega)
        have hol : x.i < o.length := by rw [F.len]; exact hpos
        obtain ⟨c1, c3, _⟩ := own_cell F.own (i := x.i) (x := vInt o[x.i]) (by rw [List.getElem?_map, List.getElem?_eq_getElem hol]; rfl)
        have hgr := F.row g rfl
        have hi1 : (x.i : Int) < (m.length : Int) := by omega
        gi_wp2
        exact ⟨KeepsOthers.setCell _ _ _, (KeptP.refl _ _ _).set (by show g ≠ _; omega) (by show g ≠ _; omega) _, nx, o.set x.i (-1 - nx), F.setOut x.i _, ⟨hx0, hx1⟩, fun j hj he => by
          obtain ⟨q1, q2, q3⟩ := down_inv he hj
          subst q2
          exact back_free (hJ _ q1 q3) hxv (by omega)⟩
    case done =>
      rintro D ys W' hD hys ⟨nx, o, F, _, hJ⟩ hK
      obtain ⟨_, rfl⟩ := hJ 0 (Nat.zero_le _) (by simpa using hys)
      rw [List.take_zero, List.drop_zero, List.nil_append] at F
      obtain ⟨f1, f2, f3, f4, f5, f6, f7, f8⟩ := F.facts
      gi_wp2
      gi_loopw [7, 35] (fun f i wr => ∃ (j : Nat) (fr : Int) (o : List Int), j ≤ m.length ∧ f = .int .i64 fr ∧ i = .int .i64 j ∧ 0 ≤ fr ∧ fr ≤ 1000000 ∧ FSt w (w.heap.size + 1) O NX (NX + 2) A2 c2 m.length N nx o wr ∧ Hid (Forth m N fr o j) ∧ wr.heap[D]? = some (.deferred (some []))) (fun _ i _ => m.length - (intOf i).toNat)
      case atStart => exact ⟨0, 0, _, Nat.zero_le _, rfl, rfl, by omega, by omega, F, forth_start m N, hK⟩
      case round =>
        clear F f1 f2 f3 f4 f5 f6 f7 f8 hK
        obtain ⟨j, fr, o, hj, rfl, rfl, hf0, hf1, F, hF, hK⟩ := hrel
        obtain ⟨f1, f2, f3, f4, f5, f6, f7, f8⟩ := F.facts
        by_cases hlj : j < m.length
        · obtain ⟨g, rfl⟩ := F.some_ (by omega)
          have hv := forth_val hF.out hlj
          obtain ⟨c1, c3, _⟩ := own_cell F.own (i := j) (by rw [List.getElem?_map, hv]; rfl)
          have hgr := F.row g rfl
          have hmj := HM.out m[j] (List.getElem_mem _)
          have hDg : D ≠ g := by omega
          by_cases h0 : 0 ≤ m[j]
          · have hF2 := Lib.hid (forth_pair hF.out hlj h0)
            rw [if_pos h0] at c1
            clear hF hv
            generalize m[j] = t at *
            gi_wp2
            go_roundw
            case rel => exact ⟨j + 1, t + 1, o, by omega, by go_num, by go_num, by omega, by omega, F, hF2, hK⟩
            case measure => first | (simp [intOf]; done) | (simp [intOf]; omega)
          · have hnf := Al.nextOf_fit (HM.out.drop (j + 1)) hN hN2
            have hF3 := fun hx => Lib.hid (forth_free hF.out hlj h0 hx)
            have hF4 := fun hx => Lib.hid (forth_none hF.out hlj h0 hx)
            rw [if_neg h0] at c1
            clear hF hv
            generalize Al.nextOf (m.drop (j + 1)) N = z at *
            obtain ⟨k, hk⟩ : ∃ k, k = -1 - z := ⟨_, rfl⟩
            rw [← hk] at c1
            have hk0 : k < 0 := by omega
            have hwk : wrap64 (-1 - k) = z := by rw [IntWalk.wrap64_in _ (by omega)]; omega
            by_cases hx : fr < z
            · have hF5 := hF3 hx
              clear hF3 hF4 hk h0 hmj
              gi_wp2
              go_roundw
              case rel => exact ⟨j + 1, fr + 1, o.set j fr, by omega, by go_num, by go_num, by omega, by omega, F.setOut j fr, hF5, (blkSet hDg).trans hK⟩
              case measure => first | (simp [intOf]; done) | (simp [intOf]; omega)
            · have hF5 := hF4 hx
              clear hF3 hF4 hk h0 hmj
              gi_wp2
              go_roundw
              case rel => exact ⟨j + 1, fr, o.set j (-1), by omega, by go_num, by go_num, by omega, by omega, F.setOut j (-1), hF5, (blkSet hDg).trans hK⟩
              case measure => first | (simp [intOf]; done) | (simp [intOf]; omega)
        · obtain rfl : j = m.length := by omega
          obtain rfl := forth_end hF.out
          gi_wp2
          have hlim := F.lim
          have hK2 : ((wr.setCell ⟨w.heap.size + 1, 0, none⟩ (.slice A2 m.length c2)).setCell ⟨w.heap.size + 1, 1, none⟩ (.int .i64 N)).heap[D]? = some (.deferred (some [])) := (blkSet (by show D ≠ w.heap.size + 1; omega)).trans ((blkSet (by show D ≠ w.heap.size + 1; omega)).trans hK)
          refine ⟨by simp, .inl ⟨_, _, rfl, run_takeDeferred hK2, ?_⟩⟩
          have hz : ((wr.setCell ⟨w.heap.size + 1, 0, none⟩ (.slice A2 m.length c2)).setCell ⟨w.heap.size + 1, 1, none⟩ (.int .i64 N)).heap[w.heap.size + 1]? = some (.cells #[.slice A2 m.length c2, .int .i64 N] 30 (0, 0)) := by simp [World.setCell, Array.getElem?_modify, F.res]
          have ho := ownsRow_setCell_other (ownsRow_setCell_other F.own (fun e => (F.row _ e).1 rfl) (.slice A2 m.length c2) (a := ⟨w.heap.size + 1, 0, none⟩)) (fun e => (F.row _ e).1 rfl) (.int .i64 N) (a := ⟨w.heap.size + 1, 1, none⟩)
          have hbl := (F.below.setCell (p := ⟨w.heap.size + 1, 0, none⟩) (Nat.le_succ _) (.slice A2 m.length c2)).setCell (p := ⟨w.heap.size + 1, 1, none⟩) (Nat.le_succ _) (.int .i64 N)
          have hrw := F.row
          generalize (wr.setCell ⟨w.heap.size + 1, 0, none⟩ (.slice A2 m.length c2)).setCell ⟨w.heap.size + 1, 1, none⟩ (.int .i64 N) = W5 at *
          obtain ⟨c0, c1, _⟩ := zfacts ((World.putObj_heap_other (w := W5) (o := .deferred none) (show w.heap.size + 1 ≠ D by omega)).trans hz)
          refine ⟨.agg #[.slice A2 m.length c2, .int .i64 N], ?_, _, rfl, ho.kept (grownBy_putObj' _ D (.deferred none)) ?_, hbl.trans (belowK_b (w := w) (Nat.le_refl _) W5 D _ _ (by omega) hK2 rfl rfl)⟩
          · simp [results, Try.f42, go_sem, c0, c1]
          · cases hk : (Value.slice A2 m.length c2).ownBlock with
            | none => exact .inl rfl
            | some k => exact .inr fun e => by injection e with e; have := (hrw k hk).2.2.1; omega
    case stop =>
      rintro D cc pre W' _ _ h _
      exact h.elim
end Go.Proofs.Ythoccmgfpjfkoaa
