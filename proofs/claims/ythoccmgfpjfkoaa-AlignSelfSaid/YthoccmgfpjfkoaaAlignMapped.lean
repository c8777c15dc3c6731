/- The walk of chequerref15.mapped. Written by mappedgen.py. -/
import Derived.Test.YthoccmgfpjfkoaaAlignPaired
import Derived.Test.YthoccmgfpjfkoaaGone
namespace Go.Proofs.Ythoccmgfpjfkoaa
open Go.RowKit

/-- Blocks: the map at O, the result at R; its row v reads o. -/
structure RSt (w : World) (R O : Nat) (v : Value) (len : Nat) (N : Int) (o : List Int) (W : World) : Prop where
  out : W.heap[O]? = some (.cells #[v, .int .i64 N] 30 (0, 0))
  res : W.heap[R]? = some (.cells #[.slice none 0 0, .int .i64 0] 30 (0, 0))
  own : W.ownsRow w.heap.size 3 1 v len (o.map vInt)
  below : Below w.heap.size w W
  lim : w.heap.size ≤ R ∧ w.heap.size ≤ O ∧ R ≠ O
variable {w W W' : World} {R O len : Nat} {v : Value} {N : Int} {o : List Int}
theorem RSt.len_ (h : RSt w R O v len N o W) : o.length = len := by have := h.own.1; simpa using this
theorem RSt.lt (h : RSt w R O v len N o W) : O < W.heap.size ∧ R < W.heap.size := ⟨(Array.getElem?_eq_some_iff.1 h.out).1, (Array.getElem?_eq_some_iff.1 h.res).1⟩
theorem RSt.keep (h : RSt w R O v len N o W) (hb : Below W.heap.size W W') : RSt w R O v len N o W' :=
  ⟨(hb.block _ h.lt.1).trans h.out, (hb.block _ h.lt.2).trans h.res, own_below h.own hb, h.below.trans (hb.mono h.below.size), h.lim⟩
theorem RSt.drew (h : RSt w R O v len N o W) : RSt w R O v len N o W.drew := h.keep (Below.refl _ _).drew
theorem RSt.append {v' : Value} {z : Int} (h : RSt w R O v len N o W) (hown : W'.ownsRow w.heap.size 3 1 v' (len + 1) (o.map vInt ++ [.int .i64 z])) (hg : W.grownBy W' v.ownBlock) :
    RSt w R O v' (len + 1) N (o ++ [z]) (W'.setCell ⟨O, 0, none⟩ v') ∧ W'.cell? ⟨O, 0, none⟩ = some v ∧ W'.frozen? ⟨O, 0, none⟩ = false := by
  have o' := grown_block h.own h.out (by decide) hg
  have r' := grown_block h.own h.res (by decide) hg
  obtain ⟨c0, _, c2, _⟩ := zfacts o'
  refine ⟨⟨by simp [World.setCell, Array.getElem?_modify, o'], (blkSet (by show R ≠ O; exact h.lim.2.2)).trans r', ?_, (below_grown h.below h.own hg (Nat.le_refl _) h.below.size).setCell (p := ⟨O, 0, none⟩) h.lim.2.1 _, h.lim⟩, c0, c2⟩
  rw [List.map_append]
  exact ownsRow_setCell_other hown (own_ne_kind hown o' (by decide)) _
theorem RSt.set_ {g c : Nat} (h : RSt w R O (.slice (some ⟨g, 0, none⟩) len c) len N o W) (i : Nat) (x : Int) : RSt w R O (.slice (some ⟨g, 0, none⟩) len c) len N (o.set i x) (W.setCell ⟨g, i, none⟩ (.int .i64 x)) := by
  have n1 : O ≠ g := fun e => own_ne_kind h.own h.out (by decide) (by rw [e]; rfl)
  have n2 : R ≠ g := fun e => own_ne_kind h.own h.res (by decide) (by rw [e]; rfl)
  refine ⟨(blkSet n1).trans h.out, (blkSet n2).trans h.res, ?_, h.below.setCell (p := ⟨g, i, none⟩) (h.own.lt g rfl).1 _, h.lim⟩
  have := own_set h.own (i := i) (.int .i64 x)
  rw [List.map_set]
  exact this
theorem RSt.some_ {A : Option Addr} {c : Nat} (h : RSt w R O (.slice A len c) len N o W) (hl : 0 < len) : ∃ g, A = some ⟨g, 0, none⟩ := by
  rcases h.own.2 with ⟨_, h0⟩ | ⟨g, cap, cur, hv, _⟩
  · omega
  · injection hv with hv; exact ⟨g, hv⟩
theorem RSt.facts (h : RSt w R O v len N o W) : W.cell? ⟨O, 0, none⟩ = some v ∧ W.cell? ⟨O, 1, none⟩ = some (.int .i64 N) ∧ W.frozen? ⟨O, 0, none⟩ = false ∧
    W.cell? ⟨R, 0, none⟩ = some (.slice none 0 0) ∧ W.cell? ⟨R, 1, none⟩ = some (.int .i64 0) ∧ W.frozen? ⟨R, 0, none⟩ = false ∧ W.frozen? ⟨R, 1, none⟩ = false := by
  obtain ⟨o0, o1, o2, _⟩ := zfacts h.out
  obtain ⟨r0, r1, r2, r3⟩ := zfacts h.res
  exact ⟨o0, o1, o2, r0, r1, r2, r3⟩
/-- the result, stored into its cell -/
theorem RSt.result {A : Option Addr} {n c : Nat} {M : Int} {R : Nat} {W w : World} {xs : List Value} {base : Nat} (hr : W.heap[R]? = some (.cells #[.slice none 0 0, .int .i64 0] 30 (0, 0))) (hown : W.ownsRow base 3 1 (.slice A n c) n xs) (hb : Below w.heap.size w W) (hR : w.heap.size ≤ R) :
    let W2 := (W.setCell ⟨R, 0, none⟩ (.slice A n c)).setCell ⟨R, 1, none⟩ (.int .i64 M)
    W2.cell? ⟨R, 0, none⟩ = some (.slice A n c) ∧ W2.cell? ⟨R, 1, none⟩ = some (.int .i64 M) ∧ W2.ownsRow base 3 1 (.slice A n c) n xs ∧ Below w.heap.size w W2 := by
  have hz : ((W.setCell ⟨R, 0, none⟩ (.slice A n c)).setCell ⟨R, 1, none⟩ (.int .i64 M)).heap[R]? = some (.cells #[.slice A n c, .int .i64 M] 30 (0, 0)) := by simp [World.setCell, Array.getElem?_modify, hr]
  obtain ⟨q0, q1, _⟩ := zfacts hz
  have ne := own_ne_kind hown hr (by decide)
  exact ⟨q0, q1, ownsRow_setCell_other (ownsRow_setCell_other hown ne (.slice A n c) (a := ⟨R, 0, none⟩)) ne (.int .i64 M) (a := ⟨R, 1, none⟩), (hb.setCell (p := ⟨R, 0, none⟩) hR _).setCell (p := ⟨R, 1, none⟩) hR _⟩

set_option maxRecDepth 100000 in
set_option maxHeartbeats 2000000 in
theorem mapped_any (w : World) (X Y : Option Addr) (ps : List (Nat × Nat)) (n m c1 c2 : Nat) (hX : At1 vInt w X (ps.map fun p => (p.1 : Int))) (hY : At1 vInt w Y (ps.map fun p => (p.2 : Int))) (hn : n ≤ 1000) (hps : ∀ p ∈ ps, p.1 < n) (hpl : ps.length ≤ 1000) :
    Calls Try.prog 35 #[.int .i64 n, .slice X ps.length c1, .slice Y ps.length c2, .int .i64 m] w fun e w' => ∃ A c, e = .returned (.agg #[.slice A n c, .int .i64 m]) ∧ w'.ownsRow w.heap.size 3 1 (.slice A n c) n ((Al.setAll (List.replicate n (-1)) ps).map vInt) ∧ Below w.heap.size w w' := by
  have HX := Lib.hid hX
  have HY := Lib.hid hY
  have HP := Lib.hid hps
  clear hX hY hps
  go_enter Try.func35, Try.ntmps35
  go_wp2
  obtain ⟨W1, hW1⟩ : ∃ W1, W1 = (w.alloc (.cells #[.slice none 0 0, .int .i64 0] 30)).alloc (.cells #[.slice none 0 0, .int .i64 m] 30) := ⟨_, rfl⟩
  have F1 : RSt w w.heap.size (w.heap.size + 1) (.slice none 0 0) 0 m [] W1 := by
    rw [hW1]
    have e1 := heap_alloc_new w (.cells #[.slice none 0 0, .int .i64 0] 30)
    have e2 := heap_alloc_new (w.alloc (.cells #[.slice none 0 0, .int .i64 0] 30)) (.cells #[.slice none 0 0, .int .i64 m] 30)
    rw [World.size_alloc] at e2
    exact ⟨e2, (Below.heap_alloc _ _ _ (by simp)).trans e1, World.ownsRow_nil _ _ _ _, ((Below.refl _ _).alloc (Nat.le_refl _) _).alloc (by simp) _, by omega⟩
  rw [← hW1]
  clear hW1
  obtain ⟨O, hOe⟩ : ∃ O, w.heap.size + 1 = O := ⟨_, rfl⟩
  rw [hOe] at F1 ⊢
  clear hOe
  go_loopw [10] (fun i wr => ∃ (k : Nat) (A : Option Addr) (c : Nat), k ≤ n ∧ i = .int .i64 k ∧ RSt w w.heap.size O (.slice A k c) k m (List.replicate k (-1)) wr) (fun i _ => n - (intOf i).toNat)
  case atStart => exact ⟨0, none, 0, Nat.zero_le _, rfl, F1⟩
  case round =>
    clear F1
    obtain ⟨k, A, c, hk, rfl, F⟩ := hrel
    obtain ⟨f0, f1, f2, f3, f4, f5, f6⟩ := F.facts
    by_cases hlt : k < n
    · go_wp2_with (at_builtin; refine wpList_app1 eInt rfl rfl F.own rfl rfl (by first | rfl | simp) rfl (by omega) F.below.size ?_; intro v1 w1 hown1 hg1 hk1; obtain ⟨F2, y0, y1⟩ := F.append hown1 hg1; obtain ⟨A1, c1, rfl, _⟩ := own_form hown1)
      go_roundw
      case rel => exact ⟨k + 1, A1, c1, by omega, by go_num, by rw [List.replicate_succ']; exact F2⟩
      case measure => first | (simp [intOf]; done) | (simp [intOf]; omega)
    · obtain rfl : k = n := by omega
      go_wp2
      go_loopw [11] (fun i wr => ∃ j : Nat, j ≤ ps.length ∧ i = .int .i64 j ∧ RSt w w.heap.size O (.slice A k c) k m (Al.setAll (List.replicate k (-1)) (ps.take j)) wr) (fun i _ => ps.length - (intOf i).toNat)
      case atStart => exact ⟨0, Nat.zero_le _, rfl, F⟩
      case round =>
        clear F f0 f1 f2 f3 f4 f5 f6
        obtain ⟨j, hj, rfl, F⟩ := hrel
        obtain ⟨f0, f1, f2, f3, f4, f5, f6⟩ := F.facts
        by_cases hlj : j < ps.length
        · have hpp := HP.out ps[j] (List.getElem_mem _)
          obtain ⟨g, rfl⟩ := F.some_ (by omega)
          obtain ⟨adx, rfl, hx⟩ := HX.out.at_ (k := j) (by simpa using hlj)
          obtain ⟨ady, rfl, hy⟩ := HY.out.at_ (k := j) (by simpa using hlj)
          have hxb : adx.block < w.heap.size := HX.out.apart (by simp; omega) adx rfl
          have hyb : ady.block < w.heap.size := HY.out.apart (by simp; omega) ady rfl
          have hsn : Hid (Al.setAll (List.replicate k (-1)) (ps.take (j + 1)) = (Al.setAll (List.replicate k (-1)) (ps.take j)).set ps[j].1 (ps[j].2 : Int)) := by rw [take_snoc hlj, setAll_snoc]; exact rfl
          rw [List.getElem_map] at hx hy
          generalize ps[j] = p at hx hy hpp hsn
          obtain ⟨p1, p2⟩ := p
          dsimp only at hx hy hpp hsn
          have hsz := F.below.size
          have hcx := (F.below.cell (p := adx.add j) (by rw [block_of_add]; exact hxb)).trans hx
          have hcy := (F.below.cell (p := ady.add j) (by rw [block_of_add]; exact hyb)).trans hy
          have hOl : O < wr.heap.size := F.lt.1
          have hxl : (adx.add j).block < wr.heap.size := by rw [block_of_add]; omega
          have hyl : (ady.add j).block < wr.heap.size := by rw [block_of_add]; omega
          have hml : p1 < (Al.setAll (List.replicate k (-1)) (ps.take j)).length := by rw [F.len_]; exact hpp
          obtain ⟨d1, d3, _⟩ := own_cell F.own (i := p1) (x := vInt (Al.setAll (List.replicate k (-1)) (ps.take j))[p1]) (by rw [List.getElem?_map, List.getElem?_eq_getElem hml]; rfl)
          have hi1 : (p1 : Int) < (k : Int) := by omega
          have hlx : (j : Int) < (ps.length : Int) := by omega
          clear hx hy
          go_wp2
          refine wp_region_tree [11] (.free 0 (.free 1 (.free 2 (.free 3 (.free 4 (.free 5 (.free 6 (.free 7 (.free 8 (.free 9 (.free 10 (.last 11 .nil)))))))))))) (by kernel_rfl) (by kernel_rfl) (fun _ _ d _ _ h => by cases d <;> exact h) ?_
          conv => arg 4; whnf
          conv => arg 4; arg 1; whnf
          refine pt_free (by rfl) (fun K hK => ?_)
          go_big_quiet_op
          first | (refine hK _ ?_; clear hK K) | (refine ⟨_, fun _ _ => rfl, hK _ ?_⟩; clear hK K)
          conv => arg 4; whnf
          conv => arg 4; arg 1; whnf
          refine pt_load (fun W h => load_ints _ _ W h) (p := ⟨O, 0, none⟩) f0 hOl (by rfl) rfl rfl ?_
          simp only [Act.put, List.setIfInBounds_toArray, List.set_cons_zero, List.set_cons_succ]
          conv => arg 4; whnf
          conv => arg 4; arg 1; whnf
          refine pt_free (by rfl) (fun K hK => ?_)
          go_big_quiet_op
          first | (refine hK _ ?_; clear hK K) | (refine ⟨_, fun _ _ => rfl, hK _ ?_⟩; clear hK K)
          conv => arg 4; whnf
          conv => arg 4; arg 1; whnf
          refine pt_free (by rfl) (fun K hK => ?_)
          go_big_quiet_op
          first | (refine hK _ ?_; clear hK K) | (refine ⟨_, fun _ _ => rfl, hK _ ?_⟩; clear hK K)
          conv => arg 4; whnf
          conv => arg 4; arg 1; whnf
          refine pt_free (by rfl) (fun K hK => ?_)
          go_big_quiet_op
          first | (refine hK _ ?_; clear hK K) | (refine ⟨_, fun _ _ => rfl, hK _ ?_⟩; clear hK K)
          conv => arg 4; whnf
          conv => arg 4; arg 1; whnf
          refine pt_load (fun W h => load_int _ _ W h) (p := adx.add j) hcx hxl (by rfl) rfl rfl ?_
          simp only [Act.put, List.setIfInBounds_toArray, List.set_cons_zero, List.set_cons_succ]
          conv => arg 4; whnf
          conv => arg 4; arg 1; whnf
          refine pt_free (by rfl) (fun K hK => ?_)
          go_big_quiet_op
          first | (refine hK _ ?_; clear hK K) | (refine ⟨_, fun _ _ => rfl, hK _ ?_⟩; clear hK K)
          conv => arg 4; whnf
          conv => arg 4; arg 1; whnf
          refine pt_free (by rfl) (fun K hK => ?_)
          go_big_quiet_op
          first | (refine hK _ ?_; clear hK K) | (refine ⟨_, fun _ _ => rfl, hK _ ?_⟩; clear hK K)
          conv => arg 4; whnf
          conv => arg 4; arg 1; whnf
          refine pt_free (by rfl) (fun K hK => ?_)
          go_big_quiet_op
          first | (refine hK _ ?_; clear hK K) | (refine ⟨_, fun _ _ => rfl, hK _ ?_⟩; clear hK K)
          conv => arg 4; whnf
          conv => arg 4; arg 1; whnf
          refine pt_load (fun W h => load_int _ _ W h) (p := ady.add j) hcy hyl (by rfl) rfl rfl ?_
          simp only [Act.put, List.setIfInBounds_toArray, List.set_cons_zero, List.set_cons_succ]
          conv => arg 4; whnf
          conv => arg 4; arg 1; whnf
          refine pt_free (by rfl) (fun K hK => ?_)
          go_big_quiet_op
          first | (refine hK _ ?_; clear hK K) | (refine ⟨_, fun _ _ => rfl, hK _ ?_⟩; clear hK K)
          conv => arg 4; whnf
          conv => arg 4; arg 1; whnf
          refine pt_last (by rfl) (fun K hK => ?_)
          go_wp2
          refine pt_nil ?_
          go_wp2
          go_roundw
          case rel => exact ⟨j + 1, by omega, by go_num, by rw [hsn.out]; exact F.drew.set_ p1 p2⟩
          case measure => first | (simp [intOf]; done) | (simp [intOf]; omega)
        · obtain rfl : j = ps.length := by omega
          rw [List.take_length] at F
          go_wp2
          obtain ⟨q0, q1, q2, q3⟩ := RSt.result (M := m) F.res F.own F.below (Nat.le_refl _)
          refine bodyPost_ret (v := .agg #[.slice A k c, .int .i64 m]) ?_ rfl ?_
          · simp [results, Try.f35, go_sem, q0, q1]
          · exact ⟨_, _, rfl, q2, q3⟩
end Go.Proofs.Ythoccmgfpjfkoaa
