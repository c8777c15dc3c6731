/- The walk of chequerref15.filled. Written by rfilledgen.py. -/
import Derived.Test.YthoccmgfpjfkoaaAlignMapped
import Derived.ArgAppend
namespace Go.Proofs.Ythoccmgfpjfkoaa
open Go.RowKit

/-- 'append' onto an empty literal, as one operation -/
theorem wp_appLit {P : Program} {T e : TypeId} {z : Value} {bytes : Nat} {o : Oper} {a : Act} {K : Act → World → Prop} {Q : Exit → Act → World → Prop} {w0 : World} {s x : Operand} {G base : Nat} {α : Type} {f : α → Value} {A : Option Addr} {c m : Nat} {l : List α}
    (E : EInfo P T e z 1 bytes) (ho : o.op = .call { callee := .builtin .append, args := #[s, x], argTypes := #[T, T] }) (hs : a.eval s = .slice (some ⟨G, 0, none⟩) 0 0) (hG : w0.heap[G]? = some (.cells #[] e (0, 0))) (hb : base ≤ G)
    (hx : a.eval x = .slice A m c) (hm : m = l.length) (hl : At1 f w0 A l) (hbytes : l.length * bytes ≤ 140737488355328)
    (h : ∀ v' w', w'.ownsRow base e 1 v' l.length (l.map f) → Below w0.heap.size w0 w' → K (a.put o.dst v') w') :
    o.wp P a w0 K Q := by
  obtain ⟨ht, hinfo, hzs, hsz, hby0⟩ := E
  obtain ⟨i, hi, hz, hsize, hby⟩ := info_parts hinfo
  subst hm
  have hown : w0.ownsRow base e 1 (.slice (some ⟨G, 0, none⟩) 0 0) 0 [] := ⟨rfl, .inr ⟨G, 0, #[], rfl, hb, hG, Nat.le_refl _, Nat.zero_le _, rfl, rfl⟩⟩
  have hGl := (Array.getElem?_eq_some_iff.1 hG).1
  by_cases hn : l = []
  · subst hn
    have hrun : (Builtin.append_ #[T, T] o.type #[.slice (some ⟨G, 0, none⟩) 0 0, .slice A 0 c]).run P w0 = .ok (.slice (some ⟨G, 0, none⟩) 0 0) w0 := by
      rcases A with _ | ad
      · simp [Builtin.append_, run_underlying ht, sizeOf, typeInfo, hi, Builtin.lenOf, Builtin.firstCells, storeCells]
      · have := run_append_room_cells (P := P) w0 T o.type e i ht hi G 0 0 0 ad 0 c [] (by simp) (fun j u hu => by simp at hu) (fun y hy => by simp at hy) (Nat.le_refl _) (fun j hj => by simp at hj) (fun j hj => by simp at hj)
        rw [this]
        rfl
    simp only [List.length_nil] at hx
    unfold Oper.wp execOp
    simp only [ho, resolve, invoke, builtin, Sem.run_bind, Sem.run_pure, Result.andThen_ok, List.map_toArray, List.map_cons, List.map_nil, hs, hx, hrun]
    exact h _ w0 hown (Below.refl _ _)
  · obtain ⟨ad, rfl, hc⟩ := hl.2 (List.length_pos_iff.2 hn)
    obtain ⟨v', w', hr, r1, r2⟩ := run_append_arg_grows (P := P) (w := w0) T o.type e i z 1 bytes ht hi hz hsize hby hzs hsz ⟨G, 0, none⟩ 0 0 [] rfl (fun j u hu => by simp at hu) ad l.length c (l.map f) (by simp) (fun j u hu => by
        rw [List.getElem?_map] at hu
        cases hj : l[j]? with
        | none => rw [hj] at hu; cases hu
        | some y => rw [hj] at hu; injection hu with hu; rw [← hu]; exact hc j y hj)
      (by have := List.length_pos_iff.2 hn; omega) (by rw [Nat.zero_add]; exact len_of_bytes hby0 hbytes) (by rw [Nat.zero_add]; exact hbytes)
    unfold Oper.wp execOp
    simp only [ho, resolve, invoke, builtin, Sem.run_bind, Sem.run_pure, Result.andThen_ok, List.map_toArray, List.map_cons, List.map_nil, hs, hx, hr]
    rw [Nat.zero_add, List.nil_append] at r1
    exact h v' w' (own_base r1 (by omega)) (by have := (Below.refl w0.heap.size w0).grown r2 (Nat.le_refl _) (fun k hk => by cases hk); exact this)

theorem map_store {W : World} {O : Nat} {a b v M : Value} (h : W.heap[O]? = some (.cells #[a, b] 30 (0, 0))) : ((W.setCell ⟨O, 0, none⟩ v).setCell ⟨O, 1, none⟩ M).heap[O]? = some (.cells #[v, M] 30 (0, 0)) := by
  simp [World.setCell, Array.getElem?_modify, h]

/-- Blocks: the map that came at Q, the new one at O, the result at R. -/
structure QSt (w : World) (Q R O : Nat) (u v : Value) (len : Nat) (N : Int) (o : List Int) (W : World) : Prop where
  st : RSt w R O v len N o W
  par : W.heap[Q]? = some (.cells #[u, .int .i64 N] 30 (0, 0))
  ne : Q ≠ O ∧ Q ≠ R
variable {w W W' : World} {Q R O len : Nat} {u v : Value} {N : Int} {o : List Int}
theorem QSt.set_ {g c : Nat} (h : QSt w Q R O u (.slice (some ⟨g, 0, none⟩) len c) len N o W) (i : Nat) (x : Int) : QSt w Q R O u (.slice (some ⟨g, 0, none⟩) len c) len N (o.set i x) (W.setCell ⟨g, i, none⟩ (.int .i64 x)) :=
  ⟨h.st.set_ i x, (blkSet (fun e => own_ne_kind h.st.own h.par (by decide) (by rw [show Q = g from e]; rfl))).trans h.par, h.ne⟩
theorem QSt.pfacts (h : QSt w Q R O u v len N o W) : W.cell? ⟨Q, 0, none⟩ = some u ∧ W.cell? ⟨Q, 1, none⟩ = some (.int .i64 N) ∧ Q < W.heap.size := by
  obtain ⟨o0, o1, o2, _⟩ := zfacts h.par
  exact ⟨o0, o1, (Array.getElem?_eq_some_iff.1 h.par).1⟩

/-- what the loop has done when j places are over -/
def Fwd (m : List Int) (N fr : Int) (o : List Int) (j : Nat) : Prop := ∃ dn : List Int, dn.length = j ∧ o = dn ++ m.drop j ∧ dn ++ Al.fill (m.drop j) N fr = Al.fill m N 0
theorem fwd_start (m : List Int) (N : Int) : Fwd m N 0 m 0 := ⟨[], rfl, by simp, by simp⟩
theorem fwd_same {m : List Int} {N fr fr' : Int} {o : List Int} {j : Nat} (h : Fwd m N fr o j) (hj : j < m.length) (hx : Al.fill (m.drop j) N fr = m[j] :: Al.fill (m.drop (j + 1)) N fr') : Fwd m N fr' o (j + 1) := by
  obtain ⟨dn, hd, rfl, hf⟩ := h
  refine ⟨dn ++ [m[j]], by simp [hd], ?_, ?_⟩
  · rw [List.drop_eq_getElem_cons hj, List.append_assoc]; rfl
  · rw [hx] at hf; rw [List.append_assoc]; exact hf
theorem fwd_pair {m : List Int} {N fr : Int} {o : List Int} {j : Nat} (h : Fwd m N fr o j) (hj : j < m.length) (h0 : 0 ≤ m[j]) : Fwd m N (m[j] + 1) o (j + 1) :=
  fwd_same h hj (by rw [fill_at hj, if_pos h0])
theorem fwd_none {m : List Int} {N fr : Int} {o : List Int} {j : Nat} (h : Fwd m N fr o j) (hj : j < m.length) (h0 : ¬ 0 ≤ m[j]) (h1 : -1 ≤ m[j]) (hx : ¬ fr < Al.nextOf (m.drop (j + 1)) N) : Fwd m N fr o (j + 1) :=
  fwd_same h hj (by rw [fill_at hj, if_neg h0, if_neg hx, show m[j] = -1 by omega])
theorem fwd_free {m : List Int} {N fr : Int} {o : List Int} {j : Nat} (h : Fwd m N fr o j) (hj : j < m.length) (h0 : ¬ 0 ≤ m[j]) (hx : fr < Al.nextOf (m.drop (j + 1)) N) : Fwd m N (fr + 1) (o.set j fr) (j + 1) := by
  obtain ⟨dn, hd, rfl, hf⟩ := h
  refine ⟨dn ++ [fr], by simp [hd], ?_, ?_⟩
  · rw [List.drop_eq_getElem_cons hj, List.set_append_right _ _ (by omega), hd, Nat.sub_self, List.set_cons_zero, List.append_assoc]; rfl
  · rw [fill_at hj, if_neg h0, if_pos hx] at hf; rw [List.append_assoc]; exact hf
theorem fwd_end {m : List Int} {N fr : Int} {o : List Int} (h : Fwd m N fr o m.length) : o = Al.fill m N 0 := by
  obtain ⟨dn, hd, rfl, hf⟩ := h
  rw [List.drop_eq_nil_of_le (Nat.le_refl _)] at hf ⊢
  simpa [Al.fill] using hf

set_option maxRecDepth 100000 in
set_option maxHeartbeats 2000000 in
theorem rfilled_any (w : World) (A : Option Addr) (m : List Int) (c : Nat) (N : Int) (hA : At1 vInt w A m) (hl : m.length ≤ 1000) (hm : Al.Fit 1000000 m) (hN : 0 ≤ N) (hN2 : N ≤ 1000000) :
    Calls Try.prog 34 #[.agg #[.slice A m.length c, .int .i64 N]] w fun e w' => ∃ B d, e = .returned (.agg #[.slice B m.length d, .int .i64 N]) ∧ w'.ownsRow w.heap.size 3 1 (.slice B m.length d) m.length ((Al.fill m N 0).map vInt) ∧ Below w.heap.size w w' := by
  have H := Lib.hid hA
  have HM := Lib.hid hm
  clear hA hm
  go_enter Try.func34, Try.ntmps34
  go_wp2
  obtain ⟨W, hW⟩ : ∃ W, W = ((w.alloc (.cells #[.slice A m.length c, .int .i64 N] 30)).alloc (.cells #[.slice none 0 0, .int .i64 0] 30)).drew := ⟨_, rfl⟩
  have hs1 := heap_alloc_new w (.cells #[.slice A m.length c, .int .i64 N] 30)
  have hs2 := heap_alloc_new (w.alloc (.cells #[.slice A m.length c, .int .i64 N] 30)) (.cells #[.slice none 0 0, .int .i64 0] 30)
  rw [World.size_alloc] at hs2
  have hPWd : W.heap[w.heap.size]? = some (.cells #[.slice A m.length c, .int .i64 N] 30 (0, 0)) := by rw [hW]; exact (Below.heap_alloc _ _ _ (by simp)).trans hs1
  have hRWd : W.heap[w.heap.size + 1]? = some (.cells #[.slice none 0 0, .int .i64 0] 30 (0, 0)) := by rw [hW]; exact hs2
  have hsWd : w.heap.size + 2 ≤ W.heap.size := by rw [hW]; show _ ≤ (World.heap (World.alloc _ _)).size; simp
  have hbWd : Below w.heap.size w W := by rw [hW]; exact (((Below.refl _ _).alloc (Nat.le_refl _) _).alloc (by simp) _).drew
  obtain ⟨b0, b1, _⟩ := zfacts hPWd
  have hl1 : w.heap.size < W.heap.size := by omega
  refine wp_region_tree [8] (.free 0 (.free 1 (.free 3 (.free 4 (.alt 2 (.alt 5 (.free 6 (.eff 7 (.last 8 .nil))) 7 (.eff 5 (.free 6 (.last 8 .nil)))) 7 (.eff 2 (.eff 5 (.free 6 (.last 8 .nil))))))))) (by kernel_rfl) (by kernel_rfl) (fun _ _ d _ _ h => by cases d <;> exact h) ?_
  rw [← hW]
  clear hW hs1 hs2
  conv => arg 4; whnf
  conv => arg 4; arg 1; whnf
  refine pt_free (by rfl) (fun K hK => ?_)
  go_big_quiet_op
  first | (refine hK _ ?_; clear hK K) | (refine ⟨_, fun _ _ => rfl, hK _ ?_⟩; clear hK K)
  conv => arg 4; whnf
  conv => arg 4; arg 1; whnf
  refine pt_load (fun W h => load_int _ _ W h) (p := ⟨w.heap.size, 1, none⟩) b1 hl1 (by rfl) rfl rfl ?_
  simp only [Act.put, List.setIfInBounds_toArray, List.set_cons_zero, List.set_cons_succ]
  conv => arg 4; whnf
  conv => arg 4; arg 1; whnf
  refine pt_free (by rfl) (fun K hK => ?_)
  go_big_quiet_op
  first | (refine hK _ ?_; clear hK K) | (refine ⟨_, fun _ _ => rfl, hK _ ?_⟩; clear hK K)
  conv => arg 4; whnf
  conv => arg 4; arg 1; whnf
  refine pt_load (fun W h => load_ints _ _ W h) (p := ⟨w.heap.size, 0, none⟩) b0 hl1 (by rfl) rfl rfl ?_
  simp only [Act.put, List.setIfInBounds_toArray, List.set_cons_zero, List.set_cons_succ]
  clear b0 b1 hl1
  generalize W = Wd at *
  conv => arg 4; whnf
  refine pt_alt ?_ ?_
  · skip
    conv => arg 4; whnf
    conv => arg 4; arg 1; whnf
    refine pt_eff (by rfl) (fun K hK => ?_)
    go_wp2
    refine hK _ _ ((Below.refl _ _).alloc (Nat.le_refl _) _) ?_
    clear hK K
    obtain ⟨G, hGe⟩ : ∃ G, Wd.heap.size = G := ⟨_, rfl⟩
    obtain ⟨Wa, hWa⟩ : ∃ Wa, Wa = Wd.alloc (.cells #[] 3) := ⟨_, rfl⟩
    have eWa : Below Wd.heap.size Wd Wa := by rw [hWa]; exact (Below.refl _ _).alloc (Nat.le_refl _) _
    have hbWa := hbWd.trans (eWa.mono hbWd.size)
    have hPWa := (eWa.block _ (by omega)).trans hPWd
    have hRWa := (eWa.block _ (by omega)).trans hRWd
    have hsWa : w.heap.size + 2 ≤ Wa.heap.size := by have := eWa.size; omega
    have hGWa : Wa.heap[G]? = some (.cells #[] 3 (0, 0)) := by rw [hWa, ← hGe]; exact heap_alloc_new _ _
    have hGl : w.heap.size ≤ G := by omega
    rw [← hWa, hGe]
    clear hWa hGe
    conv => arg 4; whnf
    refine pt_alt ?_ ?_
    · skip
      conv => arg 4; whnf
      conv => arg 4; arg 1; whnf
      refine pt_eff (by rfl) (fun K hK => ?_)
      refine wp_appLit eInt (by rfl) (by rfl) hGWa hGl (by rfl) rfl (H.out.below hbWa) (by omega) (fun v1 Wb hvWb qWb => ?_)
      obtain ⟨A1, c1, rfl, _⟩ := own_form hvWb
      refine hK _ _ qWb ?_
      clear hK K
      simp only [Act.put, List.setIfInBounds_toArray, List.set_cons_zero, List.set_cons_succ]
      have eWb : Below Wa.heap.size Wa Wb := qWb
      have hbWb := hbWa.trans (eWb.mono hbWa.size)
      have hPWb := (eWb.block _ (by omega)).trans hPWa
      have hRWb := (eWb.block _ (by omega)).trans hRWa
      have hsWb : w.heap.size + 2 ≤ Wb.heap.size := by have := eWb.size; omega
      conv => arg 4; whnf
      conv => arg 4; arg 1; whnf
      refine pt_free (by rfl) (fun K hK => ?_)
      go_big_quiet_op
      first | (refine hK _ ?_; clear hK K) | (refine ⟨_, fun _ _ => rfl, hK _ ?_⟩; clear hK K)
      conv => arg 4; whnf
      conv => arg 4; arg 1; whnf
      refine pt_eff (by rfl) (fun K hK => ?_)
      go_wp2
      refine hK _ _ ((Below.refl _ _).alloc (Nat.le_refl _) _) ?_
      clear hK K
      obtain ⟨O, hOe⟩ : ∃ O, Wb.heap.size = O := ⟨_, rfl⟩
      obtain ⟨Wc, hWc⟩ : ∃ Wc, Wc = Wb.alloc (.cells #[.slice none 0 0, .int .i64 0] 30) := ⟨_, rfl⟩
      have eWc : Below Wb.heap.size Wb Wc := by rw [hWc]; exact (Below.refl _ _).alloc (Nat.le_refl _) _
      have hbWc := hbWb.trans (eWc.mono hbWb.size)
      have hPWc := (eWc.block _ (by omega)).trans hPWb
      have hRWc := (eWc.block _ (by omega)).trans hRWb
      have hsWc : w.heap.size + 2 ≤ Wc.heap.size := by have := eWc.size; omega
      have hOWc : Wc.heap[O]? = some (.cells #[.slice none 0 0, .int .i64 0] 30 (0, 0)) := by rw [hWc, ← hOe]; exact heap_alloc_new _ _
      have hOl : w.heap.size + 2 ≤ O ∧ O < Wc.heap.size := by rw [hWc]; simp; omega
      have hvWc := own_below hvWb eWc
      rw [← hWc, hOe]
      clear hWc hOe
      obtain ⟨z0, z1, z2, z3⟩ := zfacts hOWc
      conv => arg 4; whnf
      conv => arg 4; arg 1; whnf
      refine pt_last (by rfl) (fun K hK => ?_)
      go_wp2
      refine pt_nil ?_
      have ho := map_store (v := .slice A1 m.length c1) (M := .int .i64 N) hOWc
      have hv9 := ownsRow_setCell_other (ownsRow_setCell_other hvWc (own_ne_kind hvWc hOWc (by decide)) (.slice A1 m.length c1) (a := ⟨O, 0, none⟩)) (own_ne_kind hvWc hOWc (by decide)) (.int .i64 N) (a := ⟨O, 1, none⟩)
      have F0 : QSt w w.heap.size (w.heap.size + 1) O (.slice A m.length c) (.slice A1 m.length c1) m.length N m ((Wc.setCell ⟨O, 0, none⟩ (.slice A1 m.length c1)).setCell ⟨O, 1, none⟩ (.int .i64 N)) :=
        ⟨⟨ho, (blkSet (by show w.heap.size + 1 ≠ O; omega)).trans ((blkSet (by show w.heap.size + 1 ≠ O; omega)).trans hRWc), hv9, (hbWc.setCell (p := ⟨O, 0, none⟩) (by show w.heap.size ≤ O; omega) _).setCell (p := ⟨O, 1, none⟩) (by show w.heap.size ≤ O; omega) _, by omega⟩,
          (blkSet (by show w.heap.size ≠ O; omega)).trans ((blkSet (by show w.heap.size ≠ O; omega)).trans hPWc), by omega⟩
      generalize (Wc.setCell ⟨O, 0, none⟩ (.slice A1 m.length c1)).setCell ⟨O, 1, none⟩ (.int .i64 N) = Wz at *
      clear z0 z1 z2 z3 hPWd hRWd hsWd hbWd ho hv9 eWa hbWa hPWa hRWa hsWa hGl hGWa eWb hbWb hPWb hRWb hsWb qWb hvWb eWc hbWc hPWc hRWc hsWc hOl hOWc hvWc
      have F := F0
      clear F0
      go_wp2
      go_loopw [4, 5, 6, 7] (fun i k _ _ wr => ∃ (j : Nat) (fr : Int) (o : List Int), j ≤ m.length ∧ i = .int .i64 j ∧ k = .int .i64 fr ∧ 0 ≤ fr ∧ fr ≤ 1000000 ∧ QSt w w.heap.size (w.heap.size + 1) O (.slice A m.length c) (.slice A1 m.length c1) m.length N o wr ∧ Hid (Fwd m N fr o j)) (fun i _ _ _ _ => m.length - (intOf i).toNat)
      case atStart => exact ⟨0, 0, m, Nat.zero_le _, rfl, rfl, by omega, by omega, F, fwd_start m N⟩
      case round =>
        clear F
        obtain ⟨j, fr, o, hj, rfl, rfl, hf0, hf1, F, hF⟩ := hrel
        obtain ⟨p0, p1, pl⟩ := F.pfacts
        have hbF := F.st.below
        by_cases hlj : j < m.length
        · have hA1 := H.out.below hbF
          obtain ⟨ad, hAe, hc⟩ := hA1.at_ hlj
          have hmj := HM.out m[j] (List.getElem_mem _)
          by_cases h0 : 0 ≤ m[j]
          · have hF2 := Lib.hid (fwd_pair hF.out hlj h0)
            subst hAe
            clear hF hA1
            generalize m[j] = t at *
            go_wp2
            go_roundw
            case rel => exact ⟨j + 1, t + 1, o, by omega, by go_num, by go_num, by omega, by omega, F, hF2⟩
            case measure => first | (simp [intOf]; done) | (simp [intOf]; omega)
          · have hnf := Al.nextOf_fit (HM.out.drop (j + 1)) hN hN2
            have hF3 := fun hx => Lib.hid (fwd_free hF.out hlj h0 hx)
            have hF4 := fun hx => Lib.hid (fwd_none hF.out hlj h0 hmj.1 hx)
            obtain ⟨f0, f1, f2, f3, f4, f5, f6⟩ := F.st.facts
            have HZ : Hid (Al.nextOf (m.drop (j + 1)) N = Al.nextOf (m.drop (j + 1)) N) := rfl
            subst hAe
            clear hF
            have hmj0 := h0
            obtain ⟨tj, htj⟩ : ∃ tj, tj = m[j] := ⟨_, rfl⟩
            rw [← htj] at hc h0 hmj
            clear htj hmj0 hA1
            go_wp2
            go_loopw [6, 7] (fun e jj wi => ∃ k : Nat, j ≤ k ∧ k < m.length ∧ jj = .int .i64 k ∧ e = .int .i64 (Al.nextOf (m.drop (k + 1)) N) ∧ wi = wr) (fun _ jj _ => (intOf jj).toNat)
            case atStart => exact ⟨m.length - 1, by omega, by omega, by go_num, by rw [show m.length - 1 + 1 = m.length by omega, List.drop_length]; rfl, rfl⟩
            case round =>
              obtain ⟨k, hk1, hk2, rfl, rfl, rfl⟩ := hrel
              by_cases hjk : j < k
              · obtain ⟨ad', hAe, hck⟩ := (H.out.below hbF).at_ hk2
                injection hAe with hAe
                subst hAe
                by_cases hk0 : 0 ≤ m[k]
                · have hnx : Hid (Al.nextOf (m.drop (k - 1 + 1)) N = m[k]) := by rw [show k - 1 + 1 = k by omega, List.drop_eq_getElem_cons hk2, Al.nextOf, if_pos hk0]; exact rfl
                  generalize m[k] = tk at *
                  go_wp2
                  go_roundw
                  case rel => exact ⟨k - 1, by omega, by omega, by go_num, by rw [hnx.out], by first | rfl | trivial⟩
                  case measure => first | (simp [intOf]; done) | (simp [intOf]; omega)
                · have hnx : Hid (Al.nextOf (m.drop (k - 1 + 1)) N = Al.nextOf (m.drop (k + 1)) N) := by rw [show k - 1 + 1 = k by omega, List.drop_eq_getElem_cons hk2, Al.nextOf, if_neg hk0]; exact rfl
                  generalize m[k] = tk at *
                  go_wp2
                  go_roundw
                  case rel => exact ⟨k - 1, by omega, by omega, by go_num, by rw [hnx.out], by first | rfl | trivial⟩
                  case measure => first | (simp [intOf]; done) | (simp [intOf]; omega)
              · obtain rfl : k = j := by omega
                obtain ⟨g, rfl⟩ := F.st.some_ (by omega)
                have hol : k < o.length := by rw [F.st.len_]; exact hlj
                obtain ⟨d1, d3, _⟩ := own_cell F.st.own (i := k) (x := vInt o[k]) (by rw [List.getElem?_map, List.getElem?_eq_getElem hol]; rfl)
                have hi1 : (k : Int) < (m.length : Int) := by omega
                generalize Al.nextOf (m.drop (k + 1)) N = z at *
                by_cases hx : fr < z
                · have hF5 := hF3 hx
                  clear hF3 hF4
                  go_wp2
                  go_roundw
                  case rel => exact ⟨k + 1, fr + 1, o.set k fr, by omega, by go_num, by go_num, by omega, by omega, F.set_ k fr, hF5⟩
                  case measure => first | (simp [intOf]; done) | (simp [intOf]; omega)
                · have hF5 := hF4 (by omega)
                  clear hF3 hF4
                  go_wp2
                  go_roundw
                  case rel => exact ⟨k + 1, fr, o, by omega, by go_num, rfl, by omega, by omega, F, hF5⟩
                  case measure => first | (simp [intOf]; done) | (simp [intOf]; omega)
        · obtain rfl : j = m.length := by omega
          have hfin := fwd_end hF.out
          obtain ⟨f0, f1, f2, f3, f4, f5, f6⟩ := F.st.facts
          go_wp2
          obtain ⟨q0, q1, q2, q3⟩ := RSt.result (M := N) F.st.res F.st.own F.st.below (Nat.le_succ _)
          refine bodyPost_ret (v := .agg #[.slice A1 m.length c1, .int .i64 N]) ?_ rfl ?_
          · simp [results, Try.f34, go_sem, q0, q1]
          · exact ⟨_, _, rfl, by rw [← hfin]; exact q2, q3⟩
    · skip
      conv => arg 4; whnf
      conv => arg 4; arg 1; whnf
      refine pt_eff (by rfl) (fun K hK => ?_)
      go_wp2
      refine hK _ _ ((Below.refl _ _).alloc (Nat.le_refl _) _) ?_
      clear hK K
      obtain ⟨O, hOe⟩ : ∃ O, Wa.heap.size = O := ⟨_, rfl⟩
      obtain ⟨Wb, hWb⟩ : ∃ Wb, Wb = Wa.alloc (.cells #[.slice none 0 0, .int .i64 0] 30) := ⟨_, rfl⟩
      have eWb : Below Wa.heap.size Wa Wb := by rw [hWb]; exact (Below.refl _ _).alloc (Nat.le_refl _) _
      have hbWb := hbWa.trans (eWb.mono hbWa.size)
      have hPWb := (eWb.block _ (by omega)).trans hPWa
      have hRWb := (eWb.block _ (by omega)).trans hRWa
      have hsWb : w.heap.size + 2 ≤ Wb.heap.size := by have := eWb.size; omega
      have hOWb : Wb.heap[O]? = some (.cells #[.slice none 0 0, .int .i64 0] 30 (0, 0)) := by rw [hWb, ← hOe]; exact heap_alloc_new _ _
      have hOl : w.heap.size + 2 ≤ O ∧ O < Wb.heap.size := by rw [hWb]; simp; omega
      have hGWb := (eWb.block _ (by have := (Array.getElem?_eq_some_iff.1 hGWa).1; omega)).trans hGWa
      rw [← hWb, hOe]
      clear hWb hOe
      conv => arg 4; whnf
      conv => arg 4; arg 1; whnf
      refine pt_eff (by rfl) (fun K hK => ?_)
      refine wp_appLit eInt (by rfl) (by rfl) hGWb hGl (by rfl) rfl (H.out.below hbWb) (by omega) (fun v1 Wc hvWc qWc => ?_)
      obtain ⟨A1, c1, rfl, _⟩ := own_form hvWc
      refine hK _ _ qWc ?_
      clear hK K
      simp only [Act.put, List.setIfInBounds_toArray, List.set_cons_zero, List.set_cons_succ]
      have eWc : Below Wb.heap.size Wb Wc := qWc
      have hbWc := hbWb.trans (eWc.mono hbWb.size)
      have hPWc := (eWc.block _ (by omega)).trans hPWb
      have hRWc := (eWc.block _ (by omega)).trans hRWb
      have hsWc : w.heap.size + 2 ≤ Wc.heap.size := by have := eWc.size; omega
      have hOWc := (eWc.block _ (by have := (Array.getElem?_eq_some_iff.1 hOWb).1; omega)).trans hOWb
      conv => arg 4; whnf
      conv => arg 4; arg 1; whnf
      refine pt_free (by rfl) (fun K hK => ?_)
      go_big_quiet_op
      first | (refine hK _ ?_; clear hK K) | (refine ⟨_, fun _ _ => rfl, hK _ ?_⟩; clear hK K)
      obtain ⟨z0, z1, z2, z3⟩ := zfacts hOWc
      conv => arg 4; whnf
      conv => arg 4; arg 1; whnf
      refine pt_last (by rfl) (fun K hK => ?_)
      go_wp2
      refine pt_nil ?_
      have ho := map_store (v := .slice A1 m.length c1) (M := .int .i64 N) hOWc
      have hv9 := ownsRow_setCell_other (ownsRow_setCell_other hvWc (own_ne_kind hvWc hOWc (by decide)) (.slice A1 m.length c1) (a := ⟨O, 0, none⟩)) (own_ne_kind hvWc hOWc (by decide)) (.int .i64 N) (a := ⟨O, 1, none⟩)
      have F0 : QSt w w.heap.size (w.heap.size + 1) O (.slice A m.length c) (.slice A1 m.length c1) m.length N m ((Wc.setCell ⟨O, 0, none⟩ (.slice A1 m.length c1)).setCell ⟨O, 1, none⟩ (.int .i64 N)) :=
        ⟨⟨ho, (blkSet (by show w.heap.size + 1 ≠ O; omega)).trans ((blkSet (by show w.heap.size + 1 ≠ O; omega)).trans hRWc), hv9, (hbWc.setCell (p := ⟨O, 0, none⟩) (by show w.heap.size ≤ O; omega) _).setCell (p := ⟨O, 1, none⟩) (by show w.heap.size ≤ O; omega) _, by omega⟩,
          (blkSet (by show w.heap.size ≠ O; omega)).trans ((blkSet (by show w.heap.size ≠ O; omega)).trans hPWc), by omega⟩
      generalize (Wc.setCell ⟨O, 0, none⟩ (.slice A1 m.length c1)).setCell ⟨O, 1, none⟩ (.int .i64 N) = Wz at *
      clear z0 z1 z2 z3 hPWd hRWd hsWd hbWd ho hv9 eWa hbWa hPWa hRWa hsWa hGl hGWa eWb hbWb hPWb hRWb hsWb hOl hOWb hGWb eWc hbWc hPWc hRWc hsWc qWc hOWc hvWc
      have F := F0
      clear F0
      go_wp2
      go_loopw [4, 5, 6, 7] (fun i k _ _ wr => ∃ (j : Nat) (fr : Int) (o : List Int), j ≤ m.length ∧ i = .int .i64 j ∧ k = .int .i64 fr ∧ 0 ≤ fr ∧ fr ≤ 1000000 ∧ QSt w w.heap.size (w.heap.size + 1) O (.slice A m.length c) (.slice A1 m.length c1) m.length N o wr ∧ Hid (Fwd m N fr o j)) (fun i _ _ _ _ => m.length - (intOf i).toNat)
      case atStart => exact ⟨0, 0, m, Nat.zero_le _, rfl, rfl, by omega, by omega, F, fwd_start m N⟩
      case round =>
        clear F
        obtain ⟨j, fr, o, hj, rfl, rfl, hf0, hf1, F, hF⟩ := hrel
        obtain ⟨p0, p1, pl⟩ := F.pfacts
        have hbF := F.st.below
        by_cases hlj : j < m.length
        · have hA1 := H.out.below hbF
          obtain ⟨ad, hAe, hc⟩ := hA1.at_ hlj
          have hmj := HM.out m[j] (List.getElem_mem _)
          by_cases h0 : 0 ≤ m[j]
          · have hF2 := Lib.hid (fwd_pair hF.out hlj h0)
            subst hAe
            clear hF hA1
            generalize m[j] = t at *
            go_wp2
            go_roundw
            case rel => exact ⟨j + 1, t + 1, o, by omega, by go_num, by go_num, by omega, by omega, F, hF2⟩
            case measure => first | (simp [intOf]; done) | (simp [intOf]; omega)
          · have hnf := Al.nextOf_fit (HM.out.drop (j + 1)) hN hN2
            have hF3 := fun hx => Lib.hid (fwd_free hF.out hlj h0 hx)
            have hF4 := fun hx => Lib.hid (fwd_none hF.out hlj h0 hmj.1 hx)
            obtain ⟨f0, f1, f2, f3, f4, f5, f6⟩ := F.st.facts
            have HZ : Hid (Al.nextOf (m.drop (j + 1)) N = Al.nextOf (m.drop (j + 1)) N) := rfl
            subst hAe
            clear hF
            have hmj0 := h0
            obtain ⟨tj, htj⟩ : ∃ tj, tj = m[j] := ⟨_, rfl⟩
            rw [← htj] at hc h0 hmj
            clear htj hmj0 hA1
            go_wp2
            go_loopw [6, 7] (fun e jj wi => ∃ k : Nat, j ≤ k ∧ k < m.length ∧ jj = .int .i64 k ∧ e = .int .i64 (Al.nextOf (m.drop (k + 1)) N) ∧ wi = wr) (fun _ jj _ => (intOf jj).toNat)
            case atStart => exact ⟨m.length - 1, by omega, by omega, by go_num, by rw [show m.length - 1 + 1 = m.length by omega, List.drop_length]; rfl, rfl⟩
            case round =>
              obtain ⟨k, hk1, hk2, rfl, rfl, rfl⟩ := hrel
              by_cases hjk : j < k
              · obtain ⟨ad', hAe, hck⟩ := (H.out.below hbF).at_ hk2
                injection hAe with hAe
                subst hAe
                by_cases hk0 : 0 ≤ m[k]
                · have hnx : Hid (Al.nextOf (m.drop (k - 1 + 1)) N = m[k]) := by rw [show k - 1 + 1 = k by omega, List.drop_eq_getElem_cons hk2, Al.nextOf, if_pos hk0]; exact rfl
                  generalize m[k] = tk at *
                  go_wp2
                  go_roundw
                  case rel => exact ⟨k - 1, by omega, by omega, by go_num, by rw [hnx.out], by first | rfl | trivial⟩
                  case measure => first | (simp [intOf]; done) | (simp [intOf]; omega)
                · have hnx : Hid (Al.nextOf (m.drop (k - 1 + 1)) N = Al.nextOf (m.drop (k + 1)) N) := by rw [show k - 1 + 1 = k by omega, List.drop_eq_getElem_cons hk2, Al.nextOf, if_neg hk0]; exact rfl
                  generalize m[k] = tk at *
                  go_wp2
                  go_roundw
                  case rel => exact ⟨k - 1, by omega, by omega, by go_num, by rw [hnx.out], by first | rfl | trivial⟩
                  case measure => first | (simp [intOf]; done) | (simp [intOf]; omega)
              · obtain rfl : k = j := by omega
                obtain ⟨g, rfl⟩ := F.st.some_ (by omega)
                have hol : k < o.length := by rw [F.st.len_]; exact hlj
                obtain ⟨d1, d3, _⟩ := own_cell F.st.own (i := k) (x := vInt o[k]) (by rw [List.getElem?_map, List.getElem?_eq_getElem hol]; rfl)
                have hi1 : (k : Int) < (m.length : Int) := by omega
                generalize Al.nextOf (m.drop (k + 1)) N = z at *
                by_cases hx : fr < z
                · have hF5 := hF3 hx
                  clear hF3 hF4
                  go_wp2
                  go_roundw
                  case rel => exact ⟨k + 1, fr + 1, o.set k fr, by omega, by go_num, by go_num, by omega, by omega, F.set_ k fr, hF5⟩
                  case measure => first | (simp [intOf]; done) | (simp [intOf]; omega)
                · have hF5 := hF4 (by omega)
                  clear hF3 hF4
                  go_wp2
                  go_roundw
                  case rel => exact ⟨k + 1, fr, o, by omega, by go_num, rfl, by omega, by omega, F, hF5⟩
                  case measure => first | (simp [intOf]; done) | (simp [intOf]; omega)
        · obtain rfl : j = m.length := by omega
          have hfin := fwd_end hF.out
          obtain ⟨f0, f1, f2, f3, f4, f5, f6⟩ := F.st.facts
          go_wp2
          obtain ⟨q0, q1, q2, q3⟩ := RSt.result (M := N) F.st.res F.st.own F.st.below (Nat.le_succ _)
          refine bodyPost_ret (v := .agg #[.slice A1 m.length c1, .int .i64 N]) ?_ rfl ?_
          · simp [results, Try.f34, go_sem, q0, q1]
          · exact ⟨_, _, rfl, by rw [← hfin]; exact q2, q3⟩
  · skip
    conv => arg 4; whnf
    conv => arg 4; arg 1; whnf
    refine pt_eff (by rfl) (fun K hK => ?_)
    go_wp2
    refine hK _ _ ((Below.refl _ _).alloc (Nat.le_refl _) _) ?_
    clear hK K
    obtain ⟨O, hOe⟩ : ∃ O, Wd.heap.size = O := ⟨_, rfl⟩
    obtain ⟨Wa, hWa⟩ : ∃ Wa, Wa = Wd.alloc (.cells #[.slice none 0 0, .int .i64 0] 30) := ⟨_, rfl⟩
    have eWa : Below Wd.heap.size Wd Wa := by rw [hWa]; exact (Below.refl _ _).alloc (Nat.le_refl _) _
    have hbWa := hbWd.trans (eWa.mono hbWd.size)
    have hPWa := (eWa.block _ (by omega)).trans hPWd
    have hRWa := (eWa.block _ (by omega)).trans hRWd
    have hsWa : w.heap.size + 2 ≤ Wa.heap.size := by have := eWa.size; omega
    have hOWa : Wa.heap[O]? = some (.cells #[.slice none 0 0, .int .i64 0] 30 (0, 0)) := by rw [hWa, ← hOe]; exact heap_alloc_new _ _
    have hOl : w.heap.size + 2 ≤ O ∧ O < Wa.heap.size := by rw [hWa]; simp; omega
    rw [← hWa, hOe]
    clear hWa hOe
    conv => arg 4; whnf
    conv => arg 4; arg 1; whnf
    refine pt_eff (by rfl) (fun K hK => ?_)
    go_wp2
    refine hK _ _ ((Below.refl _ _).alloc (Nat.le_refl _) _) ?_
    clear hK K
    obtain ⟨G, hGe⟩ : ∃ G, Wa.heap.size = G := ⟨_, rfl⟩
    obtain ⟨Wb, hWb⟩ : ∃ Wb, Wb = Wa.alloc (.cells #[] 3) := ⟨_, rfl⟩
    have eWb : Below Wa.heap.size Wa Wb := by rw [hWb]; exact (Below.refl _ _).alloc (Nat.le_refl _) _
    have hbWb := hbWa.trans (eWb.mono hbWa.size)
    have hPWb := (eWb.block _ (by omega)).trans hPWa
    have hRWb := (eWb.block _ (by omega)).trans hRWa
    have hsWb : w.heap.size + 2 ≤ Wb.heap.size := by have := eWb.size; omega
    have hGWb : Wb.heap[G]? = some (.cells #[] 3 (0, 0)) := by rw [hWb, ← hGe]; exact heap_alloc_new _ _
    have hGl : w.heap.size ≤ G := by omega
    have hOWb := (eWb.block _ (by omega)).trans hOWa
    rw [← hWb, hGe]
    clear hWb hGe
    conv => arg 4; whnf
    conv => arg 4; arg 1; whnf
    refine pt_eff (by rfl) (fun K hK => ?_)
    refine wp_appLit eInt (by rfl) (by rfl) hGWb hGl (by rfl) rfl (H.out.below hbWb) (by omega) (fun v1 Wc hvWc qWc => ?_)
    obtain ⟨A1, c1, rfl, _⟩ := own_form hvWc
    refine hK _ _ qWc ?_
    clear hK K
    simp only [Act.put, List.setIfInBounds_toArray, List.set_cons_zero, List.set_cons_succ]
    have eWc : Below Wb.heap.size Wb Wc := qWc
    have hbWc := hbWb.trans (eWc.mono hbWb.size)
    have hPWc := (eWc.block _ (by omega)).trans hPWb
    have hRWc := (eWc.block _ (by omega)).trans hRWb
    have hsWc : w.heap.size + 2 ≤ Wc.heap.size := by have := eWc.size; omega
    have hOWc := (eWc.block _ (by have := (Array.getElem?_eq_some_iff.1 hOWb).1; omega)).trans hOWb
    conv => arg 4; whnf
    conv => arg 4; arg 1; whnf
    refine pt_free (by rfl) (fun K hK => ?_)
    go_big_quiet_op
    first | (refine hK _ ?_; clear hK K) | (refine ⟨_, fun _ _ => rfl, hK _ ?_⟩; clear hK K)
    obtain ⟨z0, z1, z2, z3⟩ := zfacts hOWc
    conv => arg 4; whnf
    conv => arg 4; arg 1; whnf
    refine pt_last (by rfl) (fun K hK => ?_)
    go_wp2
    refine pt_nil ?_
    have ho := map_store (v := .slice A1 m.length c1) (M := .int .i64 N) hOWc
    have hv9 := ownsRow_setCell_other (ownsRow_setCell_other hvWc (own_ne_kind hvWc hOWc (by decide)) (.slice A1 m.length c1) (a := ⟨O, 0, none⟩)) (own_ne_kind hvWc hOWc (by decide)) (.int .i64 N) (a := ⟨O, 1, none⟩)
    have F0 : QSt w w.heap.size (w.heap.size + 1) O (.slice A m.length c) (.slice A1 m.length c1) m.length N m ((Wc.setCell ⟨O, 0, none⟩ (.slice A1 m.length c1)).setCell ⟨O, 1, none⟩ (.int .i64 N)) :=
      ⟨⟨ho, (blkSet (by show w.heap.size + 1 ≠ O; omega)).trans ((blkSet (by show w.heap.size + 1 ≠ O; omega)).trans hRWc), hv9, (hbWc.setCell (p := ⟨O, 0, none⟩) (by show w.heap.size ≤ O; omega) _).setCell (p := ⟨O, 1, none⟩) (by show w.heap.size ≤ O; omega) _, by omega⟩,
        (blkSet (by show w.heap.size ≠ O; omega)).trans ((blkSet (by show w.heap.size ≠ O; omega)).trans hPWc), by omega⟩
    generalize (Wc.setCell ⟨O, 0, none⟩ (.slice A1 m.length c1)).setCell ⟨O, 1, none⟩ (.int .i64 N) = Wz at *
    clear z0 z1 z2 z3 hPWd hRWd hsWd hbWd ho hv9 eWa hbWa hPWa hRWa hsWa hOl hOWa eWb hbWb hPWb hRWb hsWb hGl hGWb hOWb eWc hbWc hPWc hRWc hsWc qWc hOWc hvWc
    have F := F0
    clear F0
    go_wp2
    go_loopw [4, 5, 6, 7] (fun i k _ _ wr => ∃ (j : Nat) (fr : Int) (o : List Int), j ≤ m.length ∧ i = .int .i64 j ∧ k = .int .i64 fr ∧ 0 ≤ fr ∧ fr ≤ 1000000 ∧ QSt w w.heap.size (w.heap.size + 1) O (.slice A m.length c) (.slice A1 m.length c1) m.length N o wr ∧ Hid (Fwd m N fr o j)) (fun i _ _ _ _ => m.length - (intOf i).toNat)
    case atStart => exact ⟨0, 0, m, Nat.zero_le _, rfl, rfl, by omega, by omega, F, fwd_start m N⟩
    case round =>
      clear F
      obtain ⟨j, fr, o, hj, rfl, rfl, hf0, hf1, F, hF⟩ := hrel
      obtain ⟨p0, p1, pl⟩ := F.pfacts
      have hbF := F.st.below
      by_cases hlj : j < m.length
      · have hA1 := H.out.below hbF
        obtain ⟨ad, hAe, hc⟩ := hA1.at_ hlj
        have hmj := HM.out m[j] (List.getElem_mem _)
        by_cases h0 : 0 ≤ m[j]
        · have hF2 := Lib.hid (fwd_pair hF.out hlj h0)
          subst hAe
          clear hF hA1
          generalize m[j] = t at *
          go_wp2
          go_roundw
          case rel => exact ⟨j + 1, t + 1, o, by omega, by go_num, by go_num, by omega, by omega, F, hF2⟩
          case measure => first | (simp [intOf]; done) | (simp [intOf]; omega)
        · have hnf := Al.nextOf_fit (HM.out.drop (j + 1)) hN hN2
          have hF3 := fun hx => Lib.hid (fwd_free hF.out hlj h0 hx)
          have hF4 := fun hx => Lib.hid (fwd_none hF.out hlj h0 hmj.1 hx)
          obtain ⟨f0, f1, f2, f3, f4, f5, f6⟩ := F.st.facts
          have HZ : Hid (Al.nextOf (m.drop (j + 1)) N = Al.nextOf (m.drop (j + 1)) N) := rfl
          subst hAe
          clear hF
          have hmj0 := h0
          obtain ⟨tj, htj⟩ : ∃ tj, tj = m[j] := ⟨_, rfl⟩
          rw [← htj] at hc h0 hmj
          clear htj hmj0 hA1
          go_wp2
          go_loopw [6, 7] (fun e jj wi => ∃ k : Nat, j ≤ k ∧ k < m.length ∧ jj = .int .i64 k ∧ e = .int .i64 (Al.nextOf (m.drop (k + 1)) N) ∧ wi = wr) (fun _ jj _ => (intOf jj).toNat)
          case atStart => exact ⟨m.length - 1, by omega, by omega, by go_num, by rw [show m.length - 1 + 1 = m.length by omega, List.drop_length]; rfl, rfl⟩
          case round =>
            obtain ⟨k, hk1, hk2, rfl, rfl, rfl⟩ := hrel
            by_cases hjk : j < k
            · obtain ⟨ad', hAe, hck⟩ := (H.out.below hbF).at_ hk2
              injection hAe with hAe
              subst hAe
              by_cases hk0 : 0 ≤ m[k]
              · have hnx : Hid (Al.nextOf (m.drop (k - 1 + 1)) N = m[k]) := by rw [show k - 1 + 1 = k by omega, List.drop_eq_getElem_cons hk2, Al.nextOf, if_pos hk0]; exact rfl
                generalize m[k] = tk at *
                go_wp2
                go_roundw
                case rel => exact ⟨k - 1, by omega, by omega, by go_num, by rw [hnx.out], by first | rfl | trivial⟩
                case measure => first | (simp [intOf]; done) | (simp [intOf]; omega)
              · have hnx : Hid (Al.nextOf (m.drop (k - 1 + 1)) N = Al.nextOf (m.drop (k + 1)) N) := by rw [show k - 1 + 1 = k by omega, List.drop_eq_getElem_cons hk2, Al.nextOf, if_neg hk0]; exact rfl
                generalize m[k] = tk at *
                go_wp2
                go_roundw
                case rel => exact ⟨k - 1, by omega, by omega, by go_num, by rw [hnx.out], by first | rfl | trivial⟩
                case measure => first | (simp [intOf]; done) | (simp [intOf]; omega)
            · obtain rfl : k = j := by omega
              obtain ⟨g, rfl⟩ := F.st.some_ (by omega)
              have hol : k < o.length := by rw [F.st.len_]; exact hlj
              obtain ⟨d1, d3, _⟩ := own_cell F.st.own (i := k) (x := vInt o[k]) (by rw [List.getElem?_map, List.getElem?_eq_getElem hol]; rfl)
              have hi1 : (k : Int) < (m.length : Int) := by omega
              generalize Al.nextOf (m.drop (k + 1)) N = z at *
              by_cases hx : fr < z
              · have hF5 := hF3 hx
                clear hF3 hF4
                go_wp2
                go_roundw
                case rel => exact ⟨k + 1, fr + 1, o.set k fr, by omega, by go_num, by go_num, by omega, by omega, F.set_ k fr, hF5⟩
                case measure => first | (simp [intOf]; done) | (simp [intOf]; omega)
              · have hF5 := hF4 (by omega)
                clear hF3 hF4
                go_wp2
                go_roundw
                case rel => exact ⟨k + 1, fr, o, by omega, by go_num, rfl, by omega, by omega, F, hF5⟩
                case measure => first | (simp [intOf]; done) | (simp [intOf]; omega)
      · obtain rfl : j = m.length := by omega
        have hfin := fwd_end hF.out
        obtain ⟨f0, f1, f2, f3, f4, f5, f6⟩ := F.st.facts
        go_wp2
        obtain ⟨q0, q1, q2, q3⟩ := RSt.result (M := N) F.st.res F.st.own F.st.below (Nat.le_succ _)
        refine bodyPost_ret (v := .agg #[.slice A1 m.length c1, .int .i64 N]) ?_ rfl ?_
        · simp [results, Try.f34, go_sem, q0, q1]
        · exact ⟨_, _, rfl, by rw [← hfin]; exact q2, q3⟩
end Go.Proofs.Ythoccmgfpjfkoaa
