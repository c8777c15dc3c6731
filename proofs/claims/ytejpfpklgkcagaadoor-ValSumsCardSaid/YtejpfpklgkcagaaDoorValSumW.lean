/- The walk of ValSums. Written by valsumgen.py. -/
import Derived.Test.YtejpfpklgkcagaaDoorValNeg
import Derived.Test.YtejpfpklgkcagaaDoorValErr
namespace Go.Proofs.YtejpfpklgkcagaaDoor
open Go.RowKit Go.Maps
theorem resV_in {z : Int} (h : InR z) : resV z = (1, z, ⟨#[]⟩) := if_pos h
theorem resV_out {z : Int} (h : ¬ InR z) : resV z = (4, 2, ⟨#[]⟩) := if_neg h
theorem prod_small {a b : Int} (ha : -2147483648 ≤ a ∧ a ≤ 2147483647) (hb : -2147483648 ≤ b ∧ b ≤ 2147483647) : InR (a * b) := by
  have h1 : (a * b).natAbs = a.natAbs * b.natAbs := Int.natAbs_mul a b
  have h2 : a.natAbs * b.natAbs ≤ 2147483648 * 2147483648 := Nat.mul_le_mul (by omega) (by omega)
  unfold InR
  omega
theorem field_n (x y z : Value) (W : World) : (Instr.field 24 (.agg #[x, y, z]) 1).run Tryd.prog W = .ok y W := by kernel_rfl
set_option maxRecDepth 100000 in
set_option maxHeartbeats 4000000 in
theorem valSums_walk (w : World) (a b far0 : Int) (h1 : (Lit.int .i32 a).wf = true) (h2 : (Lit.int .i32 b).wf = true) (h3 : (Lit.int .u8 far0).wf = true) :
    Calls Tryd.prog 6 #[.int .i32 a, .int .i32 b, .int .u8 far0] w fun e w' => e = .returned (.bool true) ∧ Below w.heap.size w w' := by
  have ha : -2147483648 ≤ a ∧ a ≤ 2147483647 := by simpa [Lit.wf, IntKind.min, IntKind.max, IntKind.signed, IntKind.bits] using h1
  have hb : -2147483648 ≤ b ∧ b ≤ 2147483647 := by simpa [Lit.wf, IntKind.min, IntKind.max, IntKind.signed, IntKind.bits] using h2
  obtain ⟨far, rfl, hf⟩ : ∃ q : Nat, far0 = (q : Int) ∧ q < 256 := by
    simp [Lit.wf, IntKind.min, IntKind.max, IntKind.signed, IntKind.bits] at h3; exact ⟨far0.toNat, by omega, by omega⟩
  have wa : IntKind.i64.wrap a = a := by simp [IntKind.wrap, IntKind.signed, IntKind.bits]; omega
  have wb : IntKind.i64.wrap b = b := by simp [IntKind.wrap, IntKind.signed, IntKind.bits]; omega
  have wf : IntKind.i64.wrap (far : Int) = far := by simp [IntKind.wrap, IntKind.signed, IntKind.bits]; omega
  have wf1 : wrap64 (1 + (far : Int)) = 1 + far := wrap_in (by unfold InR; omega)
  have wf2 : wrap64 (2 + (far : Int)) = 2 + far := wrap_in (by unfold InR; omega)
  have s1 : InR (a + b) := by unfold InR; omega
  have s2 : InR (a - b) := by unfold InR; omega
  have s3 : InR (a * b) := prod_small ha hb
  have w1 : wrap64 (a + b) = a + b := wrap_in s1
  have w2 : wrap64 (a - b) = a - b := wrap_in s2
  have w3 : wrap64 (a * b) = a * b := wrap_in s3
  have ra : InR a := by unfold InR; omega
  have rb : InR b := by unfold InR; omega
  have c1 := fun W => two_sum W 1 1 a b ⟨#[]⟩ ⟨#[]⟩ (.inl rfl) (.inl rfl) ra rb
  have c2 := fun W => two_dif W 1 1 a b ⟨#[]⟩ ⟨#[]⟩ (.inl rfl) (.inl rfl) ra rb
  have c3 := fun W => two_prod W 1 1 a b ⟨#[]⟩ ⟨#[]⟩ (.inl rfl) (.inl rfl) ra rb
  rw [resV_in s1] at c1
  rw [resV_in s2] at c2
  rw [resV_in s3] at c3
  have q1 := fun W => two_sum W 1 1 9223372036854775807 (1 + far) ⟨#[]⟩ ⟨#[]⟩ (.inl rfl) (.inl rfl) (by decide) (by unfold InR; omega)
  rw [resV_out (show ¬ InR (9223372036854775807 + (1 + (far : Int))) by unfold InR; omega)] at q1
  have q2 := fun W => two_dif W 1 1 (-9223372036854775808) (1 + far) ⟨#[]⟩ ⟨#[]⟩ (.inl rfl) (.inl rfl) (by decide) (by unfold InR; omega)
  rw [resV_out (show ¬ InR (-9223372036854775808 - (1 + (far : Int))) by unfold InR; omega)] at q2
  have q3 := fun W => two_prod W 1 1 9223372036854775807 (2 + far) ⟨#[]⟩ ⟨#[]⟩ (.inl rfl) (.inl rfl) (by decide) (by unfold InR; omega)
  rw [resV_out (show ¬ InR (9223372036854775807 * (2 + (far : Int))) by unfold InR; omega)] at q3
  have q4 := fun W => neg_low W 1 ⟨#[]⟩ (.inl rfl)
  have q5 := fun W => two_quo W 1 1 (-9223372036854775808) (-1) ⟨#[]⟩ ⟨#[]⟩ (.inl rfl) (.inl rfl) (by decide) (by decide)
  rw [resV_out quo_out] at q5
  have q6 := fun W => two_prod W 1 1 (-9223372036854775808) (-1) ⟨#[]⟩ ⟨#[]⟩ (.inl rfl) (.inl rfl) (by decide) (by decide)
  rw [resV_out (show ¬ InR (-9223372036854775808 * -1) by decide)] at q6
  have q7 := fun W => two_prod W 1 1 (-1) (-9223372036854775808) ⟨#[]⟩ ⟨#[]⟩ (.inl rfl) (.inl rfl) (by decide) (by decide)
  rw [resV_out (show ¬ InR (-1 * -9223372036854775808) by decide)] at q7
  have hq : ∃ k n : Int, Hid ((∀ W : World, Calls Tryd.prog 11 #[.int .i64 19, .agg #[.int .i64 1, .int .i64 a, .string ⟨#[]⟩], .agg #[.int .i64 1, .int .i64 b, .string ⟨#[]⟩]] W fun e w' => e = .returned (.agg #[.int .i64 k, .int .i64 n, .string ⟨#[]⟩]) ∧ Below W.heap.size W w') ∧ ((b = 0 ∧ k = 4 ∧ n = 3) ∨ (b ≠ 0 ∧ k = 1 ∧ n = a.tdiv b ∧ wrap64 (a.tdiv b) = a.tdiv b))) := by
    by_cases hz : b = 0
    · subst hz
      exact ⟨4, 3, fun W => two_nought W 1 1 a ⟨#[]⟩ ⟨#[]⟩ (.inl rfl) (.inl rfl) (by decide) (by decide), .inl ⟨rfl, rfl, rfl⟩⟩
    · have r := quo_rng ra hz (by omega)
      have c := fun W => two_quo W 1 1 a b ⟨#[]⟩ ⟨#[]⟩ (.inl rfl) (.inl rfl) ra hz
      rw [resV_in r] at c
      exact ⟨1, a.tdiv b, c, .inr ⟨hz, rfl, rfl, wrap_in r⟩⟩
  obtain ⟨qk, qn, HQ⟩ := hq
  have C1 := Lib.hid c1
  have C2 := Lib.hid c2
  have C3 := Lib.hid c3
  have Q1 := Lib.hid q1
  have Q2 := Lib.hid q2
  have Q3 := Lib.hid q3
  have Q4 := Lib.hid q4
  have Q5 := Lib.hid q5
  have Q6 := Lib.hid q6
  have Q7 := Lib.hid q7
  have hfd := fun (x y z : Value) (W : World) => field_n x y z W
  clear c1 c2 c3 q1 q2 q3 q4 q5 q6 q7 s1 s2 s3 ra rb ha hb h1 h2 h3
  go_enter Tryd.func6, Tryd.ntmps6
  go_wp2_with fail
  obtain ⟨W, hW⟩ : ∃ W, W = ((((w.alloc (.cells #[.int .i64 1, .int .i64 a, .string ⟨#[]⟩] 24)).alloc (.cells #[.int .i64 1, .int .i64 b, .string ⟨#[]⟩] 24)).alloc (.cells #[.int .i64 1, .int .i64 9223372036854775807, .string ⟨#[]⟩] 24)).alloc (.cells #[.int .i64 1, .int .i64 (-9223372036854775808), .string ⟨#[]⟩] 24)) := ⟨_, rfl⟩
  have hs0 := heap_alloc_new w (.cells #[.int .i64 1, .int .i64 a, .string ⟨#[]⟩] 24)
  have hs1 := heap_alloc_new (w.alloc (.cells #[.int .i64 1, .int .i64 a, .string ⟨#[]⟩] 24)) (.cells #[.int .i64 1, .int .i64 b, .string ⟨#[]⟩] 24)
  rw [World.size_alloc] at hs1
  have hs2 := heap_alloc_new ((w.alloc (.cells #[.int .i64 1, .int .i64 a, .string ⟨#[]⟩] 24)).alloc (.cells #[.int .i64 1, .int .i64 b, .string ⟨#[]⟩] 24)) (.cells #[.int .i64 1, .int .i64 9223372036854775807, .string ⟨#[]⟩] 24)
  rw [World.size_alloc, World.size_alloc] at hs2
  have hs3 := heap_alloc_new (((w.alloc (.cells #[.int .i64 1, .int .i64 a, .string ⟨#[]⟩] 24)).alloc (.cells #[.int .i64 1, .int .i64 b, .string ⟨#[]⟩] 24)).alloc (.cells #[.int .i64 1, .int .i64 9223372036854775807, .string ⟨#[]⟩] 24)) (.cells #[.int .i64 1, .int .i64 (-9223372036854775808), .string ⟨#[]⟩] 24)
  rw [World.size_alloc, World.size_alloc, World.size_alloc] at hs3
  have hX : W.heap[w.heap.size]? = some (.cells #[.int .i64 1, .int .i64 a, .string ⟨#[]⟩] 24 (0, 0)) := by rw [hW]; exact (Below.heap_alloc _ _ _ (by simp; try omega)).trans ((Below.heap_alloc _ _ _ (by simp; try omega)).trans ((Below.heap_alloc _ _ _ (by simp; try omega)).trans (hs0)))
  have hY : W.heap[w.heap.size + 1]? = some (.cells #[.int .i64 1, .int .i64 b, .string ⟨#[]⟩] 24 (0, 0)) := by rw [hW]; exact (Below.heap_alloc _ _ _ (by simp; try omega)).trans ((Below.heap_alloc _ _ _ (by simp; try omega)).trans (hs1))
  have hG : W.heap[w.heap.size + 1 + 1]? = some (.cells #[.int .i64 1, .int .i64 9223372036854775807, .string ⟨#[]⟩] 24 (0, 0)) := by rw [hW]; exact (Below.heap_alloc _ _ _ (by simp; try omega)).trans (hs2)
  have hL : W.heap[w.heap.size + 1 + 1 + 1]? = some (.cells #[.int .i64 1, .int .i64 (-9223372036854775808), .string ⟨#[]⟩] 24 (0, 0)) := by rw [hW]; exact hs3
  have hsW : W.heap.size = w.heap.size + 4 := by rw [hW]; simp
  have hbW : Below w.heap.size w W := by rw [hW]; exact ((((Below.refl _ _).alloc (Nat.le_refl _) _).alloc (by simp; try omega) _).alloc (by simp; try omega) _).alloc (by simp; try omega) _
  rw [← hW]
  clear hW hs0 hs1 hs2 hs3
  have hbw := hbW
  clear hbW hsW
  generalize W = wv at *
  have hXl : w.heap.size < wv.heap.size := (Array.getElem?_eq_some_iff.1 hX).1
  have hYl : w.heap.size + 1 < wv.heap.size := (Array.getElem?_eq_some_iff.1 hY).1
  have hGl : w.heap.size + 1 + 1 < wv.heap.size := (Array.getElem?_eq_some_iff.1 hG).1
  have hLl : w.heap.size + 1 + 1 + 1 < wv.heap.size := (Array.getElem?_eq_some_iff.1 hL).1
  refine (C1.out _).mono ?_
  rintro en wn ⟨rfl, hbn⟩
  have hbw := hbw.trans (hbn.mono hbw.size)
  have hX := (hbn.block _ hXl).trans hX
  have hY := (hbn.block _ hYl).trans hY
  have hG := (hbn.block _ hGl).trans hG
  have hL := (hbn.block _ hLl).trans hL
  clear hXl hYl hGl hLl hbn
  generalize wn = wv at *
  have hXl : w.heap.size < wv.heap.size := (Array.getElem?_eq_some_iff.1 hX).1
  have hYl : w.heap.size + 1 < wv.heap.size := (Array.getElem?_eq_some_iff.1 hY).1
  have hGl : w.heap.size + 1 + 1 < wv.heap.size := (Array.getElem?_eq_some_iff.1 hG).1
  have hLl : w.heap.size + 1 + 1 + 1 < wv.heap.size := (Array.getElem?_eq_some_iff.1 hL).1
  obtain ⟨v00, v01, v02, _⟩ := val3 hX
  obtain ⟨v10, v11, v12, _⟩ := val3 hY
  obtain ⟨v20, v21, v22, _⟩ := val3 hG
  obtain ⟨v30, v31, v32, _⟩ := val3 hL
  go_wp2_with fail
  clear v00 v01 v02 v10 v11 v12 v20 v21 v22 v30 v31 v32
  refine (C2.out _).mono ?_
  rintro en wn ⟨rfl, hbn⟩
  have hbw := hbw.trans (hbn.mono hbw.size)
  have hX := (hbn.block _ hXl).trans hX
  have hY := (hbn.block _ hYl).trans hY
  have hG := (hbn.block _ hGl).trans hG
  have hL := (hbn.block _ hLl).trans hL
  clear hXl hYl hGl hLl hbn
  generalize wn = wv at *
  have hXl : w.heap.size < wv.heap.size := (Array.getElem?_eq_some_iff.1 hX).1
  have hYl : w.heap.size + 1 < wv.heap.size := (Array.getElem?_eq_some_iff.1 hY).1
  have hGl : w.heap.size + 1 + 1 < wv.heap.size := (Array.getElem?_eq_some_iff.1 hG).1
  have hLl : w.heap.size + 1 + 1 + 1 < wv.heap.size := (Array.getElem?_eq_some_iff.1 hL).1
  obtain ⟨v00, v01, v02, _⟩ := val3 hX
  obtain ⟨v10, v11, v12, _⟩ := val3 hY
  obtain ⟨v20, v21, v22, _⟩ := val3 hG
  obtain ⟨v30, v31, v32, _⟩ := val3 hL
  go_wp2_with fail
  clear v00 v01 v02 v10 v11 v12 v20 v21 v22 v30 v31 v32
  refine (C3.out _).mono ?_
  rintro en wn ⟨rfl, hbn⟩
  have hbw := hbw.trans (hbn.mono hbw.size)
  have hX := (hbn.block _ hXl).trans hX
  have hY := (hbn.block _ hYl).trans hY
  have hG := (hbn.block _ hGl).trans hG
  have hL := (hbn.block _ hLl).trans hL
  clear hXl hYl hGl hLl hbn
  generalize wn = wv at *
  have hXl : w.heap.size < wv.heap.size := (Array.getElem?_eq_some_iff.1 hX).1
  have hYl : w.heap.size + 1 < wv.heap.size := (Array.getElem?_eq_some_iff.1 hY).1
  have hGl : w.heap.size + 1 + 1 < wv.heap.size := (Array.getElem?_eq_some_iff.1 hG).1
  have hLl : w.heap.size + 1 + 1 + 1 < wv.heap.size := (Array.getElem?_eq_some_iff.1 hL).1
  obtain ⟨v00, v01, v02, _⟩ := val3 hX
  obtain ⟨v10, v11, v12, _⟩ := val3 hY
  obtain ⟨v20, v21, v22, _⟩ := val3 hG
  obtain ⟨v30, v31, v32, _⟩ := val3 hL
  go_wp2_with fail
  clear v00 v01 v02 v10 v11 v12 v20 v21 v22 v30 v31 v32
  refine (HQ.out.1 _).mono ?_
  rintro en wn ⟨rfl, hbn⟩
  have hbw := hbw.trans (hbn.mono hbw.size)
  have hX := (hbn.block _ hXl).trans hX
  have hY := (hbn.block _ hYl).trans hY
  have hG := (hbn.block _ hGl).trans hG
  have hL := (hbn.block _ hLl).trans hL
  clear hXl hYl hGl hLl hbn
  generalize wn = wv at *
  have hXl : w.heap.size < wv.heap.size := (Array.getElem?_eq_some_iff.1 hX).1
  have hYl : w.heap.size + 1 < wv.heap.size := (Array.getElem?_eq_some_iff.1 hY).1
  have hGl : w.heap.size + 1 + 1 < wv.heap.size := (Array.getElem?_eq_some_iff.1 hG).1
  have hLl : w.heap.size + 1 + 1 + 1 < wv.heap.size := (Array.getElem?_eq_some_iff.1 hL).1
  obtain ⟨v00, v01, v02, _⟩ := val3 hX
  obtain ⟨v10, v11, v12, _⟩ := val3 hY
  obtain ⟨v20, v21, v22, _⟩ := val3 hG
  obtain ⟨v30, v31, v32, _⟩ := val3 hL
  go_wp2_with fail
  clear v00 v01 v02 v10 v11 v12 v20 v21 v22 v30 v31 v32
  obtain ⟨PQ, hPQ⟩ : ∃ PQ, wv.heap.size = PQ := ⟨_, rfl⟩
  have hQ := heap_alloc_new wv (.cells #[.int .i64 qk, .int .i64 qn, .string ⟨#[]⟩] 24)
  have hX := (Below.heap_alloc wv (.cells #[.int .i64 qk, .int .i64 qn, .string ⟨#[]⟩] 24) (w.heap.size) (by omega)).trans hX
  have hY := (Below.heap_alloc wv (.cells #[.int .i64 qk, .int .i64 qn, .string ⟨#[]⟩] 24) (w.heap.size + 1) (by omega)).trans hY
  have hG := (Below.heap_alloc wv (.cells #[.int .i64 qk, .int .i64 qn, .string ⟨#[]⟩] 24) (w.heap.size + 1 + 1) (by omega)).trans hG
  have hL := (Below.heap_alloc wv (.cells #[.int .i64 qk, .int .i64 qn, .string ⟨#[]⟩] 24) (w.heap.size + 1 + 1 + 1) (by omega)).trans hL
  have hbw := hbw.alloc hbw.size (.cells #[.int .i64 qk, .int .i64 qn, .string ⟨#[]⟩] 24)
  rw [hPQ] at hQ ⊢
  clear hPQ hXl hYl hGl hLl
  generalize wv.alloc (.cells #[.int .i64 qk, .int .i64 qn, .string ⟨#[]⟩] 24) = wv at *
  rcases HQ.out.2 with ⟨hb0, rfl, rfl⟩ | ⟨hb0, rfl, rfl, wq⟩
  · clear HQ
    have qb : (b == 0) = true := by simpa using hb0
    have qc : (b != 0) = false := by simp [hb0]
    refine wp_region_tree [] (.free 0 (.free 1 (.free 2 (.free 3 (.free 4 (.free 5 (.free 6 (.free 7 (.free 8 (.free 9 (.free 10 (.free 11 (.free 12 (.free 13 (.free 14 (.free 15 (.free 16 (.free 17 (.free 18 (.free 19 (.free 20 (.free 21 (.free 22 (.free 23 (.free 24 (.free 25 (.free 26 (.free 27 (.free 28 (.free 29 (.free 30 .nil))))))))))))))))))))))))))))))) (by kernel_rfl) (by kernel_rfl) (fun _ _ d _ _ h => by cases d <;> exact h) ?_
    have hX : wv.drew.heap[w.heap.size]? = _ := hX
    have hY : wv.drew.heap[w.heap.size + 1]? = _ := hY
    have hG : wv.drew.heap[w.heap.size + 1 + 1]? = _ := hG
    have hL : wv.drew.heap[w.heap.size + 1 + 1 + 1]? = _ := hL
    have hQ : wv.drew.heap[PQ]? = _ := hQ
    have hbw := hbw.drew
    generalize wv.drew = wv at *
    have hXl : w.heap.size < wv.heap.size := (Array.getElem?_eq_some_iff.1 hX).1
    have hYl : w.heap.size + 1 < wv.heap.size := (Array.getElem?_eq_some_iff.1 hY).1
    have hGl : w.heap.size + 1 + 1 < wv.heap.size := (Array.getElem?_eq_some_iff.1 hG).1
    have hLl : w.heap.size + 1 + 1 + 1 < wv.heap.size := (Array.getElem?_eq_some_iff.1 hL).1
    have hQl : PQ < wv.heap.size := (Array.getElem?_eq_some_iff.1 hQ).1
    obtain ⟨u0, u1, u2, _⟩ := val3 hQ
    conv => arg 4; whnf
    conv => arg 4; arg 1; whnf
    refine pt_free (by rfl) (fun K hK => ?_)
    go_big_quiet_op
    first | (refine hK _ ?_; clear hK K) | (refine ⟨_, fun _ _ => rfl, hK _ ?_⟩; clear hK K)
    conv => arg 4; whnf
    conv => arg 4; arg 1; whnf
    refine pt_free (by rfl) (fun K hK => ?_)
    go_big_quiet_op
    first | (refine hK _ ?_; clear hK K) | (refine ⟨_, fun _ _ => rfl, hK _ ?_⟩; clear hK K)
    conv => arg 4; whnf
    conv => arg 4; arg 1; whnf
    refine pt_free (by rfl) (fun K hK => ?_)
    go_big_quiet_op
    first | (refine hK _ ?_; clear hK K) | (refine ⟨_, fun _ _ => rfl, hK _ ?_⟩; clear hK K)
    conv => arg 4; whnf
    conv => arg 4; arg 1; whnf
    refine pt_free (by rfl) (fun K hK => ?_)
    go_big_quiet_op
    first | (refine hK _ ?_; clear hK K) | (refine ⟨_, fun _ _ => rfl, hK _ ?_⟩; clear hK K)
    conv => arg 4; whnf
    conv => arg 4; arg 1; whnf
    refine pt_load (fun W h => load_int _ _ W h) (p := ⟨PQ, 0, none⟩) u0 hQl (by rfl) rfl rfl ?_
    simp only [Act.put, List.setIfInBounds_toArray, List.set_cons_zero, List.set_cons_succ]
    conv => arg 4; whnf
    conv => arg 4; arg 1; whnf
    refine pt_free (by rfl) (fun K hK => ?_)
    go_big_quiet_op
    first | (refine hK _ ?_; clear hK K) | (refine ⟨_, fun _ _ => rfl, hK _ ?_⟩; clear hK K)
    conv => arg 4; whnf
    conv => arg 4; arg 1; whnf
    refine pt_free (by rfl) (fun K hK => ?_)
    go_big_quiet_op
    first | (refine hK _ ?_; clear hK K) | (refine ⟨_, fun _ _ => rfl, hK _ ?_⟩; clear hK K)
    conv => arg 4; whnf
    conv => arg 4; arg 1; whnf
    refine pt_free (by rfl) (fun K hK => ?_)
    go_big_quiet_op
    first | (refine hK _ ?_; clear hK K) | (refine ⟨_, fun _ _ => rfl, hK _ ?_⟩; clear hK K)
    conv => arg 4; whnf
    conv => arg 4; arg 1; whnf
    refine pt_load (fun W h => load_int _ _ W h) (p := ⟨PQ, 1, none⟩) u1 hQl (by rfl) rfl rfl ?_
    simp only [Act.put, List.setIfInBounds_toArray, List.set_cons_zero, List.set_cons_succ]
    conv => arg 4; whnf
    conv => arg 4; arg 1; whnf
    refine pt_free (by rfl) (fun K hK => ?_)
    go_big_quiet_op
    first | (refine hK _ ?_; clear hK K) | (refine ⟨_, fun _ _ => rfl, hK _ ?_⟩; clear hK K)
    conv => arg 4; whnf
    conv => arg 4; arg 1; whnf
    refine pt_free (by rfl) (fun K hK => ?_)
    go_big_quiet_op
    first | (refine hK _ ?_; clear hK K) | (refine ⟨_, fun _ _ => rfl, hK _ ?_⟩; clear hK K)
    conv => arg 4; whnf
    conv => arg 4; arg 1; whnf
    refine pt_free (by rfl) (fun K hK => ?_)
    go_big_quiet_op
    first | (refine hK _ ?_; clear hK K) | (refine ⟨_, fun _ _ => rfl, hK _ ?_⟩; clear hK K)
    conv => arg 4; whnf
    conv => arg 4; arg 1; whnf
    refine pt_free (by rfl) (fun K hK => ?_)
    go_big_quiet_op
    first | (refine hK _ ?_; clear hK K) | (refine ⟨_, fun _ _ => rfl, hK _ ?_⟩; clear hK K)
    conv => arg 4; whnf
    conv => arg 4; arg 1; whnf
    refine pt_free (by rfl) (fun K hK => ?_)
    go_big_quiet_op
    first | (refine hK _ ?_; clear hK K) | (refine ⟨_, fun _ _ => rfl, hK _ ?_⟩; clear hK K)
    conv => arg 4; whnf
    conv => arg 4; arg 1; whnf
    refine pt_free (by rfl) (fun K hK => ?_)
    go_big_quiet_op
    first | (refine hK _ ?_; clear hK K) | (refine ⟨_, fun _ _ => rfl, hK _ ?_⟩; clear hK K)
    conv => arg 4; whnf
    conv => arg 4; arg 1; whnf
    refine pt_free (by rfl) (fun K hK => ?_)
    go_big_quiet_op
    first | (refine hK _ ?_; clear hK K) | (refine ⟨_, fun _ _ => rfl, hK _ ?_⟩; clear hK K)
    conv => arg 4; whnf
    conv => arg 4; arg 1; whnf
    refine pt_free_skip (by rfl) ?_
    simp only [Act.put, List.setIfInBounds_toArray, List.set_cons_zero, List.set_cons_succ]
    conv => arg 4; whnf
    conv => arg 4; arg 1; whnf
    refine pt_free_skip (by rfl) ?_
    simp only [Act.put, List.setIfInBounds_toArray, List.set_cons_zero, List.set_cons_succ]
    conv => arg 4; whnf
    conv => arg 4; arg 1; whnf
    refine pt_free_skip (by rfl) ?_
    simp only [Act.put, List.setIfInBounds_toArray, List.set_cons_zero, List.set_cons_succ]
    conv => arg 4; whnf
    conv => arg 4; arg 1; whnf
    refine pt_free_skip (by rfl) ?_
    simp only [Act.put, List.setIfInBounds_toArray, List.set_cons_zero, List.set_cons_succ]
    conv => arg 4; whnf
    conv => arg 4; arg 1; whnf
    refine pt_free_skip (by rfl) ?_
    simp only [Act.put, List.setIfInBounds_toArray, List.set_cons_zero, List.set_cons_succ]
    conv => arg 4; whnf
    conv => arg 4; arg 1; whnf
    refine pt_free_skip (by rfl) ?_
    simp only [Act.put, List.setIfInBounds_toArray, List.set_cons_zero, List.set_cons_succ]
    conv => arg 4; whnf
    conv => arg 4; arg 1; whnf
    refine pt_free_skip (by rfl) ?_
    simp only [Act.put, List.setIfInBounds_toArray, List.set_cons_zero, List.set_cons_succ]
    conv => arg 4; whnf
    conv => arg 4; arg 1; whnf
    refine pt_free_skip (by rfl) ?_
    simp only [Act.put, List.setIfInBounds_toArray, List.set_cons_zero, List.set_cons_succ]
    conv => arg 4; whnf
    conv => arg 4; arg 1; whnf
    refine pt_free_skip (by rfl) ?_
    simp only [Act.put, List.setIfInBounds_toArray, List.set_cons_zero, List.set_cons_succ]
    conv => arg 4; whnf
    conv => arg 4; arg 1; whnf
    refine pt_free_skip (by rfl) ?_
    simp only [Act.put, List.setIfInBounds_toArray, List.set_cons_zero, List.set_cons_succ]
    conv => arg 4; whnf
    conv => arg 4; arg 1; whnf
    refine pt_free_skip (by rfl) ?_
    simp only [Act.put, List.setIfInBounds_toArray, List.set_cons_zero, List.set_cons_succ]
    conv => arg 4; whnf
    conv => arg 4; arg 1; whnf
    refine pt_free_skip (by rfl) ?_
    simp only [Act.put, List.setIfInBounds_toArray, List.set_cons_zero, List.set_cons_succ]
    conv => arg 4; whnf
    conv => arg 4; arg 1; whnf
    refine pt_free_skip (by rfl) ?_
    simp only [Act.put, List.setIfInBounds_toArray, List.set_cons_zero, List.set_cons_succ]
    conv => arg 4; whnf
    conv => arg 4; arg 1; whnf
    refine pt_free (by rfl) (fun K hK => ?_)
    go_big_quiet_op
    first | (refine hK _ ?_; clear hK K) | (refine ⟨_, fun _ _ => rfl, hK _ ?_⟩; clear hK K)
    conv => arg 4; whnf
    conv => arg 4; arg 1; whnf
    refine pt_free (by rfl) (fun K hK => ?_)
    go_big_quiet_op
    first | (refine hK _ ?_; clear hK K) | (refine ⟨_, fun _ _ => rfl, hK _ ?_⟩; clear hK K)
    clear u0 u1 u2
    refine pt_nil ?_
    go_wp2_with fail
    obtain ⟨PQN, hPQN⟩ : ∃ P, wv.heap.size = P := ⟨_, rfl⟩
    obtain ⟨PQM, hPQM⟩ : ∃ P, wv.heap.size + 1 = P := ⟨_, rfl⟩
    have hN0 := heap_alloc_new wv (.cells #[.int .i64 1, .int .i64 (1 + (far : Int)), .string ⟨#[]⟩] 24)
    have hM := heap_alloc_new (wv.alloc (.cells #[.int .i64 1, .int .i64 (1 + (far : Int)), .string ⟨#[]⟩] 24)) (.cells #[.int .i64 1, .int .i64 (-1), .string ⟨#[]⟩] 24)
    rw [World.size_alloc] at hM
    have hN := (Below.heap_alloc (wv.alloc (.cells #[.int .i64 1, .int .i64 (1 + (far : Int)), .string ⟨#[]⟩] 24)) (.cells #[.int .i64 1, .int .i64 (-1), .string ⟨#[]⟩] 24) wv.heap.size (by simp)).trans hN0
    have hG := (Below.heap_alloc (wv.alloc (.cells #[.int .i64 1, .int .i64 (1 + (far : Int)), .string ⟨#[]⟩] 24)) (.cells #[.int .i64 1, .int .i64 (-1), .string ⟨#[]⟩] 24) (w.heap.size + 1 + 1) (by simp; omega)).trans ((Below.heap_alloc wv (.cells #[.int .i64 1, .int .i64 (1 + (far : Int)), .string ⟨#[]⟩] 24) (w.heap.size + 1 + 1) (by omega)).trans hG)
    have hL := (Below.heap_alloc (wv.alloc (.cells #[.int .i64 1, .int .i64 (1 + (far : Int)), .string ⟨#[]⟩] 24)) (.cells #[.int .i64 1, .int .i64 (-1), .string ⟨#[]⟩] 24) (w.heap.size + 1 + 1 + 1) (by simp; omega)).trans ((Below.heap_alloc wv (.cells #[.int .i64 1, .int .i64 (1 + (far : Int)), .string ⟨#[]⟩] 24) (w.heap.size + 1 + 1 + 1) (by omega)).trans hL)
    have hbw := (hbw.alloc hbw.size (.cells #[.int .i64 1, .int .i64 (1 + (far : Int)), .string ⟨#[]⟩] 24)).alloc (by have := hbw.size; simp; omega) (.cells #[.int .i64 1, .int .i64 (-1), .string ⟨#[]⟩] 24)
    rw [hPQN] at hN
    rw [hPQM] at hM
    rw [hPQN]
    rw [hPQN] at hPQM
    rw [hPQM]
    clear hPQM hPQN hN0 hX hY hQ hXl hYl hGl hLl hQl
    generalize (wv.alloc (.cells #[.int .i64 1, .int .i64 (1 + (far : Int)), .string ⟨#[]⟩] 24)).alloc (.cells #[.int .i64 1, .int .i64 (-1), .string ⟨#[]⟩] 24) = wv at *
    refine wp_region_tree [] (.free 0 (.free 1 (.free 3 (.free 4 (.free 6 (.free 7 (.free 8 (.free 9 (.free 10 (.free 12 (.free 14 (.free 15 (.free 17 (.free 18 (.free 20 (.free 21 (.eff 2 (.eff 5 (.eff 11 (.eff 13 (.eff 16 (.eff 19 (.eff 22 (.eff 23 (.free 24 .nil))))))))))))))))))))))))) (by kernel_rfl) (by kernel_rfl) (fun _ _ d _ _ h => by cases d <;> exact h) ?_
    have hG : wv.drew.heap[w.heap.size + 1 + 1]? = _ := hG
    have hL : wv.drew.heap[w.heap.size + 1 + 1 + 1]? = _ := hL
    have hN : wv.drew.heap[PQN]? = _ := hN
    have hM : wv.drew.heap[PQM]? = _ := hM
    have hbw := hbw.drew
    generalize wv.drew = wv at *
    have hGl : w.heap.size + 1 + 1 < wv.heap.size := (Array.getElem?_eq_some_iff.1 hG).1
    have hLl : w.heap.size + 1 + 1 + 1 < wv.heap.size := (Array.getElem?_eq_some_iff.1 hL).1
    have hNl : PQN < wv.heap.size := (Array.getElem?_eq_some_iff.1 hN).1
    have hMl : PQM < wv.heap.size := (Array.getElem?_eq_some_iff.1 hM).1
    conv => arg 4; whnf
    conv => arg 4; arg 1; whnf
    refine pt_loadB (k := w.heap.size + 1 + 1) (fun W h => load_val _ W _ _ _ (h.trans hG)) hGl (by rfl) rfl rfl ?_
    simp only [Act.put, List.setIfInBounds_toArray, List.set_cons_zero, List.set_cons_succ]
    conv => arg 4; whnf
    conv => arg 4; arg 1; whnf
    refine pt_loadB (k := PQN) (fun W h => load_val _ W _ _ _ (h.trans hN)) hNl (by rfl) rfl rfl ?_
    simp only [Act.put, List.setIfInBounds_toArray, List.set_cons_zero, List.set_cons_succ]
    conv => arg 4; whnf
    conv => arg 4; arg 1; whnf
    refine pt_loadB (k := w.heap.size + 1 + 1 + 1) (fun W h => load_val _ W _ _ _ (h.trans hL)) hLl (by rfl) rfl rfl ?_
    simp only [Act.put, List.setIfInBounds_toArray, List.set_cons_zero, List.set_cons_succ]
    conv => arg 4; whnf
    conv => arg 4; arg 1; whnf
    refine pt_loadB (k := PQN) (fun W h => load_val _ W _ _ _ (h.trans hN)) hNl (by rfl) rfl rfl ?_
    simp only [Act.put, List.setIfInBounds_toArray, List.set_cons_zero, List.set_cons_succ]
    conv => arg 4; whnf
    conv => arg 4; arg 1; whnf
    refine pt_loadB (k := w.heap.size + 1 + 1) (fun W h => load_val _ W _ _ _ (h.trans hG)) hGl (by rfl) rfl rfl ?_
    simp only [Act.put, List.setIfInBounds_toArray, List.set_cons_zero, List.set_cons_succ]
    conv => arg 4; whnf
    conv => arg 4; arg 1; whnf
    refine pt_free (by rfl) (fun K hK => ?_)
    go_big_quiet_op
    first | (refine hK _ ?_; clear hK K) | (refine ⟨_, fun _ _ => rfl, hK _ ?_⟩; clear hK K)
    conv => arg 4; whnf
    conv => arg 4; arg 1; whnf
    refine pt_free (by rfl) (fun K hK => ?_)
    go_big_quiet_op
    first | (refine hK _ ?_; clear hK K) | (refine ⟨_, fun _ _ => rfl, hK _ ?_⟩; clear hK K)
    conv => arg 4; whnf
    conv => arg 4; arg 1; whnf
    refine pt_free (by rfl) (fun K hK => ?_)
    go_big_quiet_op
    first | (refine hK _ ?_; clear hK K) | (refine ⟨_, fun _ _ => rfl, hK _ ?_⟩; clear hK K)
    conv => arg 4; whnf
    conv => arg 4; arg 1; whnf
    refine pt_free (by rfl) (fun K hK => ?_)
    go_big_quiet_op
    first | (refine hK _ ?_; clear hK K) | (refine ⟨_, fun _ _ => rfl, hK _ ?_⟩; clear hK K)
    conv => arg 4; whnf
    conv => arg 4; arg 1; whnf
    refine pt_loadB (k := w.heap.size + 1 + 1 + 1) (fun W h => load_val _ W _ _ _ (h.trans hL)) hLl (by rfl) rfl rfl ?_
    simp only [Act.put, List.setIfInBounds_toArray, List.set_cons_zero, List.set_cons_succ]
    conv => arg 4; whnf
    conv => arg 4; arg 1; whnf
    refine pt_loadB (k := w.heap.size + 1 + 1 + 1) (fun W h => load_val _ W _ _ _ (h.trans hL)) hLl (by rfl) rfl rfl ?_
    simp only [Act.put, List.setIfInBounds_toArray, List.set_cons_zero, List.set_cons_succ]
    conv => arg 4; whnf
    conv => arg 4; arg 1; whnf
    refine pt_loadB (k := PQM) (fun W h => load_val _ W _ _ _ (h.trans hM)) hMl (by rfl) rfl rfl ?_
    simp only [Act.put, List.setIfInBounds_toArray, List.set_cons_zero, List.set_cons_succ]
    conv => arg 4; whnf
    conv => arg 4; arg 1; whnf
    refine pt_loadB (k := w.heap.size + 1 + 1 + 1) (fun W h => load_val _ W _ _ _ (h.trans hL)) hLl (by rfl) rfl rfl ?_
    simp only [Act.put, List.setIfInBounds_toArray, List.set_cons_zero, List.set_cons_succ]
    conv => arg 4; whnf
    conv => arg 4; arg 1; whnf
    refine pt_loadB (k := PQM) (fun W h => load_val _ W _ _ _ (h.trans hM)) hMl (by rfl) rfl rfl ?_
    simp only [Act.put, List.setIfInBounds_toArray, List.set_cons_zero, List.set_cons_succ]
    conv => arg 4; whnf
    conv => arg 4; arg 1; whnf
    refine pt_loadB (k := PQM) (fun W h => load_val _ W _ _ _ (h.trans hM)) hMl (by rfl) rfl rfl ?_
    simp only [Act.put, List.setIfInBounds_toArray, List.set_cons_zero, List.set_cons_succ]
    conv => arg 4; whnf
    conv => arg 4; arg 1; whnf
    refine pt_loadB (k := w.heap.size + 1 + 1 + 1) (fun W h => load_val _ W _ _ _ (h.trans hL)) hLl (by rfl) rfl rfl ?_
    simp only [Act.put, List.setIfInBounds_toArray, List.set_cons_zero, List.set_cons_succ]
    conv => arg 4; whnf
    conv => arg 4; arg 1; whnf
    refine pt_eff (by rfl) (fun K hK => ?_)
    go_wp2_with fail
    refine (Q1.out _).mono ?_
    rintro en wn ⟨rfl, hbn⟩
    refine hK _ _ hbn ?_
    clear hK K
    have hbw := hbw.trans (hbn.mono hbw.size)
    clear hbn
    generalize wn = wv at *
    conv => arg 4; whnf
    conv => arg 4; arg 1; whnf
    refine pt_eff (by rfl) (fun K hK => ?_)
    go_wp2_with fail
    refine (Q2.out _).mono ?_
    rintro en wn ⟨rfl, hbn⟩
    refine hK _ _ hbn ?_
    clear hK K
    have hbw := hbw.trans (hbn.mono hbw.size)
    clear hbn
    generalize wn = wv at *
    conv => arg 4; whnf
    conv => arg 4; arg 1; whnf
    refine pt_eff (by rfl) (fun K hK => ?_)
    go_wp2_with fail
    refine (Q3.out _).mono ?_
    rintro en wn ⟨rfl, hbn⟩
    refine hK _ _ hbn ?_
    clear hK K
    have hbw := hbw.trans (hbn.mono hbw.size)
    clear hbn
    generalize wn = wv at *
    conv => arg 4; whnf
    conv => arg 4; arg 1; whnf
    refine pt_eff (by rfl) (fun K hK => ?_)
    go_wp2_with fail
    refine (Q4.out _).mono ?_
    rintro en wn ⟨rfl, hbn⟩
    refine hK _ _ hbn ?_
    clear hK K
    have hbw := hbw.trans (hbn.mono hbw.size)
    clear hbn
    generalize wn = wv at *
    conv => arg 4; whnf
    conv => arg 4; arg 1; whnf
    refine pt_eff (by rfl) (fun K hK => ?_)
    go_wp2_with fail
    refine (Q5.out _).mono ?_
    rintro en wn ⟨rfl, hbn⟩
    refine hK _ _ hbn ?_
    clear hK K
    have hbw := hbw.trans (hbn.mono hbw.size)
    clear hbn
    generalize wn = wv at *
    conv => arg 4; whnf
    conv => arg 4; arg 1; whnf
    refine pt_eff (by rfl) (fun K hK => ?_)
    go_wp2_with fail
    refine (Q6.out _).mono ?_
    rintro en wn ⟨rfl, hbn⟩
    refine hK _ _ hbn ?_
    clear hK K
    have hbw := hbw.trans (hbn.mono hbw.size)
    clear hbn
    generalize wn = wv at *
    conv => arg 4; whnf
    conv => arg 4; arg 1; whnf
    refine pt_eff (by rfl) (fun K hK => ?_)
    go_wp2_with fail
    refine (Q7.out _).mono ?_
    rintro en wn ⟨rfl, hbn⟩
    refine hK _ _ hbn ?_
    clear hK K
    have hbw := hbw.trans (hbn.mono hbw.size)
    clear hbn
    generalize wn = wv at *
    clear hG hL hN hM hGl hLl hNl hMl Q1 Q2 Q3 Q4 Q5 Q6 Q7 C1 C2 C3
    conv => arg 4; whnf
    conv => arg 4; arg 1; whnf
    refine pt_eff (by rfl) (fun K hK => ?_)
    go_wp2_with fail
    refine hK _ _ ((Below.refl _ _).alloc (Nat.le_refl _) _) ?_
    clear hK K
    obtain ⟨PL, hPL⟩ : ∃ P, wv.heap.size = P := ⟨_, rfl⟩
    have hZ := heap_alloc_new wv (.cells #[.int .i64 4, .int .i64 2, .string ⟨#[]⟩, .int .i64 4, .int .i64 2, .string ⟨#[]⟩, .int .i64 4, .int .i64 2, .string ⟨#[]⟩, .int .i64 4, .int .i64 2, .string ⟨#[]⟩, .int .i64 4, .int .i64 2, .string ⟨#[]⟩, .int .i64 4, .int .i64 2, .string ⟨#[]⟩, .int .i64 4, .int .i64 2, .string ⟨#[]⟩] 24)
    have hbw := hbw.alloc hbw.size (.cells #[.int .i64 4, .int .i64 2, .string ⟨#[]⟩, .int .i64 4, .int .i64 2, .string ⟨#[]⟩, .int .i64 4, .int .i64 2, .string ⟨#[]⟩, .int .i64 4, .int .i64 2, .string ⟨#[]⟩, .int .i64 4, .int .i64 2, .string ⟨#[]⟩, .int .i64 4, .int .i64 2, .string ⟨#[]⟩, .int .i64 4, .int .i64 2, .string ⟨#[]⟩] 24)
    rw [hPL] at hZ ⊢
    clear hPL
    generalize wv.alloc (.cells #[.int .i64 4, .int .i64 2, .string ⟨#[]⟩, .int .i64 4, .int .i64 2, .string ⟨#[]⟩, .int .i64 4, .int .i64 2, .string ⟨#[]⟩, .int .i64 4, .int .i64 2, .string ⟨#[]⟩, .int .i64 4, .int .i64 2, .string ⟨#[]⟩, .int .i64 4, .int .i64 2, .string ⟨#[]⟩, .int .i64 4, .int .i64 2, .string ⟨#[]⟩] 24) = wv at *
    conv => arg 4; whnf
    conv => arg 4; arg 1; whnf
    refine pt_free (by rfl) (fun K hK => ?_)
    go_big_quiet_op
    first | (refine hK _ ?_; clear hK K) | (refine ⟨_, fun _ _ => rfl, hK _ ?_⟩; clear hK K)
    refine pt_nil ?_
    go_wp2_with fail
    go_loopw [15] (fun i wr => ∃ k : Nat, k ≤ 7 ∧ i = .int .i64 k ∧ wv = wr) (fun i _ => 7 - (intOf i).toNat)
    case atStart => exact ⟨0, by omega, rfl, rfl⟩
    case round =>
      obtain ⟨k, hk, rfl, rfl⟩ := hrel
      rcases (show k = 0 ∨ k = 1 ∨ k = 2 ∨ k = 3 ∨ k = 4 ∨ k = 5 ∨ k = 6 ∨ k = 7 by omega) with rfl | rfl | rfl | rfl | rfl | rfl | rfl | rfl
      · have z0 : wv.cell? ⟨PL, 0, none⟩ = some (.int .i64 4) := by simp [World.cell?, hZ]
        have z1 : wv.cell? ⟨PL, 1, none⟩ = some (.int .i64 2) := by simp [World.cell?, hZ]
        clear hZ
        go_wp2
        go_roundw
        case rel => exact ⟨1, by omega, by go_num, trivial⟩
        case measure => first | (simp [intOf]; done) | (simp [intOf]; omega)
      · have z0 : wv.cell? ⟨PL, 3, none⟩ = some (.int .i64 4) := by simp [World.cell?, hZ]
        have z1 : wv.cell? ⟨PL, 4, none⟩ = some (.int .i64 2) := by simp [World.cell?, hZ]
        clear hZ
        go_wp2
        go_roundw
        case rel => exact ⟨2, by omega, by go_num, trivial⟩
        case measure => first | (simp [intOf]; done) | (simp [intOf]; omega)
      · have z0 : wv.cell? ⟨PL, 6, none⟩ = some (.int .i64 4) := by simp [World.cell?, hZ]
        have z1 : wv.cell? ⟨PL, 7, none⟩ = some (.int .i64 2) := by simp [World.cell?, hZ]
        clear hZ
        go_wp2
        go_roundw
        case rel => exact ⟨3, by omega, by go_num, trivial⟩
        case measure => first | (simp [intOf]; done) | (simp [intOf]; omega)
      · have z0 : wv.cell? ⟨PL, 9, none⟩ = some (.int .i64 4) := by simp [World.cell?, hZ]
        have z1 : wv.cell? ⟨PL, 10, none⟩ = some (.int .i64 2) := by simp [World.cell?, hZ]
        clear hZ
        go_wp2
        go_roundw
        case rel => exact ⟨4, by omega, by go_num, trivial⟩
        case measure => first | (simp [intOf]; done) | (simp [intOf]; omega)
      · have z0 : wv.cell? ⟨PL, 12, none⟩ = some (.int .i64 4) := by simp [World.cell?, hZ]
        have z1 : wv.cell? ⟨PL, 13, none⟩ = some (.int .i64 2) := by simp [World.cell?, hZ]
        clear hZ
        go_wp2
        go_roundw
        case rel => exact ⟨5, by omega, by go_num, trivial⟩
        case measure => first | (simp [intOf]; done) | (simp [intOf]; omega)
      · have z0 : wv.cell? ⟨PL, 15, none⟩ = some (.int .i64 4) := by simp [World.cell?, hZ]
        have z1 : wv.cell? ⟨PL, 16, none⟩ = some (.int .i64 2) := by simp [World.cell?, hZ]
        clear hZ
        go_wp2
        go_roundw
        case rel => exact ⟨6, by omega, by go_num, trivial⟩
        case measure => first | (simp [intOf]; done) | (simp [intOf]; omega)
      · have z0 : wv.cell? ⟨PL, 18, none⟩ = some (.int .i64 4) := by simp [World.cell?, hZ]
        have z1 : wv.cell? ⟨PL, 19, none⟩ = some (.int .i64 2) := by simp [World.cell?, hZ]
        clear hZ
        go_wp2
        go_roundw
        case rel => exact ⟨7, by omega, by go_num, trivial⟩
        case measure => first | (simp [intOf]; done) | (simp [intOf]; omega)
      · go_wp2_with fail
        refine (awake7 _).mono ?_
        rintro en wn ⟨rfl, hbn⟩
        have hbw := hbw.trans (hbn.mono hbw.size)
        go_wp2
        go_ret
        exact ⟨rfl, hbw⟩
  · clear HQ
    have qb : (b == 0) = false := by simpa using hb0
    have qc : (b != 0) = true := by simpa using hb0
    refine wp_region_tree [] (.free 0 (.free 1 (.free 2 (.free 3 (.free 4 (.free 5 (.free 6 (.free 7 (.free 8 (.free 9 (.free 10 (.free 11 (.free 12 (.free 13 (.free 14 (.free 15 (.free 16 (.free 17 (.free 18 (.free 19 (.free 20 (.free 21 (.free 22 (.free 23 (.free 24 (.free 25 (.free 26 (.free 27 (.free 28 (.free 29 (.free 30 .nil))))))))))))))))))))))))))))))) (by kernel_rfl) (by kernel_rfl) (fun _ _ d _ _ h => by cases d <;> exact h) ?_
    have hX : wv.drew.heap[w.heap.size]? = _ := hX
    have hY : wv.drew.heap[w.heap.size + 1]? = _ := hY
    have hG : wv.drew.heap[w.heap.size + 1 + 1]? = _ := hG
    have hL : wv.drew.heap[w.heap.size + 1 + 1 + 1]? = _ := hL
    have hQ : wv.drew.heap[PQ]? = _ := hQ
    have hbw := hbw.drew
    generalize wv.drew = wv at *
    have hXl : w.heap.size < wv.heap.size := (Array.getElem?_eq_some_iff.1 hX).1
    have hYl : w.heap.size + 1 < wv.heap.size := (Array.getElem?_eq_some_iff.1 hY).1
    have hGl : w.heap.size + 1 + 1 < wv.heap.size := (Array.getElem?_eq_some_iff.1 hG).1
    have hLl : w.heap.size + 1 + 1 + 1 < wv.heap.size := (Array.getElem?_eq_some_iff.1 hL).1
    have hQl : PQ < wv.heap.size := (Array.getElem?_eq_some_iff.1 hQ).1
    obtain ⟨u0, u1, u2, _⟩ := val3 hQ
    conv => arg 4; whnf
    conv => arg 4; arg 1; whnf
    refine pt_free (by rfl) (fun K hK => ?_)
    go_big_quiet_op
    first | (refine hK _ ?_; clear hK K) | (refine ⟨_, fun _ _ => rfl, hK _ ?_⟩; clear hK K)
    conv => arg 4; whnf
    conv => arg 4; arg 1; whnf
    refine pt_free (by rfl) (fun K hK => ?_)
    go_big_quiet_op
    first | (refine hK _ ?_; clear hK K) | (refine ⟨_, fun _ _ => rfl, hK _ ?_⟩; clear hK K)
    conv => arg 4; whnf
    conv => arg 4; arg 1; whnf
    refine pt_free (by rfl) (fun K hK => ?_)
    go_big_quiet_op
    first | (refine hK _ ?_; clear hK K) | (refine ⟨_, fun _ _ => rfl, hK _ ?_⟩; clear hK K)
    conv => arg 4; whnf
    conv => arg 4; arg 1; whnf
    refine pt_free_skip (by rfl) ?_
    simp only [Act.put, List.setIfInBounds_toArray, List.set_cons_zero, List.set_cons_succ]
    conv => arg 4; whnf
    conv => arg 4; arg 1; whnf
    refine pt_free_skip (by rfl) ?_
    simp only [Act.put, List.setIfInBounds_toArray, List.set_cons_zero, List.set_cons_succ]
    conv => arg 4; whnf
    conv => arg 4; arg 1; whnf
    refine pt_free_skip (by rfl) ?_
    simp only [Act.put, List.setIfInBounds_toArray, List.set_cons_zero, List.set_cons_succ]
    conv => arg 4; whnf
    conv => arg 4; arg 1; whnf
    refine pt_free_skip (by rfl) ?_
    simp only [Act.put, List.setIfInBounds_toArray, List.set_cons_zero, List.set_cons_succ]
    conv => arg 4; whnf
    conv => arg 4; arg 1; whnf
    refine pt_free_skip (by rfl) ?_
    simp only [Act.put, List.setIfInBounds_toArray, List.set_cons_zero, List.set_cons_succ]
    conv => arg 4; whnf
    conv => arg 4; arg 1; whnf
    refine pt_free_skip (by rfl) ?_
    simp only [Act.put, List.setIfInBounds_toArray, List.set_cons_zero, List.set_cons_succ]
    conv => arg 4; whnf
    conv => arg 4; arg 1; whnf
    refine pt_free_skip (by rfl) ?_
    simp only [Act.put, List.setIfInBounds_toArray, List.set_cons_zero, List.set_cons_succ]
    conv => arg 4; whnf
    conv => arg 4; arg 1; whnf
    refine pt_free_skip (by rfl) ?_
    simp only [Act.put, List.setIfInBounds_toArray, List.set_cons_zero, List.set_cons_succ]
    conv => arg 4; whnf
    conv => arg 4; arg 1; whnf
    refine pt_free (by rfl) (fun K hK => ?_)
    go_big_quiet_op
    first | (refine hK _ ?_; clear hK K) | (refine ⟨_, fun _ _ => rfl, hK _ ?_⟩; clear hK K)
    conv => arg 4; whnf
    conv => arg 4; arg 1; whnf
    refine pt_free (by rfl) (fun K hK => ?_)
    go_big_quiet_op
    first | (refine hK _ ?_; clear hK K) | (refine ⟨_, fun _ _ => rfl, hK _ ?_⟩; clear hK K)
    conv => arg 4; whnf
    conv => arg 4; arg 1; whnf
    refine pt_free (by rfl) (fun K hK => ?_)
    go_big_quiet_op
    first | (refine hK _ ?_; clear hK K) | (refine ⟨_, fun _ _ => rfl, hK _ ?_⟩; clear hK K)
    conv => arg 4; whnf
    conv => arg 4; arg 1; whnf
    refine pt_free (by rfl) (fun K hK => ?_)
    go_big_quiet_op
    first | (refine hK _ ?_; clear hK K) | (refine ⟨_, fun _ _ => rfl, hK _ ?_⟩; clear hK K)
    conv => arg 4; whnf
    conv => arg 4; arg 1; whnf
    refine pt_free (by rfl) (fun K hK => ?_)
    go_big_quiet_op
    first | (refine hK _ ?_; clear hK K) | (refine ⟨_, fun _ _ => rfl, hK _ ?_⟩; clear hK K)
    conv => arg 4; whnf
    conv => arg 4; arg 1; whnf
    refine pt_free (by rfl) (fun K hK => ?_)
    go_big_quiet_op
    first | (refine hK _ ?_; clear hK K) | (refine ⟨_, fun _ _ => rfl, hK _ ?_⟩; clear hK K)
    conv => arg 4; whnf
    conv => arg 4; arg 1; whnf
    refine pt_load (fun W h => load_int _ _ W h) (p := ⟨PQ, 0, none⟩) u0 hQl (by rfl) rfl rfl ?_
    simp only [Act.put, List.setIfInBounds_toArray, List.set_cons_zero, List.set_cons_succ]
    conv => arg 4; whnf
    conv => arg 4; arg 1; whnf
    refine pt_free (by rfl) (fun K hK => ?_)
    go_big_quiet_op
    first | (refine hK _ ?_; clear hK K) | (refine ⟨_, fun _ _ => rfl, hK _ ?_⟩; clear hK K)
    conv => arg 4; whnf
    conv => arg 4; arg 1; whnf
    refine pt_free (by rfl) (fun K hK => ?_)
    go_big_quiet_op
    first | (refine hK _ ?_; clear hK K) | (refine ⟨_, fun _ _ => rfl, hK _ ?_⟩; clear hK K)
    conv => arg 4; whnf
    conv => arg 4; arg 1; whnf
    refine pt_free (by rfl) (fun K hK => ?_)
    go_big_quiet_op
    first | (refine hK _ ?_; clear hK K) | (refine ⟨_, fun _ _ => rfl, hK _ ?_⟩; clear hK K)
    conv => arg 4; whnf
    conv => arg 4; arg 1; whnf
    refine pt_load (fun W h => load_int _ _ W h) (p := ⟨PQ, 1, none⟩) u1 hQl (by rfl) rfl rfl ?_
    simp only [Act.put, List.setIfInBounds_toArray, List.set_cons_zero, List.set_cons_succ]
    conv => arg 4; whnf
    conv => arg 4; arg 1; whnf
    refine pt_free (by rfl) (fun K hK => ?_)
    go_big_quiet_op
    first | (refine hK _ ?_; clear hK K) | (refine ⟨_, fun _ _ => rfl, hK _ ?_⟩; clear hK K)
    conv => arg 4; whnf
    conv => arg 4; arg 1; whnf
    refine pt_free (by rfl) (fun K hK => ?_)
    go_big_quiet_op
    first | (refine hK _ ?_; clear hK K) | (refine ⟨_, fun _ _ => rfl, hK _ ?_⟩; clear hK K)
    conv => arg 4; whnf
    conv => arg 4; arg 1; whnf
    refine pt_free (by rfl) (fun K hK => ?_)
    go_big_quiet_op
    first | (refine hK _ ?_; clear hK K) | (refine ⟨_, fun _ _ => rfl, hK _ ?_⟩; clear hK K)
    conv => arg 4; whnf
    conv => arg 4; arg 1; whnf
    refine pt_free (by rfl) (fun K hK => ?_)
    go_big_quiet_op
    first | (refine hK _ ?_; clear hK K) | (refine ⟨_, fun _ _ => rfl, hK _ ?_⟩; clear hK K)
    conv => arg 4; whnf
    conv => arg 4; arg 1; whnf
    refine pt_free (by rfl) (fun K hK => ?_)
    go_big_quiet_op
    first | (refine hK _ ?_; clear hK K) | (refine ⟨_, fun _ _ => rfl, hK _ ?_⟩; clear hK K)
    conv => arg 4; whnf
    conv => arg 4; arg 1; whnf
    refine pt_free (by rfl) (fun K hK => ?_)
    go_big_quiet_op
    first | (refine hK _ ?_; clear hK K) | (refine ⟨_, fun _ _ => rfl, hK _ ?_⟩; clear hK K)
    conv => arg 4; whnf
    conv => arg 4; arg 1; whnf
    refine pt_free (by rfl) (fun K hK => ?_)
    go_big_quiet_op
    first | (refine hK _ ?_; clear hK K) | (refine ⟨_, fun _ _ => rfl, hK _ ?_⟩; clear hK K)
    conv => arg 4; whnf
    conv => arg 4; arg 1; whnf
    refine pt_free (by rfl) (fun K hK => ?_)
    go_big_quiet_op
    first | (refine hK _ ?_; clear hK K) | (refine ⟨_, fun _ _ => rfl, hK _ ?_⟩; clear hK K)
    conv => arg 4; whnf
    conv => arg 4; arg 1; whnf
    refine pt_free (by rfl) (fun K hK => ?_)
    go_big_quiet_op
    first | (refine hK _ ?_; clear hK K) | (refine ⟨_, fun _ _ => rfl, hK _ ?_⟩; clear hK K)
    clear u0 u1 u2
    refine pt_nil ?_
    go_wp2_with fail
    obtain ⟨PQN, hPQN⟩ : ∃ P, wv.heap.size = P := ⟨_, rfl⟩
    obtain ⟨PQM, hPQM⟩ : ∃ P, wv.heap.size + 1 = P := ⟨_, rfl⟩
    have hN0 := heap_alloc_new wv (.cells #[.int .i64 1, .int .i64 (1 + (far : Int)), .string ⟨#[]⟩] 24)
    have hM := heap_alloc_new (wv.alloc (.cells #[.int .i64 1, .int .i64 (1 + (far : Int)), .string ⟨#[]⟩] 24)) (.cells #[.int .i64 1, .int .i64 (-1), .string ⟨#[]⟩] 24)
    rw [World.size_alloc] at hM
    have hN := (Below.heap_alloc (wv.alloc (.cells #[.int .i64 1, .int .i64 (1 + (far : Int)), .string ⟨#[]⟩] 24)) (.cells #[.int .i64 1, .int .i64 (-1), .string ⟨#[]⟩] 24) wv.heap.size (by simp)).trans hN0
    have hG := (Below.heap_alloc (wv.alloc (.cells #[.int .i64 1, .int .i64 (1 + (far : Int)), .string ⟨#[]⟩] 24)) (.cells #[.int .i64 1, .int .i64 (-1), .string ⟨#[]⟩] 24) (w.heap.size + 1 + 1) (by simp; omega)).trans ((Below.heap_alloc wv (.cells #[.int .i64 1, .int .i64 (1 + (far : Int)), .string ⟨#[]⟩] 24) (w.heap.size + 1 + 1) (by omega)).trans hG)
    have hL := (Below.heap_alloc (wv.alloc (.cells #[.int .i64 1, .int .i64 (1 + (far : Int)), .string ⟨#[]⟩] 24)) (.cells #[.int .i64 1, .int .i64 (-1), .string ⟨#[]⟩] 24) (w.heap.size + 1 + 1 + 1) (by simp; omega)).trans ((Below.heap_alloc wv (.cells #[.int .i64 1, .int .i64 (1 + (far : Int)), .string ⟨#[]⟩] 24) (w.heap.size + 1 + 1 + 1) (by omega)).trans hL)
    have hbw := (hbw.alloc hbw.size (.cells #[.int .i64 1, .int .i64 (1 + (far : Int)), .string ⟨#[]⟩] 24)).alloc (by have := hbw.size; simp; omega) (.cells #[.int .i64 1, .int .i64 (-1), .string ⟨#[]⟩] 24)
    rw [hPQN] at hN
    rw [hPQM] at hM
    rw [hPQN]
    rw [hPQN] at hPQM
    rw [hPQM]
    clear hPQM hPQN hN0 hX hY hQ hXl hYl hGl hLl hQl
    generalize (wv.alloc (.cells #[.int .i64 1, .int .i64 (1 + (far : Int)), .string ⟨#[]⟩] 24)).alloc (.cells #[.int .i64 1, .int .i64 (-1), .string ⟨#[]⟩] 24) = wv at *
    refine wp_region_tree [] (.free 0 (.free 1 (.free 3 (.free 4 (.free 6 (.free 7 (.free 8 (.free 9 (.free 10 (.free 12 (.free 14 (.free 15 (.free 17 (.free 18 (.free 20 (.free 21 (.eff 2 (.eff 5 (.eff 11 (.eff 13 (.eff 16 (.eff 19 (.eff 22 (.eff 23 (.free 24 .nil))))))))))))))))))))))))) (by kernel_rfl) (by kernel_rfl) (fun _ _ d _ _ h => by cases d <;> exact h) ?_
    have hG : wv.drew.heap[w.heap.size + 1 + 1]? = _ := hG
    have hL : wv.drew.heap[w.heap.size + 1 + 1 + 1]? = _ := hL
    have hN : wv.drew.heap[PQN]? = _ := hN
    have hM : wv.drew.heap[PQM]? = _ := hM
    have hbw := hbw.drew
    generalize wv.drew = wv at *
    have hGl : w.heap.size + 1 + 1 < wv.heap.size := (Array.getElem?_eq_some_iff.1 hG).1
    have hLl : w.heap.size + 1 + 1 + 1 < wv.heap.size := (Array.getElem?_eq_some_iff.1 hL).1
    have hNl : PQN < wv.heap.size := (Array.getElem?_eq_some_iff.1 hN).1
    have hMl : PQM < wv.heap.size := (Array.getElem?_eq_some_iff.1 hM).1
    conv => arg 4; whnf
    conv => arg 4; arg 1; whnf
    refine pt_loadB (k := w.heap.size + 1 + 1) (fun W h => load_val _ W _ _ _ (h.trans hG)) hGl (by rfl) rfl rfl ?_
    simp only [Act.put, List.setIfInBounds_toArray, List.set_cons_zero, List.set_cons_succ]
    conv => arg 4; whnf
    conv => arg 4; arg 1; whnf
    refine pt_loadB (k := PQN) (fun W h => load_val _ W _ _ _ (h.trans hN)) hNl (by rfl) rfl rfl ?_
    simp only [Act.put, List.setIfInBounds_toArray, List.set_cons_zero, List.set_cons_succ]
    conv => arg 4; whnf
    conv => arg 4; arg 1; whnf
    refine pt_loadB (k := w.heap.size + 1 + 1 + 1) (fun W h => load_val _ W _ _ _ (h.trans hL)) hLl (by rfl) rfl rfl ?_
    simp only [Act.put, List.setIfInBounds_toArray, List.set_cons_zero, List.set_cons_succ]
    conv => arg 4; whnf
    conv => arg 4; arg 1; whnf
    refine pt_loadB (k := PQN) (fun W h => load_val _ W _ _ _ (h.trans hN)) hNl (by rfl) rfl rfl ?_
    simp only [Act.put, List.setIfInBounds_toArray, List.set_cons_zero, List.set_cons_succ]
    conv => arg 4; whnf
    conv => arg 4; arg 1; whnf
    refine pt_loadB (k := w.heap.size + 1 + 1) (fun W h => load_val _ W _ _ _ (h.trans hG)) hGl (by rfl) rfl rfl ?_
    simp only [Act.put, List.setIfInBounds_toArray, List.set_cons_zero, List.set_cons_succ]
    conv => arg 4; whnf
    conv => arg 4; arg 1; whnf
    refine pt_free (by rfl) (fun K hK => ?_)
    go_big_quiet_op
    first | (refine hK _ ?_; clear hK K) | (refine ⟨_, fun _ _ => rfl, hK _ ?_⟩; clear hK K)
    conv => arg 4; whnf
    conv => arg 4; arg 1; whnf
    refine pt_free (by rfl) (fun K hK => ?_)
    go_big_quiet_op
    first | (refine hK _ ?_; clear hK K) | (refine ⟨_, fun _ _ => rfl, hK _ ?_⟩; clear hK K)
    conv => arg 4; whnf
    conv => arg 4; arg 1; whnf
    refine pt_free (by rfl) (fun K hK => ?_)
    go_big_quiet_op
    first | (refine hK _ ?_; clear hK K) | (refine ⟨_, fun _ _ => rfl, hK _ ?_⟩; clear hK K)
    conv => arg 4; whnf
    conv => arg 4; arg 1; whnf
    refine pt_free (by rfl) (fun K hK => ?_)
    go_big_quiet_op
    first | (refine hK _ ?_; clear hK K) | (refine ⟨_, fun _ _ => rfl, hK _ ?_⟩; clear hK K)
    conv => arg 4; whnf
    conv => arg 4; arg 1; whnf
    refine pt_loadB (k := w.heap.size + 1 + 1 + 1) (fun W h => load_val _ W _ _ _ (h.trans hL)) hLl (by rfl) rfl rfl ?_
    simp only [Act.put, List.setIfInBounds_toArray, List.set_cons_zero, List.set_cons_succ]
    conv => arg 4; whnf
    conv => arg 4; arg 1; whnf
    refine pt_loadB (k := w.heap.size + 1 + 1 + 1) (fun W h => load_val _ W _ _ _ (h.trans hL)) hLl (by rfl) rfl rfl ?_
    simp only [Act.put, List.setIfInBounds_toArray, List.set_cons_zero, List.set_cons_succ]
    conv => arg 4; whnf
    conv => arg 4; arg 1; whnf
    refine pt_loadB (k := PQM) (fun W h => load_val _ W _ _ _ (h.trans hM)) hMl (by rfl) rfl rfl ?_
    simp only [Act.put, List.setIfInBounds_toArray, List.set_cons_zero, List.set_cons_succ]
    conv => arg 4; whnf
    conv => arg 4; arg 1; whnf
    refine pt_loadB (k := w.heap.size + 1 + 1 + 1) (fun W h => load_val _ W _ _ _ (h.trans hL)) hLl (by rfl) rfl rfl ?_
    simp only [Act.put, List.setIfInBounds_toArray, List.set_cons_zero, List.set_cons_succ]
    conv => arg 4; whnf
    conv => arg 4; arg 1; whnf
    refine pt_loadB (k := PQM) (fun W h => load_val _ W _ _ _ (h.trans hM)) hMl (by rfl) rfl rfl ?_
    simp only [Act.put, List.setIfInBounds_toArray, List.set_cons_zero, List.set_cons_succ]
    conv => arg 4; whnf
    conv => arg 4; arg 1; whnf
    refine pt_loadB (k := PQM) (fun W h => load_val _ W _ _ _ (h.trans hM)) hMl (by rfl) rfl rfl ?_
    simp only [Act.put, List.setIfInBounds_toArray, List.set_cons_zero, List.set_cons_succ]
    conv => arg 4; whnf
    conv => arg 4; arg 1; whnf
    refine pt_loadB (k := w.heap.size + 1 + 1 + 1) (fun W h => load_val _ W _ _ _ (h.trans hL)) hLl (by rfl) rfl rfl ?_
    simp only [Act.put, List.setIfInBounds_toArray, List.set_cons_zero, List.set_cons_succ]
    conv => arg 4; whnf
    conv => arg 4; arg 1; whnf
    refine pt_eff (by rfl) (fun K hK => ?_)
    go_wp2_with fail
    refine (Q1.out _).mono ?_
    rintro en wn ⟨rfl, hbn⟩
    refine hK _ _ hbn ?_
    clear hK K
    have hbw := hbw.trans (hbn.mono hbw.size)
    clear hbn
    generalize wn = wv at *
    conv => arg 4; whnf
    conv => arg 4; arg 1; whnf
    refine pt_eff (by rfl) (fun K hK => ?_)
    go_wp2_with fail
    refine (Q2.out _).mono ?_
    rintro en wn ⟨rfl, hbn⟩
    refine hK _ _ hbn ?_
    clear hK K
    have hbw := hbw.trans (hbn.mono hbw.size)
    clear hbn
    generalize wn = wv at *
    conv => arg 4; whnf
    conv => arg 4; arg 1; whnf
    refine pt_eff (by rfl) (fun K hK => ?_)
    go_wp2_with fail
    refine (Q3.out _).mono ?_
    rintro en wn ⟨rfl, hbn⟩
    refine hK _ _ hbn ?_
    clear hK K
    have hbw := hbw.trans (hbn.mono hbw.size)
    clear hbn
    generalize wn = wv at *
    conv => arg 4; whnf
    conv => arg 4; arg 1; whnf
    refine pt_eff (by rfl) (fun K hK => ?_)
    go_wp2_with fail
    refine (Q4.out _).mono ?_
    rintro en wn ⟨rfl, hbn⟩
    refine hK _ _ hbn ?_
    clear hK K
    have hbw := hbw.trans (hbn.mono hbw.size)
    clear hbn
    generalize wn = wv at *
    conv => arg 4; whnf
    conv => arg 4; arg 1; whnf
    refine pt_eff (by rfl) (fun K hK => ?_)
    go_wp2_with fail
    refine (Q5.out _).mono ?_
    rintro en wn ⟨rfl, hbn⟩
    refine hK _ _ hbn ?_
    clear hK K
    have hbw := hbw.trans (hbn.mono hbw.size)
    clear hbn
    generalize wn = wv at *
    conv => arg 4; whnf
    conv => arg 4; arg 1; whnf
    refine pt_eff (by rfl) (fun K hK => ?_)
    go_wp2_with fail
    refine (Q6.out _).mono ?_
    rintro en wn ⟨rfl, hbn⟩
    refine hK _ _ hbn ?_
    clear hK K
    have hbw := hbw.trans (hbn.mono hbw.size)
    clear hbn
    generalize wn = wv at *
    conv => arg 4; whnf
    conv => arg 4; arg 1; whnf
    refine pt_eff (by rfl) (fun K hK => ?_)
    go_wp2_with fail
    refine (Q7.out _).mono ?_
    rintro en wn ⟨rfl, hbn⟩
    refine hK _ _ hbn ?_
    clear hK K
    have hbw := hbw.trans (hbn.mono hbw.size)
    clear hbn
    generalize wn = wv at *
    clear hG hL hN hM hGl hLl hNl hMl Q1 Q2 Q3 Q4 Q5 Q6 Q7 C1 C2 C3
    conv => arg 4; whnf
    conv => arg 4; arg 1; whnf
    refine pt_eff (by rfl) (fun K hK => ?_)
    go_wp2_with fail
    refine hK _ _ ((Below.refl _ _).alloc (Nat.le_refl _) _) ?_
    clear hK K
    obtain ⟨PL, hPL⟩ : ∃ P, wv.heap.size = P := ⟨_, rfl⟩
    have hZ := heap_alloc_new wv (.cells #[.int .i64 4, .int .i64 2, .string ⟨#[]⟩, .int .i64 4, .int .i64 2, .string ⟨#[]⟩, .int .i64 4, .int .i64 2, .string ⟨#[]⟩, .int .i64 4, .int .i64 2, .string ⟨#[]⟩, .int .i64 4, .int .i64 2, .string ⟨#[]⟩, .int .i64 4, .int .i64 2, .string ⟨#[]⟩, .int .i64 4, .int .i64 2, .string ⟨#[]⟩] 24)
    have hbw := hbw.alloc hbw.size (.cells #[.int .i64 4, .int .i64 2, .string ⟨#[]⟩, .int .i64 4, .int .i64 2, .string ⟨#[]⟩, .int .i64 4, .int .i64 2, .string ⟨#[]⟩, .int .i64 4, .int .i64 2, .string ⟨#[]⟩, .int .i64 4, .int .i64 2, .string ⟨#[]⟩, .int .i64 4, .int .i64 2, .string ⟨#[]⟩, .int .i64 4, .int .i64 2, .string ⟨#[]⟩] 24)
    rw [hPL] at hZ ⊢
    clear hPL
    generalize wv.alloc (.cells #[.int .i64 4, .int .i64 2, .string ⟨#[]⟩, .int .i64 4, .int .i64 2, .string ⟨#[]⟩, .int .i64 4, .int .i64 2, .string ⟨#[]⟩, .int .i64 4, .int .i64 2, .string ⟨#[]⟩, .int .i64 4, .int .i64 2, .string ⟨#[]⟩, .int .i64 4, .int .i64 2, .string ⟨#[]⟩, .int .i64 4, .int .i64 2, .string ⟨#[]⟩] 24) = wv at *
    conv => arg 4; whnf
    conv => arg 4; arg 1; whnf
    refine pt_free (by rfl) (fun K hK => ?_)
    go_big_quiet_op
    first | (refine hK _ ?_; clear hK K) | (refine ⟨_, fun _ _ => rfl, hK _ ?_⟩; clear hK K)
    refine pt_nil ?_
    go_wp2_with fail
    go_loopw [15] (fun i wr => ∃ k : Nat, k ≤ 7 ∧ i = .int .i64 k ∧ wv = wr) (fun i _ => 7 - (intOf i).toNat)
    case atStart => exact ⟨0, by omega, rfl, rfl⟩
    case round =>
      obtain ⟨k, hk, rfl, rfl⟩ := hrel
      rcases (show k = 0 ∨ k = 1 ∨ k = 2 ∨ k = 3 ∨ k = 4 ∨ k = 5 ∨ k = 6 ∨ k = 7 by omega) with rfl | rfl | rfl | rfl | rfl | rfl | rfl | rfl
      · have z0 : wv.cell? ⟨PL, 0, none⟩ = some (.int .i64 4) := by simp [World.cell?, hZ]
        have z1 : wv.cell? ⟨PL, 1, none⟩ = some (.int .i64 2) := by simp [World.cell?, hZ]
        clear hZ
        go_wp2
        go_roundw
        case rel => exact ⟨1, by omega, by go_num, trivial⟩
        case measure => first | (simp [intOf]; done) | (simp [intOf]; omega)
      · have z0 : wv.cell? ⟨PL, 3, none⟩ = some (.int .i64 4) := by simp [World.cell?, hZ]
        have z1 : wv.cell? ⟨PL, 4, none⟩ = some (.int .i64 2) := by simp [World.cell?, hZ]
        clear hZ
        go_wp2
        go_roundw
        case rel => exact ⟨2, by omega, by go_num, trivial⟩
        case measure => first | (simp [intOf]; done) | (simp [intOf]; omega)
      · have z0 : wv.cell? ⟨PL, 6, none⟩ = some (.int .i64 4) := by simp [World.cell?, hZ]
        have z1 : wv.cell? ⟨PL, 7, none⟩ = some (.int .i64 2) := by simp [World.cell?, hZ]
        clear hZ
        go_wp2
        go_roundw
        case rel => exact ⟨3, by omega, by go_num, trivial⟩
        case measure => first | (simp [intOf]; done) | (simp [intOf]; omega)
      · have z0 : wv.cell? ⟨PL, 9, none⟩ = some (.int .i64 4) := by simp [World.cell?, hZ]
        have z1 : wv.cell? ⟨PL, 10, none⟩ = some (.int .i64 2) := by simp [World.cell?, hZ]
        clear hZ
        go_wp2
        go_roundw
        case rel => exact ⟨4, by omega, by go_num, trivial⟩
        case measure => first | (simp [intOf]; done) | (simp [intOf]; omega)
      · have z0 : wv.cell? ⟨PL, 12, none⟩ = some (.int .i64 4) := by simp [World.cell?, hZ]
        have z1 : wv.cell? ⟨PL, 13, none⟩ = some (.int .i64 2) := by simp [World.cell?, hZ]
        clear hZ
        go_wp2
        go_roundw
        case rel => exact ⟨5, by omega, by go_num, trivial⟩
        case measure => first | (simp [intOf]; done) | (simp [intOf]; omega)
      · have z0 : wv.cell? ⟨PL, 15, none⟩ = some (.int .i64 4) := by simp [World.cell?, hZ]
        have z1 : wv.cell? ⟨PL, 16, none⟩ = some (.int .i64 2) := by simp [World.cell?, hZ]
        clear hZ
        go_wp2
        go_roundw
        case rel => exact ⟨6, by omega, by go_num, trivial⟩
        case measure => first | (simp [intOf]; done) | (simp [intOf]; omega)
      · have z0 : wv.cell? ⟨PL, 18, none⟩ = some (.int .i64 4) := by simp [World.cell?, hZ]
        have z1 : wv.cell? ⟨PL, 19, none⟩ = some (.int .i64 2) := by simp [World.cell?, hZ]
        clear hZ
        go_wp2
        go_roundw
        case rel => exact ⟨7, by omega, by go_num, trivial⟩
        case measure => first | (simp [intOf]; done) | (simp [intOf]; omega)
      · go_wp2_with fail
        refine (awake7 _).mono ?_
        rintro en wn ⟨rfl, hbn⟩
        have hbw := hbw.trans (hbn.mono hbw.size)
        go_wp2
        go_ret
        exact ⟨rfl, hbw⟩
end Go.Proofs.YtejpfpklgkcagaaDoor
