/- The walk of ValCat. Written by valcatgen.py. -/
import Derived.Test.YtejpfpklgkcagaaDoorValText
namespace Go.Proofs.YtejpfpklgkcagaaDoor
open Go.RowKit Go.Maps
set_option maxRecDepth 100000 in
theorem make_txt (w : World) (s : ByteArray) (hs : s.size ≤ 200) : Calls Tryd.prog 10 #[.int .u8 2, .int .i64 0, .string s] w fun e w' => e = .returned (.agg #[.int .i64 2, .int .i64 0, .string s]) ∧ Below w.heap.size w w' := by
  have hs2 : (s.size : Int) ≤ (200 : Int) := by omega
  go_enter Tryd.func10, Tryd.ntmps10
  go_wp2
  refine bodyPost_ret (v := .agg #[.int .i64 2, .int .i64 0, .string s]) ?_ rfl ⟨rfl, (Below.refl _ _).alloc (Nat.le_refl _) _⟩
  simp [results, Tryd.f10, go_sem]
set_option maxRecDepth 100000 in
theorem make_num (w : World) (n : Int) : Calls Tryd.prog 10 #[.int .u8 1, .int .i64 n, .string ⟨#[]⟩] w fun e w' => e = .returned (.agg #[.int .i64 1, .int .i64 n, .string ⟨#[]⟩]) ∧ Below w.heap.size w w' := by
  go_enter Tryd.func10, Tryd.ntmps10
  go_wp2
  refine bodyPost_ret (v := .agg #[.int .i64 1, .int .i64 n, .string ⟨#[]⟩]) ?_ rfl ⟨rfl, (Below.refl _ _).alloc (Nat.le_refl _) _⟩
  simp [results, Tryd.f10, go_sem]
theorem empty_app (s : ByteArray) : (⟨#[]⟩ ++ s : ByteArray) = s := by apply ByteArray.ext; simp [ByteArray.data_append]
theorem app_empty (s : ByteArray) : (s ++ ⟨#[]⟩ : ByteArray) = s := by apply ByteArray.ext; simp [ByteArray.data_append]
theorem ByteArray.size_empty' : (⟨#[]⟩ : ByteArray).size = 0 := rfl
theorem load_i (p : Addr) (v : Value) (W : World) (h : W.cell? p = some v) : (Instr.loadAt 3 (.pointer (some p))).run Tryd.prog W = .ok v W := by simp [go_sem, h]
theorem load_s (p : Addr) (v : Value) (W : World) (h : W.cell? p = some v) : (Instr.loadAt 9 (.pointer (some p))).run Tryd.prog W = .ok v W := by simp [go_sem, h]
theorem itoa_size (n : Int) (hn : InR n) : (⟨(Lib.itoa n).toArray⟩ : ByteArray).size ≤ 21 := by
  have := Lib.itoa_length_le n hn.1 hn.2
  show (Lib.itoa n).toArray.size ≤ 21
  simpa using this
set_option maxRecDepth 100000 in
set_option maxHeartbeats 4000000 in
theorem valCat_walk (w : World) (s t : ByteArray) (n : Int) (_ : s.size ≤ maxLen) (_ : t.size ≤ maxLen) (hn0 : (Lit.int .i64 n).wf = true) (htab : Tab w) :
    Calls Tryd.prog 4 #[.string s, .string t, .int .i64 n] w fun e w' => e = .returned (.bool true) ∧ Below w.heap.size w w' := by
  have hn := inR_wf.1 hn0
  go_enter Tryd.func4, Tryd.ntmps4
  go_wp2_with fail
  any_goals (refine (awake7 w).mono ?_; rintro e w1 ⟨rfl, hb1⟩; go_wp2; go_ret; exact ⟨rfl, hb1⟩)
  have hs2 : (s.size : Int) ≤ 200 := by assumption
  have ht2 : (t.size : Int) ≤ 200 := by omega
  have hs : s.size ≤ 200 := by omega
  have ht : t.size ≤ 200 := by omega
  refine (make_txt _ s hs).mono ?_
  rintro e v1 ⟨rfl, hb1⟩
  go_wp2_with fail
  refine (make_txt _ t ht).mono ?_
  rintro e v2 ⟨rfl, hb2⟩
  have hb3 := hb1.trans (hb2.mono hb1.size)
  have hs3 := hb3.size
  clear hb1 hb2
  go_wp2_with fail
  obtain ⟨P, hP⟩ : ∃ P, P = v2.heap.size := ⟨_, rfl⟩
  have hbA : Below w.heap.size w ((v2.alloc (.cells #[.int .i64 2, .int .i64 0, .string s] 24)).alloc (.cells #[.int .i64 2, .int .i64 0, .string t] 24)) := (hb3.alloc hs3 _).alloc (by simp; omega) _
  have hX0 : ((v2.alloc (.cells #[.int .i64 2, .int .i64 0, .string s] 24)).alloc (.cells #[.int .i64 2, .int .i64 0, .string t] 24)).heap[P]? = some (.cells #[.int .i64 2, .int .i64 0, .string s] 24 (0, 0)) := by rw [hP]; exact (Below.heap_alloc _ _ _ (by simp)).trans (heap_alloc_new _ _)
  rw [← hP]
  generalize ((v2.alloc (.cells #[.int .i64 2, .int .i64 0, .string s] 24)).alloc (.cells #[.int .i64 2, .int .i64 0, .string t] 24)) = vA at *
  have hXl : P < vA.heap.size := (Array.getElem?_eq_some_iff.1 hX0).1
  have htA := htab.on hbA
  have hv1 : vtext (2, 0, s) = s := rfl
  have hv2 : vtext (2, 0, t) = t := rfl
  have r0 : InR 0 := ⟨by decide, by decide⟩
  refine (two_cat vA 2 2 0 0 s t (by decide) (by decide) r0 r0 htA (by rw [hv1, hv2]; omega)).mono ?_
  rintro e v3 ⟨rfl, hb4⟩
  rw [hv1, hv2]
  clear hP hb3 hs3
  have hX1 := (hb4.block P hXl).trans hX0
  have hXl3 : P < v3.heap.size := (Array.getElem?_eq_some_iff.1 hX1).1
  have hsA := hbA.size
  have hb5 := hbA.trans (hb4.mono hsA)
  have hs5 := hb5.size
  clear hX0 hXl hb4 hbA htA hsA
  by_cases h200 : 200 < s.size + t.size
  · have h201 : (200 : Int) < (s.size : Int) + (t.size : Int) := by omega
    rw [show vstr (s ++ t) = (4, 1, ⟨#[]⟩) by simp [vstr, ByteArray.size_append, h200]]
    go_wp2_with fail
    refine (awake7 _).mono ?_
    rintro e v4 ⟨rfl, hb6⟩
    go_wp2
    go_ret
    exact ⟨rfl, (hb5.alloc hs5 _).trans (hb6.mono (by simp; omega))⟩
  · have h201 : (s.size : Int) + (t.size : Int) ≤ (200 : Int) := by omega
    rw [show vstr (s ++ t) = (2, 0, s ++ t) by simp [vstr, ByteArray.size_append, h200]]
    go_wp2_with fail
    refine (make_num _ n).mono ?_
    rintro e v4 ⟨rfl, hb6⟩
    obtain ⟨V, hV⟩ : ∃ V, V = v3.heap.size := ⟨_, rfl⟩
    have hV0 := heap_alloc_new v3 (.cells #[.int .i64 2, .int .i64 0, .string (s ++ t)] 24)
    have hX2 := (hb6.block P (by simp; omega)).trans ((Below.heap_alloc v3 (.cells #[.int .i64 2, .int .i64 0, .string (s ++ t)] 24) P hXl3).trans hX1)
    have hV1 := (hb6.block v3.heap.size (by simp)).trans hV0
    have hb7 := (hb5.alloc hs5 (.cells #[.int .i64 2, .int .i64 0, .string (s ++ t)] 24)).trans (hb6.mono (by simp; omega))
    rw [← hV] at hV1 ⊢
    clear hV hV0 hX1 hXl3 hb5 hs5 hb6
    have hXl : P < v4.heap.size := (Array.getElem?_eq_some_iff.1 hX2).1
    have hVl : V < v4.heap.size := (Array.getElem?_eq_some_iff.1 hV1).1
    have hs7 := hb7.size
    go_wp2_with fail
    have ht4 := htab.on hb7
    have g1 : vtext (0, 0, ⟨#[]⟩) = ⟨#[]⟩ := rfl
    have g2 : vtext (1, n, ⟨#[]⟩) = ⟨(Lib.itoa n).toArray⟩ := rfl
    have g3 := itoa_size n hn
    have g4 : vstr (⟨#[]⟩ ++ ⟨(Lib.itoa n).toArray⟩) = (2, 0, ⟨(Lib.itoa n).toArray⟩) := by rw [empty_app, vstr, if_neg (by omega)]
    obtain ⟨it, hit⟩ : ∃ it : ByteArray, it = ⟨(Lib.itoa n).toArray⟩ := ⟨_, rfl⟩
    have HT := Lib.hid (fun W => text_any W 1 n ⟨#[]⟩ hn)
    rw [← hit] at g2 g3 g4
    rw [g2] at HT
    have HN := Lib.hid (fun W (hW : Tab W) => two_cat W 2 0 0 0 s ⟨#[]⟩ (by decide) (by decide) r0 r0 hW (by rw [hv1, g1, ByteArray.size_empty']; omega))
    refine (two_cat v4 0 1 0 n ⟨#[]⟩ ⟨#[]⟩ (by decide) (by decide) r0 hn ht4 (by rw [g1, g2, ByteArray.size_empty']; omega)).mono ?_
    rintro e v5 ⟨rfl, hb8⟩
    rw [g1, g2, g4]
    have hX3 := (hb8.block P hXl).trans hX2
    have hV2 := (hb8.block V hVl).trans hV1
    have hb9 := hb7.trans (hb8.mono hs7)
    have hs9 := hb9.size
    have hXl2 : P < v5.heap.size := (Array.getElem?_eq_some_iff.1 hX3).1
    have hVl2 : V < v5.heap.size := (Array.getElem?_eq_some_iff.1 hV2).1
    clear hX2 hV1 hb7 hb8 hs7 ht4 hXl hVl hit g2 g4
    go_wp2_with fail
    obtain ⟨U, hU0⟩ : ∃ U, U = v5.heap.size := ⟨_, rfl⟩
    have hU := heap_alloc_new v5 (.cells #[.int .i64 2, .int .i64 0, .string it] 24)
    have hX := (Below.heap_alloc v5 (.cells #[.int .i64 2, .int .i64 0, .string it] 24) P hXl2).trans hX3
    have hV := (Below.heap_alloc v5 (.cells #[.int .i64 2, .int .i64 0, .string it] 24) V hVl2).trans hV2
    have hbw := hb9.alloc hs9 (.cells #[.int .i64 2, .int .i64 0, .string it] 24)
    rw [← hU0] at hU ⊢
    generalize (v5.alloc (.cells #[.int .i64 2, .int .i64 0, .string it] 24)) = W at *
    clear hU0 hX3 hV2 hb9 hs9 hXl2 hVl2
    have sts := str_eq_true (rfl : s ++ t = s ++ t)
    have sti := str_eq_true (rfl : it = it)
    have sts1 := str_eq_true (rfl : s = s)
    refine wp_region_tree [] (.free 0 (.free 1 (.free 2 (.free 3 (.free 4 (.free 5 (.free 6 (.free 7 (.free 8 (.free 9 (.free 10 (.free 11 (.free 12 (.free 13 (.free 14 (.eff 15 (.eff 16 (.free 17 (.free 18 (.free 19 (.free 20 (.free 21 (.free 23 (.eff 22 (.free 24 (.free 25 (.free 26 (.eff 27 (.free 28 (.free 29 .nil)))))))))))))))))))))))))))))) (by kernel_rfl) (by kernel_rfl) (fun _ _ d _ _ h => by cases d <;> exact h) ?_
    have hbw := hbw.drew
    have hX : W.drew.heap[P]? = _ := hX
    have hV : W.drew.heap[V]? = _ := hV
    have hU : W.drew.heap[U]? = _ := hU
    generalize W.drew = wv at *
    have hXl : P < wv.heap.size := (Array.getElem?_eq_some_iff.1 hX).1
    have hVl : V < wv.heap.size := (Array.getElem?_eq_some_iff.1 hV).1
    have hUl : U < wv.heap.size := (Array.getElem?_eq_some_iff.1 hU).1
    -- 0
    conv => arg 4; whnf
    conv => arg 4; arg 1; whnf
    refine pt_free (by rfl) (fun K hK => ?_)
    go_big_quiet_op
    first | (refine hK _ ?_; clear hK K) | (refine ⟨_, fun _ _ => rfl, hK _ ?_⟩; clear hK K)
    -- 1
    conv => arg 4; whnf
    conv => arg 4; arg 1; whnf
    refine pt_load (fun W h => load_i _ _ W h) (p := ⟨V, 0, none⟩) (val3 hV).1 hVl (by rfl) rfl rfl ?_
    simp only [Act.put, List.setIfInBounds_toArray, List.set_cons_zero, List.set_cons_succ]
    -- 2
    conv => arg 4; whnf
    conv => arg 4; arg 1; whnf
    refine pt_free (by rfl) (fun K hK => ?_)
    go_big_quiet_op
    first | (refine hK _ ?_; clear hK K) | (refine ⟨_, fun _ _ => rfl, hK _ ?_⟩; clear hK K)
    -- 3
    conv => arg 4; whnf
    conv => arg 4; arg 1; whnf
    refine pt_free (by rfl) (fun K hK => ?_)
    go_big_quiet_op
    first | (refine hK _ ?_; clear hK K) | (refine ⟨_, fun _ _ => rfl, hK _ ?_⟩; clear hK K)
    -- 4
    conv => arg 4; whnf
    conv => arg 4; arg 1; whnf
    refine pt_free (by rfl) (fun K hK => ?_)
    go_big_quiet_op
    first | (refine hK _ ?_; clear hK K) | (refine ⟨_, fun _ _ => rfl, hK _ ?_⟩; clear hK K)
    -- 5
    conv => arg 4; whnf
    conv => arg 4; arg 1; whnf
    refine pt_load (fun W h => load_s _ _ W h) (p := ⟨V, 2, none⟩) (val3 hV).2.2.1 hVl (by rfl) rfl rfl ?_
    simp only [Act.put, List.setIfInBounds_toArray, List.set_cons_zero, List.set_cons_succ]
    -- 6
    conv => arg 4; whnf
    conv => arg 4; arg 1; whnf
    refine pt_free (by rfl) (fun K hK => ?_)
    go_big_quiet_op
    first | (refine hK _ ?_; clear hK K) | (refine ⟨_, fun _ _ => rfl, hK _ ?_⟩; clear hK K)
    -- 7
    conv => arg 4; whnf
    conv => arg 4; arg 1; whnf
    refine pt_free (by rfl) (fun K hK => ?_)
    go_big_quiet_op
    first | (refine hK _ ?_; clear hK K) | (refine ⟨_, fun _ _ => rfl, hK _ ?_⟩; clear hK K)
    -- 8
    conv => arg 4; whnf
    conv => arg 4; arg 1; whnf
    refine pt_free (by rfl) (fun K hK => ?_)
    go_big_quiet_op
    first | (refine hK _ ?_; clear hK K) | (refine ⟨_, fun _ _ => rfl, hK _ ?_⟩; clear hK K)
    -- 9
    conv => arg 4; whnf
    conv => arg 4; arg 1; whnf
    refine pt_free (by rfl) (fun K hK => ?_)
    go_big_quiet_op
    first | (refine hK _ ?_; clear hK K) | (refine ⟨_, fun _ _ => rfl, hK _ ?_⟩; clear hK K)
    -- 10
    conv => arg 4; whnf
    conv => arg 4; arg 1; whnf
    refine pt_free (by rfl) (fun K hK => ?_)
    go_big_quiet_op
    first | (refine hK _ ?_; clear hK K) | (refine ⟨_, fun _ _ => rfl, hK _ ?_⟩; clear hK K)
    -- 11
    conv => arg 4; whnf
    conv => arg 4; arg 1; whnf
    refine pt_free (by rfl) (fun K hK => ?_)
    go_big_quiet_op
    first | (refine hK _ ?_; clear hK K) | (refine ⟨_, fun _ _ => rfl, hK _ ?_⟩; clear hK K)
    -- 12
    conv => arg 4; whnf
    conv => arg 4; arg 1; whnf
    refine pt_free (by rfl) (fun K hK => ?_)
    go_big_quiet_op
    first | (refine hK _ ?_; clear hK K) | (refine ⟨_, fun _ _ => rfl, hK _ ?_⟩; clear hK K)
    -- 13
    conv => arg 4; whnf
    conv => arg 4; arg 1; whnf
    refine pt_load (fun W h => load_s _ _ W h) (p := ⟨U, 2, none⟩) (val3 hU).2.2.1 hUl (by rfl) rfl rfl ?_
    simp only [Act.put, List.setIfInBounds_toArray, List.set_cons_zero, List.set_cons_succ]
    -- 14
    conv => arg 4; whnf
    conv => arg 4; arg 1; whnf
    refine pt_free (by rfl) (fun K hK => ?_)
    go_big_quiet_op
    first | (refine hK _ ?_; clear hK K) | (refine ⟨_, fun _ _ => rfl, hK _ ?_⟩; clear hK K)
    -- 15
    conv => arg 4; whnf
    conv => arg 4; arg 1; whnf
    refine pt_eff (by rfl) (fun K hK => ?_)
    go_wp2_with fail
    refine (make_num _ n).mono ?_
    rintro en wn ⟨rfl, hbn⟩
    refine hK _ _ hbn ?_
    clear hK K
    have hbw := hbw.trans (hbn.mono hbw.size)
    have hX := (hbn.block _ hXl).trans hX
    have hV := (hbn.block _ hVl).trans hV
    have hU := (hbn.block _ hUl).trans hU
    clear hXl hVl hUl hbn
    generalize wn = wv at *
    have hXl : P < wv.heap.size := (Array.getElem?_eq_some_iff.1 hX).1
    have hVl : V < wv.heap.size := (Array.getElem?_eq_some_iff.1 hV).1
    have hUl : U < wv.heap.size := (Array.getElem?_eq_some_iff.1 hU).1
    -- 16
    conv => arg 4; whnf
    conv => arg 4; arg 1; whnf
    refine pt_eff (by rfl) (fun K hK => ?_)
    go_wp2_with fail
    refine (HT.out _ (htab.on hbw)).mono ?_
    rintro en wn ⟨rfl, hbn⟩
    refine hK _ _ hbn ?_
    clear hK K
    have hbw := hbw.trans (hbn.mono hbw.size)
    have hX := (hbn.block _ hXl).trans hX
    have hV := (hbn.block _ hVl).trans hV
    have hU := (hbn.block _ hUl).trans hU
    clear hXl hVl hUl hbn
    generalize wn = wv at *
    have hXl : P < wv.heap.size := (Array.getElem?_eq_some_iff.1 hX).1
    have hVl : V < wv.heap.size := (Array.getElem?_eq_some_iff.1 hV).1
    have hUl : U < wv.heap.size := (Array.getElem?_eq_some_iff.1 hU).1
    -- 17
    conv => arg 4; whnf
    conv => arg 4; arg 1; whnf
    refine pt_free (by rfl) (fun K hK => ?_)
    go_big_quiet_op
    first | (refine hK _ ?_; clear hK K) | (refine ⟨_, fun _ _ => rfl, hK _ ?_⟩; clear hK K)
    -- 18
    conv => arg 4; whnf
    conv => arg 4; arg 1; whnf
    refine pt_free (by rfl) (fun K hK => ?_)
    go_big_quiet_op
    first | (refine hK _ ?_; clear hK K) | (refine ⟨_, fun _ _ => rfl, hK _ ?_⟩; clear hK K)
    -- 19
    conv => arg 4; whnf
    conv => arg 4; arg 1; whnf
    refine pt_free (by rfl) (fun K hK => ?_)
    go_big_quiet_op
    first | (refine hK _ ?_; clear hK K) | (refine ⟨_, fun _ _ => rfl, hK _ ?_⟩; clear hK K)
    -- 20
    conv => arg 4; whnf
    conv => arg 4; arg 1; whnf
    refine pt_loadB (k := P) (fun W h => load_val _ W _ _ _ (h.trans hX)) hXl (by rfl) rfl rfl ?_
    simp only [Act.put, List.setIfInBounds_toArray, List.set_cons_zero, List.set_cons_succ]
    -- 21
    conv => arg 4; whnf
    conv => arg 4; arg 1; whnf
    refine pt_free (by rfl) (fun K hK => ?_)
    go_big_quiet_op
    first | (refine hK _ ?_; clear hK K) | (refine ⟨_, fun _ _ => rfl, hK _ ?_⟩; clear hK K)
    -- 23
    conv => arg 4; whnf
    conv => arg 4; arg 1; whnf
    refine pt_loadB (k := P) (fun W h => load_val _ W _ _ _ (h.trans hX)) hXl (by rfl) rfl rfl ?_
    simp only [Act.put, List.setIfInBounds_toArray, List.set_cons_zero, List.set_cons_succ]
    -- 22
    conv => arg 4; whnf
    conv => arg 4; arg 1; whnf
    refine pt_eff (by rfl) (fun K hK => ?_)
    go_wp2_with fail
    refine (HN.out _ (htab.on hbw)).mono ?_
    rintro en wn ⟨rfl, hbn⟩
    refine hK _ _ hbn ?_
    clear hK K
    have hbw := hbw.trans (hbn.mono hbw.size)
    have hX := (hbn.block _ hXl).trans hX
    have hV := (hbn.block _ hVl).trans hV
    have hU := (hbn.block _ hUl).trans hU
    clear hXl hVl hUl hbn
    generalize wn = wv at *
    have hXl : P < wv.heap.size := (Array.getElem?_eq_some_iff.1 hX).1
    have hVl : V < wv.heap.size := (Array.getElem?_eq_some_iff.1 hV).1
    have hUl : U < wv.heap.size := (Array.getElem?_eq_some_iff.1 hU).1
    rw [hv1, g1, app_empty, show vstr s = (2, 0, s) from if_neg (by omega)]
    -- 24
    conv => arg 4; whnf
    conv => arg 4; arg 1; whnf
    refine pt_free (by rfl) (fun K hK => ?_)
    go_big_quiet_op
    first | (refine hK _ ?_; clear hK K) | (refine ⟨_, fun _ _ => rfl, hK _ ?_⟩; clear hK K)
    -- 25
    conv => arg 4; whnf
    conv => arg 4; arg 1; whnf
    refine pt_free (by rfl) (fun K hK => ?_)
    go_big_quiet_op
    first | (refine hK _ ?_; clear hK K) | (refine ⟨_, fun _ _ => rfl, hK _ ?_⟩; clear hK K)
    -- 26
    conv => arg 4; whnf
    conv => arg 4; arg 1; whnf
    refine pt_free (by rfl) (fun K hK => ?_)
    go_big_quiet_op
    first | (refine hK _ ?_; clear hK K) | (refine ⟨_, fun _ _ => rfl, hK _ ?_⟩; clear hK K)
    -- 27
    conv => arg 4; whnf
    conv => arg 4; arg 1; whnf
    refine pt_eff (by rfl) (fun K hK => ?_)
    go_wp2_with fail
    refine (awake7 _).mono ?_
    rintro en wn ⟨rfl, hbn⟩
    refine hK _ _ hbn ?_
    clear hK K
    have hbw := hbw.trans (hbn.mono hbw.size)
    have hX := (hbn.block _ hXl).trans hX
    have hV := (hbn.block _ hVl).trans hV
    have hU := (hbn.block _ hUl).trans hU
    clear hXl hVl hUl hbn
    generalize wn = wv at *
    have hXl : P < wv.heap.size := (Array.getElem?_eq_some_iff.1 hX).1
    have hVl : V < wv.heap.size := (Array.getElem?_eq_some_iff.1 hV).1
    have hUl : U < wv.heap.size := (Array.getElem?_eq_some_iff.1 hU).1
    -- 28
    conv => arg 4; whnf
    conv => arg 4; arg 1; whnf
    refine pt_free (by rfl) (fun K hK => ?_)
    go_big_quiet_op
    first | (refine hK _ ?_; clear hK K) | (refine ⟨_, fun _ _ => rfl, hK _ ?_⟩; clear hK K)
    -- 29
    conv => arg 4; whnf
    conv => arg 4; arg 1; whnf
    refine pt_free (by rfl) (fun K hK => ?_)
    go_big_quiet_op
    first | (refine hK _ ?_; clear hK K) | (refine ⟨_, fun _ _ => rfl, hK _ ?_⟩; clear hK K)
    refine pt_nil ?_
    go_wp2
    go_ret
    exact ⟨rfl, hbw⟩
end Go.Proofs.YtejpfpklgkcagaaDoor
