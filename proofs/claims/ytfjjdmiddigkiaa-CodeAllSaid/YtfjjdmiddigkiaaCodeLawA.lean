/- The walk of CodeAll. -/
import Derived.Test.YtfjjdmiddigkiaaCodeHelp
import Derived.Test.YtfjjdmiddigkiaaPlan
namespace Go.Proofs.Ytfjjdmiddigkiaa
open Go.RowKit

/-- bytes told: they convert to the text, in every later world -/
theorem rd2 {w0 w w' : World} {l : List UInt8} {e : Ending} (h0 : Hid (Ext w0 w)) (h : BytesRd w l e w') :
    ∃ A c, e = .returned (.slice A l.length c) ∧ (∀ W, Ext w' W → (convert 23 9 (.slice A l.length c)).run Try.prog W = .ok (.string ⟨l.toArray⟩) W) ∧ Ext w w' ∧ Hid (Ext w0 w') := by
  obtain ⟨A, c, rfl, h1, _, h3⟩ := h
  exact ⟨A, c, rfl, fun W hW => run_str_of (P := Try.prog) Try.underlying23 Try.underlying5 Try.underlying9 rfl (h1.below hW), h3, h0.out.trans h3⟩

set_option maxRecDepth 100000 in
set_option maxHeartbeats 1000000 in
theorem codeAll_walk (w : World) (n : Int) (s : ByteArray) (L : Option Addr) (l : List ByteArray) (cl : Nat) (B : Option Addr) (b : List UInt8) (cb : Nat) (k : Int)
    (hn : (Lit.int .i64 n).wf = true) (_hs : s.size ≤ 9223372036854775807) (hL : At1 vStr w L l) (hB : At1 vByte w B b) (hcb : b.length ≤ cb) (_hk : (Lit.int .i64 k).wf = true) :
    Calls Try.prog 3 #[.int .i64 n, .string s, .slice L l.length cl, .slice B b.length cb, .int .i64 k] w fun e w' => e = .returned (.bool true) ∧ Below w.heap.size w w' := by
  have H0 : Hid (Below w.heap.size w w) := Below.refl _ _
  have hn2 : n ≤ 9223372036854775807 := by simp [Lit.wf, IntKind.min, IntKind.max, IntKind.signed, IntKind.bits] at hn; omega
  clear hn
  by_cases h1 : 1000 < s.size
  · go_enter Try.func3, Try.ntmps3
    go_wp2_with fail
    refine (awake_end H0).mono ?_
    rintro e w3 ⟨rfl, hb3⟩
    go_wp2
    go_ret
    exact ⟨rfl, hb3.out⟩
  go_enter Try.func3, Try.ntmps3
  go_wp2_with fail
  refine (heavy_any w L l cl hL).mono ?_
  rintro e w1 ⟨h, rfl, rfl, hh⟩
  cases h with
  | true =>
    clear hh
    go_wp2_with fail
    refine (awake_end H0).mono ?_
    rintro e w3 ⟨rfl, hb3⟩
    go_wp2
    go_ret
    exact ⟨rfl, hb3.out⟩
  | false =>
    obtain ⟨hl1, hl2⟩ := hh rfl
    have HL2 := Lib.hid hl2
    clear hl2 hh
    by_cases h2 : 1000 < b.length
    · go_wp2_with fail
      refine (awake_end H0).mono ?_
      rintro e w3 ⟨rfl, hb3⟩
      go_wp2
      go_ret
      exact ⟨rfl, hb3.out⟩
    obtain ⟨x1, y1, z1, e1⟩ := optNum_form (Code.getAt b k)
    obtain ⟨x2, y2, z2, e2⟩ := optText_form (textAt b k)
    obtain ⟨l3, y3, z3, e3⟩ := listPost_form (b := b) (k := k) (by omega)
    have c1 := Lib.hid (get_any w B b cb k hB)
    have c2 := Lib.hid (rget_any w B b cb k hB)
    have c3 := Lib.hid (getText_any w B b cb k hB hcb)
    have c4 := Lib.hid (rgetText_any w B b cb k hB hcb)
    have c5 := Lib.hid ((getList_any w B b cb k hB hcb (by omega)).mono (fun _ _ h => e3 _ _ _ h))
    have c6 := Lib.hid (fun W (hW : At1 vByte W B b) => (rgetList_any W B b cb k hW hcb (by omega)).mono (fun _ _ h => e3 _ _ _ h))
    rw [e1] at c1 c2
    rw [e2] at c3 c4
    clear e1 e2 e3
    go_wp2_with fail
    refine c1.out.mono ?_
    rintro e w2 ⟨rfl, rfl⟩
    go_wp2_with fail
    refine c2.out.mono ?_
    rintro e w2 ⟨rfl, rfl⟩
    go_wp2_with fail
    refine c3.out.mono ?_
    rintro e w2 ⟨rfl, rfl⟩
    go_wp2_with fail
    refine c4.out.mono ?_
    rintro e w2 ⟨rfl, rfl⟩
    go_wp2_with fail
    refine c5.out.mono ?_
    rintro e w2 ⟨M, cm, rfl, hM, hb2⟩
    have H2 := Lib.hid hb2
    clear hb2 c1 c2 c3 c4 c5
    go_wp2_with fail
    refine (c6.out w2 (hB.below H2.out)).mono ?_
    rintro e w3 ⟨N, cn, rfl, hN, hb3⟩
    have H3 : Hid (Below w.heap.size w w3) := H2.out.trans (hb3.mono H2.out.size)
    have hM3 := hM.below hb3
    clear hb3 hM c6
    go_wp2_with fail
    have E3 : Hid (Ext w3 w3.drew) := (Below.refl _ _).drew
    refine wp_region_plan [(0, false), (3, false), (1, true), (2, false), (4, true), (5, false), (6, false), (7, false), (8, false), (9, false), (10, false), (11, false), (12, false), (13, false), (14, false), (15, false), (16, false), (17, false), (18, false), (19, false), (20, false), (21, false), (22, false), (23, false), (26, false), (24, true), (25, false), (27, true), (28, false), (29, false), (30, false), (31, false), (32, false), (33, false), (34, false), (35, false), (36, false), (37, false), (38, false), (39, false), (40, false), (41, false), (42, false), (43, false), (44, false), (45, false), (46, false), (47, false), (50, false), (48, true), (49, false), (51, true), (52, false), (53, false), (54, false), (55, false), (56, false), (57, false), (58, true), (59, false), (60, false), (61, false), (62, false), (63, false), (64, false), (65, false), (66, false), (67, false), (68, false), (69, false), (70, false), (71, true), (72, false), (73, false)] (by kernel_rfl) (by kernel_rfl) (fun _ _ d _ _ h => by cases d <;> exact h) ?_
    iterate 2 ((conv => arg 4; whnf); (conv => arg 4; arg 1; whnf; arg 1; whnf); (first | (refine plan_skip (by rfl) ?_; simp only [Act.put, List.setIfInBounds_toArray, List.set_cons_zero, List.set_cons_succ]) | (refine plan_free (by rfl) (fun K hK => ?_); go_big_quiet_op; first | (refine hK _ ?_; clear hK K) | (refine ⟨_, fun _ _ => rfl, hK _ ?_⟩; clear hK K))))
    conv => arg 4; whnf
    conv => arg 4; arg 1; whnf; arg 1; whnf
    refine plan_eff (by rfl) (fun K hK => ?_)
    go_wp2_with fail
    refine ((put_rd _ n hn2).mono fun _ _ h => rd2 E3 h).mono ?_
    rintro e w4 ⟨P1, p1, rfl, hcv1, x4, E4⟩
    refine hK _ _ x4 ?_
    clear hK K
    conv => arg 4; whnf
    conv => arg 4; arg 1; whnf; arg 1; whnf
    refine plan_conv rfl rfl (by rfl) hcv1 ?_
    simp only [Act.put, List.setIfInBounds_toArray, List.set_cons_zero, List.set_cons_succ]
    conv => arg 4; whnf
    conv => arg 4; arg 1; whnf; arg 1; whnf
    refine plan_eff (by rfl) (fun K hK => ?_)
    go_wp2_with fail
    refine ((rput_rd w4 n hn2).mono fun _ _ h => rd2 E4 h).mono ?_
    rintro e w5 ⟨P2, p2, rfl, hcv2, x5, E5⟩
    refine hK _ _ x5 ?_
    clear hK K
    conv => arg 4; whnf
    conv => arg 4; arg 1; whnf; arg 1; whnf
    refine plan_conv rfl rfl (by rfl) hcv2 ?_
    simp only [Act.put, List.setIfInBounds_toArray, List.set_cons_zero, List.set_cons_succ]
    clear hcv1 hcv2 x4 x5
    iterate 19 ((conv => arg 4; whnf); (conv => arg 4; arg 1; whnf; arg 1; whnf); (first | (refine plan_skip (by rfl) ?_; simp only [Act.put, List.setIfInBounds_toArray, List.set_cons_zero, List.set_cons_succ]) | (refine plan_free (by rfl) (fun K hK => ?_); go_big_quiet_op; first | (refine hK _ ?_; clear hK K) | (refine ⟨_, fun _ _ => rfl, hK _ ?_⟩; clear hK K))))
    conv => arg 4; whnf
    conv => arg 4; arg 1; whnf; arg 1; whnf
    refine plan_eff (by rfl) (fun K hK => ?_)
    go_wp2_with fail
    refine ((putText_rd w5 s (by omega)).mono fun _ _ h => rd2 E5 h).mono ?_
    rintro e w6 ⟨P3, p3, rfl, hcv3, x6, E6⟩
    refine hK _ _ x6 ?_
    clear hK K
    conv => arg 4; whnf
    conv => arg 4; arg 1; whnf; arg 1; whnf
    refine plan_conv rfl rfl (by rfl) hcv3 ?_
    simp only [Act.put, List.setIfInBounds_toArray, List.set_cons_zero, List.set_cons_succ]
    conv => arg 4; whnf
    conv => arg 4; arg 1; whnf; arg 1; whnf
    refine plan_eff (by rfl) (fun K hK => ?_)
    go_wp2_with fail
    refine ((rputText_rd w6 s (by omega)).mono fun _ _ h => rd2 E6 h).mono ?_
    rintro e w7 ⟨P4, p4, rfl, hcv4, x7, E7⟩
    refine hK _ _ x7 ?_
    clear hK K
    conv => arg 4; whnf
    conv => arg 4; arg 1; whnf; arg 1; whnf
    refine plan_conv rfl rfl (by rfl) hcv4 ?_
    simp only [Act.put, List.setIfInBounds_toArray, List.set_cons_zero, List.set_cons_succ]
    clear hcv3 hcv4 x6 x7
    iterate 20 ((conv => arg 4; whnf); (conv => arg 4; arg 1; whnf; arg 1; whnf); (first | (refine plan_skip (by rfl) ?_; simp only [Act.put, List.setIfInBounds_toArray, List.set_cons_zero, List.set_cons_succ]) | (refine plan_free (by rfl) (fun K hK => ?_); go_big_quiet_op; first | (refine hK _ ?_; clear hK K) | (refine ⟨_, fun _ _ => rfl, hK _ ?_⟩; clear hK K))))
    conv => arg 4; whnf
    conv => arg 4; arg 1; whnf; arg 1; whnf
    refine plan_eff (by rfl) (fun K hK => ?_)
    go_wp2_with fail
    refine ((putList_rd w7 L l _ cl rfl (hL.below (H3.out.trans (E7.out.mono H3.out.size))) (by omega) HL2.out).mono fun _ _ h => rd2 E7 h).mono ?_
    rintro e w8 ⟨P5, p5, rfl, hcv5, x8, E8⟩
    refine hK _ _ x8 ?_
    clear hK K
    conv => arg 4; whnf
    conv => arg 4; arg 1; whnf; arg 1; whnf
    refine plan_conv rfl rfl (by rfl) hcv5 ?_
    simp only [Act.put, List.setIfInBounds_toArray, List.set_cons_zero, List.set_cons_succ]
    conv => arg 4; whnf
    conv => arg 4; arg 1; whnf; arg 1; whnf
    refine plan_eff (by rfl) (fun K hK => ?_)
    go_wp2_with fail
    refine ((rputList_rd w8 L l _ cl rfl (hL.below (H3.out.trans (E8.out.mono H3.out.size))) (by omega) HL2.out).mono fun _ _ h => rd2 E8 h).mono ?_
    rintro e w9 ⟨P6, p6, rfl, hcv6, x9, E9⟩
    refine hK _ _ x9 ?_
    clear hK K
    conv => arg 4; whnf
    conv => arg 4; arg 1; whnf; arg 1; whnf
    refine plan_conv rfl rfl (by rfl) hcv6 ?_
    simp only [Act.put, List.setIfInBounds_toArray, List.set_cons_zero, List.set_cons_succ]
    clear hcv5 hcv6 x8 x9
    iterate 5 ((conv => arg 4; whnf); (conv => arg 4; arg 1; whnf; arg 1; whnf); (first | (refine plan_skip (by rfl) ?_; simp only [Act.put, List.setIfInBounds_toArray, List.set_cons_zero, List.set_cons_succ]) | (refine plan_free (by rfl) (fun K hK => ?_); go_big_quiet_op; first | (refine hK _ ?_; clear hK K) | (refine ⟨_, fun _ _ => rfl, hK _ ?_⟩; clear hK K))))
    conv => arg 4; whnf
    conv => arg 4; arg 1; whnf; arg 1; whnf
    refine plan_eff (by rfl) (fun K hK => ?_)
    go_wp2_with fail
    refine (texts_eq w9 M N l3 _ _ cm cn rfl rfl (hM3.below E9.out) (hN.below E9.out)).mono ?_
    rintro e w10 ⟨rfl, x10⟩
    refine hK _ _ x10 ?_
    clear hK K
    have E10 : Hid (Ext w3 w10) := E9.out.trans x10
    clear x10
    iterate 12 ((conv => arg 4; whnf); (conv => arg 4; arg 1; whnf; arg 1; whnf); (first | (refine plan_skip (by rfl) ?_; simp only [Act.put, List.setIfInBounds_toArray, List.set_cons_zero, List.set_cons_succ]) | (refine plan_free (by rfl) (fun K hK => ?_); go_big_quiet_op; first | (refine hK _ ?_; clear hK K) | (refine ⟨_, fun _ _ => rfl, hK _ ?_⟩; clear hK K))))
    conv => arg 4; whnf
    conv => arg 4; arg 1; whnf; arg 1; whnf
    refine plan_eff (by rfl) (fun K hK => ?_)
    go_wp2_with fail
    refine (awake_any w10).mono ?_
    rintro e w11 ⟨rfl, x11⟩
    refine hK _ _ x11 ?_
    clear hK K
    have E11 : Hid (Ext w3 w11) := E10.out.trans x11
    clear x11
    iterate 2 ((conv => arg 4; whnf); (conv => arg 4; arg 1; whnf; arg 1; whnf); (first | (refine plan_skip (by rfl) ?_; simp only [Act.put, List.setIfInBounds_toArray, List.set_cons_zero, List.set_cons_succ]) | (refine plan_free (by rfl) (fun K hK => ?_); go_big_quiet_op; first | (refine hK _ ?_; clear hK K) | (refine ⟨_, fun _ _ => rfl, hK _ ?_⟩; clear hK K))))
    conv => arg 4; whnf
    refine plan_nil ?_

    go_wp2
    go_ret
    exact ⟨rfl, H3.out.trans (E11.out.mono H3.out.size)⟩
end Go.Proofs.Ytfjjdmiddigkiaa
