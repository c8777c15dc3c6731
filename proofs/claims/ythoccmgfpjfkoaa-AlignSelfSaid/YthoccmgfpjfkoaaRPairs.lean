/- chequerref15.Pairs. -/
import Derived.Test.YthoccmgfpjfkoaaLcsRef
namespace Go.Proofs.Ythoccmgfpjfkoaa
open Go.RowKit

set_option maxRecDepth 100000 in
set_option maxHeartbeats 600000 in
theorem rpairs_any (w : World) (A B : Option Addr) (a b : List ByteArray) (ca cb : Nat) (hA : At1 vStr w A a) (hB : At1 vStr w B b) :
    Calls Try.prog 33 #[.slice A a.length ca, .slice B b.length cb] w (WalkPost w (pairsOf a b)) := by
  by_cases h : 200 < a.length ∨ 200 < b.length
  · rw [pairsOf, if_pos h]
    by_cases h1 : 200 < a.length
    · go_enter Try.func33, Try.ntmps33
      go_wp2
      go_ret2
      exact ⟨_, _, rfl, ⟨World.ownsRow_nil _ _ _ _, World.ownsRow_nil _ _ _ _, Apart.nil _⟩, Below.refl _ _⟩
    · have h2 : 200 < b.length := by omega
      clear h
      go_enter Try.func33, Try.ntmps33
      go_wp2
      go_ret2
      exact ⟨_, _, rfl, ⟨World.ownsRow_nil _ _ _ _, World.ownsRow_nil _ _ _ _, Apart.nil _⟩, Below.refl _ _⟩
  · rw [pairsOf, if_neg h]
    have hh : a.length ≤ 200 ∧ b.length ≤ 200 := by omega
    obtain ⟨ha, hb⟩ := hh
    have H := Lib.hid (table_any w A B a b ca cb ha hb hA hB)
    clear h
    go_enter Try.func33, Try.ntmps33
    go_wp2_with fail
    refine H.out.mono ?_
    rintro e w1 ⟨G, ρ, rfl, hM, hb1⟩
    clear H
    have hA1 := hA.below hb1
    have hB1 := hB.below hb1
    have HB1 := Lib.hid hb1
    have hsz1 := hb1.size
    clear hA hB hb1
    go_wp2
    go_loopw [7, 8, 9, 10] (fun x y i k wr => ∃ (i0 k0 : Nat) (l : List (Nat × Nat)), i0 ≤ a.length ∧ k0 ≤ b.length ∧ i = .int .i64 i0 ∧ k = .int .i64 k0 ∧ l.length ≤ i0 ∧ Lcs.W a b 0 0 = l ++ Lcs.W (a.drop i0) (b.drop k0) i0 k0 ∧ TwoRows wr w1.heap.size x y l ∧ Below w1.heap.size w1 wr)
      (fun _ _ i k _ => (a.length - (intOf i).toNat) + (b.length - (intOf k).toNat))
    case atStart => exact ⟨0, 0, [], Nat.zero_le _, Nat.zero_le _, rfl, rfl, Nat.le_refl _, by simp, ⟨World.ownsRow_nil _ _ _ _, World.ownsRow_nil _ _ _ _, Apart.nil _⟩, Below.refl _ _⟩
    case round =>
      obtain ⟨i0, k0, l, hi0, hk0, rfl, rfl, hll, hW, hR, hbl⟩ := hrel
      have hM' := hM.below hbl
      have HTM := Lib.hid hM
      have HW := Lib.hid hW
      clear hM hW
      by_cases hlt : i0 < a.length
      · by_cases hlt2 : k0 < b.length
        · obtain ⟨ad, rfl, hca⟩ := (hA1.below hbl).at_ hlt
          obtain ⟨bd, rfl, hcb⟩ := (hB1.below hbl).at_ hlt2
          have g0 := hM'.topAt (i := i0) (by omega)
          have g1 := hM'.topAt (i := i0 + 1) (by omega)
          have c1 := hM'.at_ (i := i0 + 1) (k := k0) (by omega) (by omega)
          have c2 := hM'.at_ (i := i0) (k := k0 + 1) (by omega) (by omega)
          have HA := Lib.hid hA1
          have HB := Lib.hid hB1
          have HM := Lib.hid hM'
          clear hA1 hB1 hM'
          by_cases hab : a[i0] = b[k0]
          · as_aux_lemma =>
            have hst := str_eq_true hab
            have HL := Lib.hid hab
            clear hab
            go_wp2
            go_quiet (fail)
            have hR' : TwoRows (wr.drewN nq) w1.heap.size _ _ l := hR
            obtain ⟨hRx, hRy, hap⟩ := hR'
            clear hR
            have hbq := below_drewN hbl nq
            clear hca hcb g0 g1 c1 c2 HM
            clear hbl
            generalize wr.drewN nq = wq at hRx hRy hbq ⊢
            have hsz := hbq.size
            go_wp2_with (first | (at_builtin; refine wpList_app1 eInt rfl rfl hRx rfl rfl (by first | rfl | simp) rfl (by omega) (by first | omega | (simp; omega)) ?_; intro v1 w2 hown1 hg1 hk1; have hy1 := own_other hRy hap hg1; have hs1 := hg1.size) | (at_builtin; refine wpList_app1 eInt rfl rfl hy1 rfl rfl (by first | rfl | simp) rfl (by omega) (by first | omega | (simp; omega)) ?_; intro v2 w3 hown2 hg2 hk2))
            go_roundw
            case rel =>
              have hb1 := below_grown hbq hRx hg1 (Nat.le_refl _) hsz
              have hb2 := below_grown hb1 hy1 hg2 (Nat.le_refl _) hb1.size
              have hap1 := apart_grown hRy hap hk1 (Nat.le_succ _)
              have hx2 := own_other hown1 hap1.symm hg2
              have hap2 := (apart_grown hown1 hap1.symm hk2 (Nat.le_succ _)).symm
              refine ⟨i0 + 1, k0 + 1, l ++ [(i0, k0)], by omega, by omega, by go_num, by go_num, by simp; omega, ?_, ⟨by simpa using hx2, by simpa using hown2, hap2⟩, hb2⟩
              rw [HW.out, Lcs.W_at_eq hlt hlt2 HL.out, List.append_assoc]; rfl
            case measure => first | (simp [intOf]; done) | (simp [intOf]; omega)
          · as_aux_lemma =>
            have hst := str_eq_false hab
            have HL := Lib.hid hab
            clear hab
            generalize hL1 : Lcs.L (a.drop (i0 + 1)) (b.drop k0) = x1 at c1
            generalize hL2 : Lcs.L (a.drop i0) (b.drop (k0 + 1)) = x2 at c2
            have HL1 := Lib.hid hL1
            have HL2 := Lib.hid hL2
            clear hL1 hL2
            by_cases hle : (x2 : Int) ≤ (x1 : Int)
            · go_wp2
              go_quiet (fail)
              go_wp2
              go_quiet (fail)
              go_wp2
              go_roundw
              case rel => exact ⟨i0 + 1, k0, l, by omega, by omega, by go_num, rfl, by omega, by rw [HW.out, Lcs.W_at_down hlt hlt2 HL.out (by rw [HL1.out, HL2.out]; omega)], hR, below_drewN hbl _⟩
              case measure => first | (simp [intOf]; done) | (simp [intOf]; omega)
            · go_wp2
              go_quiet (fail)
              go_wp2
              go_quiet (fail)
              go_wp2
              go_roundw
              case rel => exact ⟨i0, k0 + 1, l, by omega, by omega, rfl, by go_num, by omega, by rw [HW.out, Lcs.W_at_right hlt hlt2 HL.out (by rw [HL1.out, HL2.out]; omega)], hR, below_drewN hbl _⟩
              case measure => first | (simp [intOf]; done) | (simp [intOf]; omega)
        · go_wp2
          go_ret2
          have e := HW.out
          rw [Lcs.W_at_end (by omega), List.append_nil] at e
          have hbb := HB1.out.trans (hbl.mono hsz1)
          exact ⟨_, _, rfl, by rw [e]; exact ⟨own_base hR.1 hsz1, own_base hR.2.1 hsz1, hR.2.2⟩, hbb⟩
      · go_wp2
        go_ret2
        have e := HW.out
        rw [Lcs.W_at_end (by omega), List.append_nil] at e
        have hbb := HB1.out.trans (hbl.mono hsz1)
        exact ⟨_, _, rfl, by rw [e]; exact ⟨own_base hR.1 hsz1, own_base hR.2.1 hsz1, hR.2.2⟩, hbb⟩

end Go.Proofs.Ythoccmgfpjfkoaa
