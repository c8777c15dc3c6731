/- chequerlaw25.Make: a history by numbers. Written by pmakegen.py. -/
import Derived.Test.YtfhgnolfhiffbaaPMade
namespace Go.Proofs.Ytfhgnolfhiffbaa
open Go.RowKit Go.Maps
def MakePost (w : World) (e : Ending) (w' : World) : Prop := ∃ A c L, e = .returned (.slice A L.length c) ∧ MK w w' (.slice A L.length c) L
theorem run_min2 {P : Program} (ts : Array TypeId) (t : TypeId) (k k' : IntKind) (x y : Int) (w : World) : (Builtin.min_ ts t #[.int k x, .int k' y]).run P w = .ok (.int k (min x y)) w := by
  rw [run_min_int2]
  congr 2
  split <;> omega
set_option maxRecDepth 100000 in
set_option maxHeartbeats 4000000 in
theorem own_baseM {w : World} {b b' n size : Nat} {e : TypeId} {v : Value} {xs : List Value} (h : w.ownsRow b e size v n xs) (hb : b' ≤ b) : w.ownsRow b' e size v n xs := by
  refine ⟨h.1, ?_⟩
  rcases h.2 with k | ⟨g, cap, cur, hv, hg, r⟩
  · exact .inl k
  · exact .inr ⟨g, cap, cur, hv, Nat.le_trans hb hg, r⟩
theorem com_store {W : World} {X : Nat} {a b c d z : Value} {t : TypeId} (h : W.heap[X]? = some (.cells #[a, b, c, d] t (0, 0))) : (W.setCell ⟨X, 1, none⟩ z).heap[X]? = some (.cells #[a, z, c, d] t (0, 0)) := by
  simp [World.setCell, Array.getElem?_modify, h]
theorem own_store {W : World} {base n X : Nat} {v : Value} {xs : List Value} {a b c d : Value} (h : W.ownsRow base 9 1 v n xs) (hX : W.heap[X]? = some (.cells #[a, b, c, d] 31 (0, 0))) (z : Value) : (W.setCell ⟨X, 1, none⟩ z).ownsRow base 9 1 v n xs :=
  own_kept' h (fun g2 _ _ hg2 => by
    have hne : g2 ≠ X := by
      intro e
      subst e
      rw [hX] at hg2
      injection hg2 with hg2
      injection hg2 with _ hg2
      exact absurd hg2 (by decide)
    simp [World.setCell, Array.getElem?_modify, Ne.symm hne])
theorem com_cells {W : World} {X : Nat} {a b c d : Value} {t : TypeId} (h : W.heap[X]? = some (.cells #[a, b, c, d] t (0, 0))) : W.cell? ⟨X, 0, none⟩ = some a ∧ W.cell? ⟨X, 1, none⟩ = some b ∧ W.cell? ⟨X, 2, none⟩ = some c ∧ W.cell? ⟨X, 3, none⟩ = some d :=
  ⟨by simp [World.cell?, h], by simp [World.cell?, h], by simp [World.cell?, h], by simp [World.cell?, h]⟩
theorem load_st (p : Addr) (v : Value) (W : World) (h : W.cell? p = some v) : (Instr.loadAt 26 (.pointer (some p))).run Try.prog W = .ok v W := by simp [go_sem, h]
theorem load_by (p : Addr) (v : Value) (W : World) (h : W.cell? p = some v) : (Instr.loadAt 5 (.pointer (some p))).run Try.prog W = .ok v W := by simp [go_sem, h]
set_option maxRecDepth 100000 in
set_option maxHeartbeats 2000000 in
theorem make_any (w : World) (B : Option Addr) (b : List UInt8) (cb : Nat) (hB : At1 vByte w B b) :
    Calls Try.prog 8 #[.slice B b.length cb] w (MakePost w) := by
  have hl := hB.1
  go_enter Try.func8, Try.ntmps8
  go_wp2_with fail
  go_loopw [3, 4] (fun v u wr => ∃ (n : Nat) (L : List HC), L.length = n ∧ u = .int .i64 (2 * (n : Int)) ∧ n ≤ 20 ∧ 2 * n ≤ b.length ∧ MK w wr v L) (fun _ u _ => b.length - (intOf u).toNat)
  case atStart => exact ⟨0, [], rfl, rfl, Nat.zero_le _, Nat.zero_le _, ⟨World.ownsRow_nil _ _ _ _, by simp, by simp, Below.refl _ _, ⟨by simp, by simp, by simp, by simp⟩⟩⟩
  case round =>
    obtain ⟨n, L, hn, rfl, hn20, hib, hm⟩ := hrel
    have how := hm.ow
    rw [hn] at how
    obtain ⟨O, oc, rfl, hoc, _⟩ := own_form how
    have hbs := hm.be.size
    by_cases hgo : 2 * n + 1 < b.length ∧ n < 20
    · obtain ⟨hg1, hg2⟩ := hgo
      have d1 : decide (2 * (n : Int) + 1 < (b.length : Int)) = true := decide_eq_true (by omega)
      have d2 : decide (2 * (n : Int) < 40) = true := decide_eq_true (by omega)
      have hcv := idN_conv wr hg2
      have hM := hm.below (((Below.refl _ _).alloc (Nat.le_refl _) (.cells #[.int .u8 (65 + (n : Int) * 7 % 26), .int .u8 (48 + (n : Int) % 10), .int .u8 (48 + (n : Int) / 10)] 5)).alloc (by simp) (.cells #[.string (idN n), .slice none 0 0, .slice none 0 0, .string ⟨#[]⟩] 31))
      have hMo := hM.ow
      have hMb := hM.be.size
      rw [hn] at hMo
      by_cases hn0 : n < 1
      · have d3 : decide (0 < (n : Int)) = false := decide_eq_false (by omega)
        go_wp2_with (at_builtin; go_loud (refine wpList_appN (cs := #[.string (idN n), .slice none 0 0, .slice none 0 0, .string ⟨#[]⟩]) eCommit rfl rfl hMo rfl rfl (by simp) rfl (by intro u hu; simp at hu; rcases hu with rfl | rfl | rfl | rfl <;> rfl) (by omega) hMb ?_; intro v1 w9 hown9 hg9 hk9; obtain ⟨A9, c9, rfl, _⟩ := own_form hown9; obtain ⟨M, hMn, hMM⟩ := hM.snoc (A := none) (ps := []) (cap := 0) hn hg2 (World.ownsRow_nil _ _ _ _) (by simp) (by simp) hown9 hg9; clear hown9 hg9 hM hMo hm how))
        go_roundw
        case rel => exact ⟨n + 1, M, hMn, by go_num, by omega, by omega, hMM⟩
        case measure => first | (simp [intOf]; done) | (simp [intOf]; omega)
      · obtain ⟨ad, hAd, hbc⟩ := (hB.below hM.be).2 (by omega)
        subst hAd
        obtain ⟨x0, hx0⟩ : ∃ x0, b[2 * n]? = some x0 := ⟨_, List.getElem?_eq_getElem (by omega)⟩
        obtain ⟨x1, hx1⟩ : ∃ x1, b[2 * n + 1]? = some x1 := ⟨_, List.getElem?_eq_getElem (by omega)⟩
        have c0 := hbc _ _ hx0
        have c1 := hbc _ _ hx1
        have d3 : decide (0 < (n : Int)) = true := decide_eq_true (by omega)
        have hx0t := x0.toNat_lt
        have hx1t := x1.toNat_lt
        by_cases h15 : x0.toNat % 16 = 15
        · have d4 : decide ((x0.toNat : Int) % 16 = 15) = true := decide_eq_true (by omega)
          by_cases hn1 : n < 2
          · have d5 : decide (1 < (n : Int)) = false := decide_eq_false (by omega)
            go_wp2_with (at_builtin; go_loud (refine wpList_appN (cs := #[.string (idN n), .slice none 0 0, .slice none 0 0, .string ⟨#[]⟩]) eCommit rfl rfl hMo rfl rfl (by simp) rfl (by intro u hu; simp at hu; rcases hu with rfl | rfl | rfl | rfl <;> rfl) (by omega) hMb ?_; intro v1 w9 hown9 hg9 hk9; obtain ⟨A9, c9, rfl, _⟩ := own_form hown9; obtain ⟨M, hMn, hMM⟩ := hM.snoc (A := none) (ps := []) (cap := 0) hn hg2 (World.ownsRow_nil _ _ _ _) (by simp) (by simp) hown9 hg9; clear hown9 hg9 hM hMo hm how))
            go_roundw
            case rel => exact ⟨n + 1, M, hMn, by go_num, by omega, by omega, hMM⟩
            case measure => first | (simp [intOf]; done) | (simp [intOf]; omega)
          · have d5 : decide (1 < (n : Int)) = true := decide_eq_true (by omega)
            go_wp2_with (at_builtin; go_loud (refine wpList_appN (cs := #[.string (idN n), .slice none 0 0, .slice none 0 0, .string ⟨#[]⟩]) eCommit rfl rfl hMo rfl rfl (by simp) rfl (by intro u hu; simp at hu; rcases hu with rfl | rfl | rfl | rfl <;> rfl) (by omega) hMb ?_; intro v1 w9 hown9 hg9 hk9; obtain ⟨A9, c9, rfl, _⟩ := own_form hown9; obtain ⟨M, hMn, hMM⟩ := hM.snoc (A := none) (ps := []) (cap := 0) hn hg2 (World.ownsRow_nil _ _ _ _) (by simp) (by simp) hown9 hg9; clear hown9 hg9 hM hMo hm how))
            go_roundw
            case rel => exact ⟨n + 1, M, hMn, by go_num, by omega, by omega, hMM⟩
            case measure => first | (simp [intOf]; done) | (simp [intOf]; omega)
        · have d4 : decide ((x0.toNat : Int) % 16 = 15) = false := decide_eq_false (by omega)
          go_wp2_with fail
          have hX := heap_alloc_new (wr.alloc (.cells #[.int .u8 (65 + (n : Int) * 7 % 26), .int .u8 (48 + (n : Int) % 10), .int .u8 (48 + (n : Int) / 10)] 5)) (.cells #[.string (idN n), .slice none 0 0, .slice none 0 0, .string ⟨#[]⟩] 31)
          rw [World.size_alloc] at hX
          obtain ⟨j, hj⟩ : ∃ j, n - 1 - x0.toNat % min n 4 = j := ⟨_, rfl⟩
          have hjn : j < n := by omega
          obtain ⟨y, hy⟩ : ∃ y, L[j]? = some y := ⟨_, List.getElem?_eq_getElem (by omega)⟩
          have hyi := hm.made.ids j y hy
          obtain ⟨m, hm4⟩ : ∃ m, min n 4 = m := ⟨_, rfl⟩
          have hmI : min (n : Int) 4 = (m : Int) := by omega
          rw [hm4] at hj
          have hm1 : 1 ≤ m ∧ m ≤ 4 ∧ m ≤ n := by omega
          obtain ⟨r, hr⟩ : ∃ r, x0.toNat % m = r := ⟨_, rfl⟩
          have hrI : (x0.toNat : Int) % (m : Int) = (r : Int) := by rw [← hr]; push_cast; rfl
          rw [hr] at hj
          have hrm : r < m := by rw [← hr]; exact Nat.mod_lt _ (by omega)
          have hjI : (n : Int) - 1 - (r : Int) = (j : Int) := by omega
          have hmin := @run_min2 Try.prog
          obtain ⟨g, hO, hyc⟩ := own_cellN hMo (cellsC_get L j y hy).1
          subst hO
          obtain ⟨X, hXe⟩ : ∃ X, wr.heap.size + 1 = X := ⟨_, rfl⟩
          obtain ⟨wz, hwz⟩ : ∃ wz, wz = (wr.alloc (.cells #[.int .u8 (65 + (n : Int) * 7 % 26), .int .u8 (48 + (n : Int) % 10), .int .u8 (48 + (n : Int) / 10)] 5)).alloc (.cells #[.string (idN n), .slice none 0 0, .slice none 0 0, .string ⟨#[]⟩] 31) := ⟨_, rfl⟩
          rw [← hwz] at hX hM hMo hMb c0 c1 hyc ⊢
          rw [hXe] at hX ⊢
          have q1 : wz.cell? ⟨X, 1, none⟩ = some (.slice none 0 0) := by unfold World.cell?; rw [hX]; rfl
          have hbX : w.heap.size ≤ X := by omega
          have hbz : Below wr.heap.size wr wz := by rw [hwz]; exact ((Below.refl _ _).alloc (Nat.le_refl _) _).alloc (by simp) _
          have hBB := Lib.hid (fun W (hW : Below w.heap.size w W) => show ∀ i x, b[i]? = some x → W.cell? (ad.add i) = some (vByte x) from by
            obtain ⟨ad2, e2, h2⟩ := (hB.below hW).2 (by omega)
            cases e2
            exact h2)
          clear hwz hcv how hbc hB
          refine wp_region_tree [20] (.free 0 (.free 1 (.free 2 (.free 3 (.free 4 (.free 5 (.free 6 (.free 7 (.free 8 (.free 9 (.free 10 (.free 11 (.free 12 (.free 13 (.free 14 (.free 15 (.free 16 (.eff 17 (.eff 18 (.free 19 (.last 20 .nil))))))))))))))))))))) (by kernel_rfl) (by kernel_rfl) (fun _ _ d _ _ h => by cases d <;> exact h) ?_
          conv => arg 4; whnf
          conv => arg 4; arg 1; whnf
          refine pt_free (by rfl) (fun K hK => ?_)
          go_big_quiet_op
          first | (refine hK _ ?_; clear hK K) | (refine ⟨_, fun _ _ => rfl, hK _ ?_⟩; clear hK K)
          conv => arg 4; whnf
          conv => arg 4; arg 1; whnf
          refine pt_loadX (fun W hW => load_st _ _ W ((hW.cell (World.block_lt_of_cell? _ _ q1)).trans q1)) (by rfl) rfl rfl ?_
          simp only [Act.put, List.setIfInBounds_toArray, List.set_cons_zero, List.set_cons_succ]
          conv => arg 4; whnf
          conv => arg 4; arg 1; whnf
          refine pt_free (by rfl) (fun K hK => ?_)
          go_big_quiet_op
          first | (refine hK _ ?_; clear hK K) | (refine ⟨_, fun _ _ => rfl, hK _ ?_⟩; clear hK K)
          conv => arg 4; whnf
          conv => arg 4; arg 1; whnf
          refine pt_free (by rfl) (fun K hK => ?_)
          go_big_quiet_op
          first | (refine hK _ ?_; clear hK K) | (refine ⟨_, fun _ _ => rfl, hK _ ?_⟩; clear hK K)
          conv => arg 4; whnf
          conv => arg 4; arg 1; whnf
          refine pt_free (by rfl) (fun K hK => ?_)
          go_big_quiet_op
          first | (refine hK _ ?_; clear hK K) | (refine ⟨_, fun _ _ => rfl, hK _ ?_⟩; clear hK K)
          conv => arg 4; whnf
          conv => arg 4; arg 1; whnf
          refine pt_free (by rfl) (fun K hK => ?_)
          go_big_quiet_op
          first | (refine hK _ ?_; clear hK K) | (refine ⟨_, fun _ _ => rfl, hK _ ?_⟩; clear hK K)
          conv => arg 4; whnf
          conv => arg 4; arg 1; whnf
          refine pt_free (by rfl) (fun K hK => ?_)
          go_big_quiet_op
          first | (refine hK _ ?_; clear hK K) | (refine ⟨_, fun _ _ => rfl, hK _ ?_⟩; clear hK K)
          conv => arg 4; whnf
          conv => arg 4; arg 1; whnf
          refine pt_free (by rfl) (fun K hK => ?_)
          go_big_quiet_op
          first | (refine hK _ ?_; clear hK K) | (refine ⟨_, fun _ _ => rfl, hK _ ?_⟩; clear hK K)
          conv => arg 4; whnf
          conv => arg 4; arg 1; whnf
          refine pt_loadX (fun W hW => load_by _ _ W ((hW.cell (World.block_lt_of_cell? _ _ c0)).trans c0)) (by rfl) rfl rfl ?_
          simp only [Act.put, List.setIfInBounds_toArray, List.set_cons_zero, List.set_cons_succ]
          conv => arg 4; whnf
          conv => arg 4; arg 1; whnf
          refine pt_free (by rfl) (fun K hK => ?_)
          go_big_quiet_op
          first | (refine hK _ ?_; clear hK K) | (refine ⟨_, fun _ _ => rfl, hK _ ?_⟩; clear hK K)
          conv => arg 4; whnf
          conv => arg 4; arg 1; whnf
          refine pt_free (by rfl) (fun K hK => ?_)
          go_big_quiet_op
          first | (refine hK _ ?_; clear hK K) | (refine ⟨_, fun _ _ => rfl, hK _ ?_⟩; clear hK K)
          conv => arg 4; whnf
          conv => arg 4; arg 1; whnf
          refine pt_free (by rfl) (fun K hK => ?_)
          go_big_quiet_op
          first | (refine hK _ ?_; clear hK K) | (refine ⟨_, fun _ _ => rfl, hK _ ?_⟩; clear hK K)
          try rw [hmI]
          conv => arg 4; whnf
          conv => arg 4; arg 1; whnf
          refine pt_free (by rfl) (fun K hK => ?_)
          go_big_quiet_op
          first | (refine hK _ ?_; clear hK K) | (refine ⟨_, fun _ _ => rfl, hK _ ?_⟩; clear hK K)
          try rw [hrI]
          conv => arg 4; whnf
          conv => arg 4; arg 1; whnf
          refine pt_free (by rfl) (fun K hK => ?_)
          go_big_quiet_op
          first | (refine hK _ ?_; clear hK K) | (refine ⟨_, fun _ _ => rfl, hK _ ?_⟩; clear hK K)
          try rw [hjI]
          conv => arg 4; whnf
          conv => arg 4; arg 1; whnf
          refine pt_free (by rfl) (fun K hK => ?_)
          go_big_quiet_op
          first | (refine hK _ ?_; clear hK K) | (refine ⟨_, fun _ _ => rfl, hK _ ?_⟩; clear hK K)
          conv => arg 4; whnf
          conv => arg 4; arg 1; whnf
          refine pt_free (by rfl) (fun K hK => ?_)
          go_big_quiet_op
          first | (refine hK _ ?_; clear hK K) | (refine ⟨_, fun _ _ => rfl, hK _ ?_⟩; clear hK K)
          conv => arg 4; whnf
          conv => arg 4; arg 1; whnf
          refine pt_loadX (fun W hW => load_s _ _ W ((hW.cell (World.block_lt_of_cell? _ _ hyc)).trans hyc)) (by rfl) rfl rfl ?_
          simp only [Act.put, List.setIfInBounds_toArray, List.set_cons_zero, List.set_cons_succ]
          conv => arg 4; whnf
          conv => arg 4; arg 1; whnf
          refine pt_eff (by rfl) (fun K hK => ?_)
          go_wp2
          refine hK _ _ ((Below.refl _ _).alloc (Nat.le_refl _) _) ?_
          clear hK K
          conv => arg 4; whnf
          conv => arg 4; arg 1; whnf
          refine pt_eff (by rfl) (fun K hK => ?_)
          refine wp_appN (v := .slice none 0 0) (cs := #[.string (idN j)]) (n := 0) (base := wr.heap.size) (xs := []) eStr (by rfl) (World.ownsRow_nil _ _ _ _) (by rfl) (by rfl) (heap_alloc_new wz _) rfl (by intro u hu; simp at hu; subst hu; rfl) (by omega) (by show wr.heap.size ≤ (wz.alloc _).heap.size; rw [World.size_alloc]; exact Nat.le_succ_of_le hbz.size) (fun v1 w1 hown1 hg1 hk1 => ?_)
          obtain ⟨A1, cp, rfl, _⟩ := own_form hown1
          refine hK _ _ ((Below.refl _ _).grown hg1 (Nat.le_refl _) (fun k hk => by simp [Value.ownBlock] at hk)) ?_
          clear hK K
          have hbw : Below wr.heap.size wr w1 := ((hbz.alloc hbz.size (.cells #[.string (idN j)] 9)).drew).grown hg1 (by show wr.heap.size ≤ (wz.alloc _).heap.size; rw [World.size_alloc]; exact Nat.le_succ_of_le hbz.size) (fun k hk => by simp [Value.ownBlock] at hk)
          have hXl := (Array.getElem?_eq_some_iff.1 hX).1
          have hX1 : w1.heap[X]? = some (.cells #[.string (idN n), .slice none 0 0, .slice none 0 0, .string ⟨#[]⟩] 31 (0, 0)) := (hg1.block X (by show X < (wz.alloc _).heap.size; rw [World.size_alloc]; exact Nat.lt_succ_of_lt hXl) (by simp [Value.ownBlock])).trans ((Below.heap_alloc wz _ X hXl).trans hX)
          have q9 : w1.cell? ⟨X, 1, none⟩ = some (.slice none 0 0) := by unfold World.cell?; rw [hX1]; rfl
          have q10 : w1.frozen? ⟨X, 1, none⟩ = false := by simp [World.frozen?, hX1]
          simp only [Act.put, List.setIfInBounds_toArray, List.set_cons_zero, List.set_cons_succ]
          conv => arg 4; whnf
          conv => arg 4; arg 1; whnf
          refine pt_free (by rfl) (fun K hK => ?_)
          go_big_quiet_op
          first | (refine hK _ ?_; clear hK K) | (refine ⟨_, fun _ _ => rfl, hK _ ?_⟩; clear hK K)
          conv => arg 4; whnf
          conv => arg 4; arg 1; whnf
          refine pt_last (by rfl) (fun K hK => ?_)
          go_wp2
          refine pt_nil ?_
          have hb2 := hbw.setCell (p := ⟨X, 1, none⟩) (by show wr.heap.size ≤ X; omega) (.slice A1 1 cp)
          have hX2 := com_store (z := .slice A1 1 cp) hX1
          have hown2 := own_kept' (w' := w1.setCell ⟨X, 1, none⟩ (.slice A1 1 cp)) hown1 (fun g2 cur _ hg2 => by
            have hne : g2 ≠ X := by
              intro e
              subst e
              rw [hX1] at hg2
              injection hg2 with hg2
              injection hg2 with _ hg2
              exact absurd hg2 (by decide)
            simp [World.setCell, Array.getElem?_modify, Ne.symm hne])
          have hM2 := hm.below hb2
          have HMR := Lib.hid hm
          clear hown1 hg1 hk1 hbw hX1 q9 q10 q1 hX hyc hM hMo hMb c0 c1 hbz hm
          generalize w1.setCell ⟨X, 1, none⟩ (.slice A1 1 cp) = w2 at *
          have hMo := hM2.ow
          have hMb := hM2.be.size
          rw [hn] at hMo
          have c1 : w2.cell? ⟨ad.block, ad.off + (2 * n + 1), none⟩ = some (vByte x1) := by have h9 := hBB.out _ hM2.be _ _ hx1; unfold Addr.add at h9; rw [if_neg (by omega)] at h9; exact h9
          obtain ⟨p0, p1, p2, p3⟩ := com_cells hX2
          have t1 : (1 : Int) < 18446744073709551616 := by decide
          by_cases hn1 : n < 2
          · have d5 : decide (1 < (n : Int)) = false := decide_eq_false (by omega)
            go_wp2_with (at_builtin; go_loud (refine wpList_appN (cs := #[.string (idN n), .slice A1 1 cp, .slice none 0 0, .string ⟨#[]⟩]) eCommit rfl rfl hMo rfl rfl (by simp) rfl (by intro u hu; simp at hu; rcases hu with rfl | rfl | rfl | rfl <;> rfl) (by omega) hMb ?_; intro v1 w9 hown9 hg9 hk9; obtain ⟨A9, c9, rfl, _⟩ := own_form hown9; obtain ⟨M, hMn, hMM⟩ := hM2.snoc (A := A1) (ps := [idN j]) (cap := cp) hn hg2 (own_baseM hown2 hbs) (by intro p hp; simp at hp; subst hp; exact ⟨j, hjn, rfl⟩) (by simp) hown9 hg9; clear hown9 hg9 hM2 hMo hown2))
            go_roundw
            case rel => exact ⟨n + 1, M, hMn, by go_num, by omega, by omega, hMM⟩
            case measure => first | (simp [intOf]; done) | (simp [intOf]; omega)
          · have d5 : decide (1 < (n : Int)) = true := decide_eq_true (by omega)
            by_cases h3 : x1.toNat % 3 = 0
            · have d6 : decide ((x1.toNat : Int) % 3 = 0) = true := decide_eq_true (by omega)
              obtain ⟨k, hk⟩ : ∃ k, x1.toNat % n = k := ⟨_, rfl⟩
              have hkn : k < n := by rw [← hk]; exact Nat.mod_lt _ (by omega)
              have hkI : (x1.toNat : Int) % (n : Int) = (k : Int) := by rw [← hk]; push_cast; rfl
              obtain ⟨z, hz⟩ : ∃ z, L[k]? = some z := ⟨_, List.getElem?_eq_getElem (by omega)⟩
              have hzi := hM2.made.ids k z hz
              obtain ⟨g2, hg2e, hzc⟩ := own_cellN hMo (cellsC_get L k z hz).1
              injection hg2e with hg2e
              injection hg2e with hg2e
              subst hg2e
              rw [hzi] at hzc
              obtain ⟨ga, hA1, hac⟩ := own_cellN (i := 0) (u := vStr (idN j)) hown2 rfl
              subst hA1
              clear hk
              by_cases hkj : k = j
              · subst hkj
                have hs := str_eq_true (a := idN k) (b := idN k) rfl
                go_wp2_with (at_builtin; go_loud (refine wpList_appN (cs := #[.string (idN n), .slice (some ⟨ga, 0, none⟩) 1 cp, .slice none 0 0, .string ⟨#[]⟩]) eCommit rfl rfl hMo rfl rfl (by simp) rfl (by intro u hu; simp at hu; rcases hu with rfl | rfl | rfl | rfl <;> rfl) (by omega) hMb ?_; intro v1 w9 hown9 hg9 hk9; obtain ⟨A9, c9, rfl, _⟩ := own_form hown9; obtain ⟨M, hMn, hMM⟩ := hM2.snoc (A := some ⟨ga, 0, none⟩) (ps := [idN k]) (cap := cp) hn hg2 (own_baseM hown2 hbs) (by intro p hp; simp at hp; subst hp; exact ⟨k, hkn, rfl⟩) (by simp) hown9 hg9; clear hown9 hg9 hM2 hMo hown2))
                go_roundw
                case rel => exact ⟨n + 1, M, hMn, by go_num, by omega, by omega, hMM⟩
                case measure => first | (simp [intOf]; done) | (simp [intOf]; omega)
              · have hs := str_eq_false (a := idN k) (b := idN j) (fun e => hkj (idN_inj (by omega) (by omega) e))
                have hkj2 : idN j ≠ idN k := fun e => hkj (idN_inj (by omega) (by omega) e).symm
                go_wp2_with (at_builtin; first | (refine wpList_app1 eStr rfl rfl hown2 rfl rfl rfl rfl (by omega) hb2.size ?_; intro v3 w3 hown3 hg3 hk3; obtain ⟨A3, c3, rfl, _⟩ := own_form hown3; have hX3 := box_kept hown2 hg3 hX2 (by decide); have q9 : w3.cell? ⟨X, 1, none⟩ = some (.slice (some ⟨ga, 0, none⟩) 1 cp) := (com_cells hX3).2.1; have q10 : w3.frozen? ⟨X, 1, none⟩ = false := (by simp [World.frozen?, hX3]); obtain ⟨r0, r1, r2, r3⟩ := com_cells (com_store (z := .slice A3 2 c3) hX3)) | go_loud (have hb4 := (below_grown hb2 hown2 hg3 (Nat.le_refl _) hb2.size).setCell (p := ⟨X, 1, none⟩) (by show wr.heap.size ≤ X; omega) (.slice A3 2 c3); have hM4 := HMR.out.below hb4; have hown4 := own_baseM (own_store hown3 hX3 (.slice A3 2 c3)) hbs; have hMo4 := hM4.ow; rw [hn] at hMo4; refine wpList_appN (cs := #[.string (idN n), .slice A3 2 c3, .slice none 0 0, .string ⟨#[]⟩]) eCommit rfl rfl hMo4 rfl rfl (by simp) rfl (by intro u hu; simp at hu; rcases hu with rfl | rfl | rfl | rfl <;> rfl) (by omega) hM4.be.size ?_; intro v1 w9 hown9 hg9 hk9; obtain ⟨A9, c9, rfl, _⟩ := own_form hown9; obtain ⟨M, hMn, hMM⟩ := hM4.snoc (A := A3) (ps := [idN j, idN k]) (cap := c3) hn hg2 hown4 (by intro p hp; simp at hp; rcases hp with rfl | rfl; exact ⟨j, hjn, rfl⟩; exact ⟨k, hkn, rfl⟩) (by simp [hkj2]) hown9 hg9; clear hown9 hg9 hM4 hMo4 hown4 hM2 hMo))
                go_roundw
                case rel => exact ⟨n + 1, M, hMn, by go_num, by omega, by omega, hMM⟩
                case measure => first | (simp [intOf]; done) | (simp [intOf]; omega)
            · have d6 : decide ((x1.toNat : Int) % 3 = 0) = false := decide_eq_false (by omega)
              go_wp2_with (at_builtin; go_loud (refine wpList_appN (cs := #[.string (idN n), .slice A1 1 cp, .slice none 0 0, .string ⟨#[]⟩]) eCommit rfl rfl hMo rfl rfl (by simp) rfl (by intro u hu; simp at hu; rcases hu with rfl | rfl | rfl | rfl <;> rfl) (by omega) hMb ?_; intro v1 w9 hown9 hg9 hk9; obtain ⟨A9, c9, rfl, _⟩ := own_form hown9; obtain ⟨M, hMn, hMM⟩ := hM2.snoc (A := A1) (ps := [idN j]) (cap := cp) hn hg2 (own_baseM hown2 hbs) (by intro p hp; simp at hp; subst hp; exact ⟨j, hjn, rfl⟩) (by simp) hown9 hg9; clear hown9 hg9 hM2 hMo hown2))
              go_roundw
              case rel => exact ⟨n + 1, M, hMn, by go_num, by omega, by omega, hMM⟩
              case measure => first | (simp [intOf]; done) | (simp [intOf]; omega)
    · by_cases hg1 : 2 * n + 1 < b.length
      · have d1 : decide (2 * (n : Int) + 1 < (b.length : Int)) = true := decide_eq_true (by omega)
        have d2 : decide (2 * (n : Int) < 40) = false := decide_eq_false (by omega)
        go_wp2
        go_ret
        exact ⟨O, oc, L, by rw [hn]; rfl, by rw [hn]; exact hm⟩
      · have d1 : decide (2 * (n : Int) + 1 < (b.length : Int)) = false := decide_eq_false (by omega)
        go_wp2
        go_ret
        exact ⟨O, oc, L, by rw [hn]; rfl, by rw [hn]; exact hm⟩
end Go.Proofs.Ytfhgnolfhiffbaa
