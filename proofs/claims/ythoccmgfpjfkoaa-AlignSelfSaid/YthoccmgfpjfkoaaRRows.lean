/- The walk of chequerref15.Rows. Written by rrowsgen.py. -/
import Derived.Test.YthoccmgfpjfkoaaRFilled
import Derived.Test.YthoccmgfpjfkoaaRPairs
import Derived.Test.YthoccmgfpjfkoaaAlignRKey
import Derived.Test.YthoccmgfpjfkoaaColsPlain
namespace Go.Proofs.Ythoccmgfpjfkoaa
open Go.RowKit

theorem sheet3 {w1 : World} {g : Nat} {a b c : Value} {t : TypeId} (z : w1.heap[g]? = some (.cells #[a, b, c] t (0, 0))) : w1.cell? ⟨g, 0, none⟩ = some a ∧ w1.cell? ⟨g, 1, none⟩ = some b ∧ w1.cell? ⟨g, 2, none⟩ = some c :=
  ⟨by simp [World.cell?, z], by simp [World.cell?, z], by simp [World.cell?, z]⟩
theorem rfilled_rd (w : World) (A : Option Addr) (m : List Int) (n c : Nat) (N : Int) (hn : m.length = n) (hA : At1 vInt w A m) (hl : n ≤ 1000) (hm : Al.Fit 1000000 m) (hN : 0 ≤ N) (hN2 : N ≤ 1000000) :
    Calls Try.prog 34 #[.agg #[.slice A n c, .int .i64 N]] w fun e w' => ∃ B d, e = .returned (.agg #[.slice B n d, .int .i64 N]) ∧ w'.ownsRow w.heap.size 3 1 (.slice B n d) n ((Al.fill m N 0).map vInt) ∧ Below w.heap.size w w' := by
  subst hn
  exact rfilled_any w A m c N hA hl hm hN hN2
/-- the pairs' places -/
theorem rpairs_rd (w : World) (A B : Option Addr) (a b : List ByteArray) (n m ca cb : Nat) (hn : a.length = n) (hm : b.length = m) (hA : At1 vStr w A a) (hB : At1 vStr w B b) :
    Calls Try.prog 33 #[.slice A n ca, .slice B m cb] w (PairsRd w (pairsOf a b)) := by
  subst hn hm
  refine (rpairs_any w A B a b ca cb hA hB).mono ?_
  rintro e w' ⟨x, y, rfl, ⟨h1, h2, _⟩, hb⟩
  have hl : (pairsOf a b).length ≤ 9223372036854775807 := by have := pairsOf_len a b; omega
  have l1 := h1.lt
  have l2 := h2.lt
  obtain ⟨A, c, rfl, _, _⟩ := own_form h1
  obtain ⟨B, d, rfl, _, _⟩ := own_form h2
  exact ⟨A, c, B, d, rfl, At1.of_own (n := (pairsOf a b).length) (by rw [List.map_map]; exact h1) (by simpa using hl), At1.of_own (n := (pairsOf a b).length) (by rw [List.map_map]; exact h2) (by simpa using hl),
    fun ad e => by subst e; exact l1 _ rfl, fun ad e => by subst e; exact l2 _ rfl, hb⟩

set_option maxRecDepth 100000 in
set_option maxHeartbeats 2000000 in
theorem rrows_any (w : World) (A B : Option Addr) (rs ts : List SRow) (n m c d : Nat) (name name2 : ByteArray) (cols cols2 : Int) (hn : rs.length = n) (hm : ts.length = m) (hA : Grid w A rs) (hB : Grid w B ts) (hma : Mild rs) (hmb : Mild ts) :
    Calls Try.prog 19 #[.agg #[.string name, .int .i64 cols, .slice A n c], .agg #[.string name2, .int .i64 cols2, .slice B m d]] w fun e w' =>
      ∃ Z c, e = .returned (.agg #[.slice Z n c, .int .i64 m]) ∧ w'.ownsRow w.heap.size 3 1 (.slice Z n c) n ((rowsOf (rowKeys rs) (rowKeys ts)).map vInt) ∧ Below w.heap.size w w' := by
  subst hn hm
  have HMA := Lib.hid hma
  have HMB := Lib.hid hmb
  have HA := Lib.hid hA
  have HB := Lib.hid hB
  clear hA hB hma hmb
  have hma1 := HMA.out.1
  have hmb1 := HMB.out.1
  go_enter Try.func19, Try.ntmps19
  go_wp2
  obtain ⟨W, hW⟩ : ∃ W, W = ((w.alloc (.cells #[.string name, .int .i64 cols, .slice A rs.length c] 24)).alloc (.cells #[.string name2, .int .i64 cols2, .slice B ts.length d] 24)).alloc (.cells #[.slice none 0 0, .int .i64 0] 30) := ⟨_, rfl⟩
  have hs1 := heap_alloc_new w (.cells #[.string name, .int .i64 cols, .slice A rs.length c] 24)
  have hs2 := heap_alloc_new (w.alloc (.cells #[.string name, .int .i64 cols, .slice A rs.length c] 24)) (.cells #[.string name2, .int .i64 cols2, .slice B ts.length d] 24)
  have hs3 := heap_alloc_new ((w.alloc (.cells #[.string name, .int .i64 cols, .slice A rs.length c] 24)).alloc (.cells #[.string name2, .int .i64 cols2, .slice B ts.length d] 24)) (.cells #[.slice none 0 0, .int .i64 0] 30)
  rw [World.size_alloc] at hs2
  rw [World.size_alloc, World.size_alloc] at hs3
  have hS1 : W.heap[w.heap.size]? = some (.cells #[.string name, .int .i64 cols, .slice A rs.length c] 24 (0, 0)) := by rw [hW]; exact (Below.heap_alloc _ _ _ (by simp; omega)).trans ((Below.heap_alloc _ _ _ (by simp)).trans hs1)
  have hS2 : W.heap[w.heap.size + 1]? = some (.cells #[.string name2, .int .i64 cols2, .slice B ts.length d] 24 (0, 0)) := by rw [hW]; exact (Below.heap_alloc _ _ _ (by simp)).trans hs2
  have hR : W.heap[w.heap.size + 1 + 1]? = some (.cells #[.slice none 0 0, .int .i64 0] 30 (0, 0)) := by rw [hW]; exact hs3
  have hsW : W.heap.size = w.heap.size + 3 := by rw [hW]; simp
  have hbW : Below w.heap.size w W := by rw [hW]; exact (((Below.refl _ _).alloc (Nat.le_refl _) _).alloc (by simp) _).alloc (by simp; omega) _
  have GA := Lib.hid (HA.out.below hbW)
  have GB := Lib.hid (HB.out.below hbW)
  rw [← hW]
  clear hW hs1 hs2 hs3 HA HB
  go_loopw [5, 7] (fun v i wr => ∃ k : Nat, k ≤ rs.length ∧ i = .int .i64 k ∧ wr.ownsRow W.heap.size 9 1 v ((rowKeys rs).take k).length (((rowKeys rs).take k).map vStr) ∧ Below W.heap.size W wr) (fun _ i _ => rs.length - (intOf i).toNat)
  case atStart => exact ⟨0, Nat.zero_le _, rfl, World.ownsRow_nil _ _ _ _, Below.refl _ _⟩
  case round =>
    obtain ⟨k, hk, rfl, hown, hb⟩ := hrel
    have hsz := hb.size
    obtain ⟨_, _, x2⟩ := sheet3 ((hb.block w.heap.size (by omega)).trans hS1)
    by_cases hlt : k < rs.length
    · have hG := GA.out.below hb
      obtain ⟨ad, rfl, hc⟩ := hG.top.at_ hlt
      have HR := Lib.hid (hG.row rs[k] (List.getElem_mem _))
      have HS := Lib.hid (HMA.out.2 rs[k] (List.getElem_mem _))
      have ht := Lib.hid (map_snoc (fun r : SRow => keyOf r.l) hlt)
      have hlen : ((rowKeys rs).take k).length ≤ 1000 := by rw [List.length_take, rowKeys_len]; have := HMA.out.1; omega
      clear hG
      generalize rs[k] = r at hc ht HR HS
      obtain ⟨rA, rl, rc⟩ := r
      dsimp only [vRow] at hc HR HS
      go_wp2_with fail
      refine (rkey_any wr rA rl rc HR.out HS.out.1 HS.out.2).mono ?_
      rintro e w2 ⟨rfl, hb2⟩
      have hown2 := own_below hown hb2
      have hb3 := hb.trans (hb2.mono hsz)
      have hsz3 := hb3.size
      clear hown hb2 hb
      go_wp2_with (at_builtin; refine wpList_app1 eStr rfl rfl hown2 rfl rfl (by first | rfl | simp) rfl (by omega) (by first | omega | (simp; omega)) ?_; intro v1 w1 hown1 hg1 hk1)
      go_roundw
      case rel => exact ⟨k + 1, by omega, by go_num, by unfold rowKeys; rw [ht.out, List.map_append, List.length_append]; exact hown1, below_grown hb3 hown2 hg1 (Nat.le_refl _) hsz3⟩
      case measure => first | (simp [intOf]; done) | (simp [intOf]; omega)
    · obtain rfl : k = rs.length := by omega
      rw [List.take_of_length_le (by rw [rowKeys_len]; omega), rowKeys_len] at hown
      obtain ⟨X, c1, rfl, hX, _⟩ := own_reads (l := rowKeys rs) (by rw [rowKeys_len]; exact hown) (by rw [rowKeys_len]; have := HMA.out.1; omega)
      have HX := Lib.hid hX
      have hs2 := (hb.block (w.heap.size + 1) (by omega)).trans hS2
      have hr2 := (hb.block (w.heap.size + 1 + 1) (by omega)).trans hR
      have hs1 := (hb.block w.heap.size (by omega)).trans hS1
      have GB2 := Lib.hid (GB.out.below hb)
      have hbw := hbW.trans (hb.mono hbW.size)
      have hlw : w.heap.size + 3 ≤ wr.heap.size := by omega
      clear hX hown hS1 hS2 hR hb hbW GA GB
      go_wp2
      generalize wr = wp at *
      go_loopw [6, 8] (fun v i wr => ∃ k : Nat, k ≤ ts.length ∧ i = .int .i64 k ∧ wr.ownsRow wp.heap.size 9 1 v ((rowKeys ts).take k).length (((rowKeys ts).take k).map vStr) ∧ Below wp.heap.size wp wr) (fun _ i _ => ts.length - (intOf i).toNat)
      case atStart => exact ⟨0, Nat.zero_le _, rfl, World.ownsRow_nil _ _ _ _, Below.refl _ _⟩
      case round =>
        obtain ⟨k, hk, rfl, hown, hb⟩ := hrel
        have hsz := hb.size
        obtain ⟨_, _, x2⟩ := sheet3 ((hb.block (w.heap.size + 1) (by omega)).trans hs2)
        by_cases hlt : k < ts.length
        · have hG := GB2.out.below hb
          obtain ⟨ad, rfl, hc⟩ := hG.top.at_ hlt
          have HR := Lib.hid (hG.row ts[k] (List.getElem_mem _))
          have HS := Lib.hid (HMB.out.2 ts[k] (List.getElem_mem _))
          have ht := Lib.hid (map_snoc (fun r : SRow => keyOf r.l) hlt)
          have hlen : ((rowKeys ts).take k).length ≤ 1000 := by rw [List.length_take, rowKeys_len]; have := HMB.out.1; omega
          clear hG
          generalize ts[k] = r at hc ht HR HS
          obtain ⟨rA, rl, rc⟩ := r
          dsimp only [vRow] at hc HR HS
          go_wp2_with fail
          refine (rkey_any wr rA rl rc HR.out HS.out.1 HS.out.2).mono ?_
          rintro e w2 ⟨rfl, hb2⟩
          have hown2 := own_below hown hb2
          have hb3 := hb.trans (hb2.mono hsz)
          have hsz3 := hb3.size
          clear hown hb2 hb
          go_wp2_with (at_builtin; refine wpList_app1 eStr rfl rfl hown2 rfl rfl (by first | rfl | simp) rfl (by omega) (by first | omega | (simp; omega)) ?_; intro v1 w1 hown1 hg1 hk1)
          go_roundw
          case rel => exact ⟨k + 1, by omega, by go_num, by unfold rowKeys; rw [ht.out, List.map_append, List.length_append]; exact hown1, below_grown hb3 hown2 hg1 (Nat.le_refl _) hsz3⟩
          case measure => first | (simp [intOf]; done) | (simp [intOf]; omega)
        · obtain rfl : k = ts.length := by omega
          rw [List.take_of_length_le (by rw [rowKeys_len]; omega), rowKeys_len] at hown
          obtain ⟨Y, c2, rfl, hY, _⟩ := own_reads (l := rowKeys ts) (by rw [rowKeys_len]; exact hown) (by rw [rowKeys_len]; have := HMB.out.1; omega)
          have HX2 := Lib.hid (HX.out.below hb)
          have HY := Lib.hid hY
          obtain ⟨_, _, y2⟩ := sheet3 ((hb.block w.heap.size (by omega)).trans hs1)
          clear hY hown
          go_wp2_with fail
          refine (rpairs_rd wr X Y (rowKeys rs) (rowKeys ts) _ _ c1 c2 rfl rfl HX2.out HY.out).mono ?_
          rintro e w4 ⟨X4, c4, Y4, d4, rfl, hX4, hY4, _, _, hb4⟩
          have hps : ∀ p ∈ pairsOf (rowKeys rs) (rowKeys ts), p.1 < rs.length ∧ p.2 < ts.length := fun p hp => by have := pairs_lt hp; rw [rowKeys_len, rowKeys_len] at this; exact this
          have hpl := pairsOf_len (rowKeys rs) (rowKeys ts)
          have HP := Lib.hid hps
          have HX4 := Lib.hid hX4
          have HY4 := Lib.hid hY4
          have HRW : Hid (rowsOf (rowKeys rs) (rowKeys ts) = Al.fill (Al.setAll (List.replicate rs.length (-1)) (pairsOf (rowKeys rs) (rowKeys ts))) ts.length 0) := by unfold rowsOf Al.mapOf; rw [rowKeys_len, rowKeys_len]; exact rfl
          have hb5 := hb.trans (hb4.mono hsz)
          obtain ⟨_, _, z2⟩ := sheet3 ((hb5.block w.heap.size (by omega)).trans hs1)
          obtain ⟨_, _, u2⟩ := sheet3 ((hb5.block (w.heap.size + 1) (by omega)).trans hs2)
          generalize pairsOf (rowKeys rs) (rowKeys ts) = ps at *
          have hma := HMA.out.1
          have hmb := HMB.out.1
          clear hps hX4 hY4 x2 y2
          go_wp2_with fail
          refine (mapped_any w4 X4 Y4 ps rs.length ts.length c4 d4 HX4.out HY4.out hma (fun p hp => (HP.out p hp).1) (by omega)).mono ?_
          rintro e w6 ⟨M, cm, rfl, hown6, hb6⟩
          have hfit : Al.Fit 1000000 (Al.setAll (List.replicate rs.length (-1)) ps) := Al.setAll_fit _ _ (fun t ht => by have := List.eq_of_mem_replicate ht; omega) (fun p hp => by have := (HP.out p hp).2; omega)
          have HF := Lib.hid hfit
          have hml : (Al.setAll (List.replicate rs.length (-1)) ps).length = rs.length := by rw [Al.setAll_len, List.length_replicate]
          have HM6 := Lib.hid (At1.of_own hown6 (by rw [hml]; omega))
          generalize Al.setAll (List.replicate rs.length (-1)) ps = ms at *
          clear hfit hown6 z2 u2
          go_wp2_with fail
          refine (rfilled_rd w6 M ms rs.length cm ts.length hml HM6.out hma HF.out (by omega) (by omega)).mono ?_
          rintro e w7 ⟨Z, cz, rfl, hown7, hb7⟩
          have hb8 := hb5.trans ((hb6.mono hb5.size).trans (hb7.mono (Nat.le_trans hb5.size hb6.size)))
          have hrz := (hb8.block (w.heap.size + 1 + 1) (by omega)).trans hr2
          obtain ⟨h0, h1, h2, h3⟩ := zfacts hrz
          go_wp2
          obtain ⟨q0, q1, q2, q3⟩ := RSt.result (M := ts.length) hrz hown7 (hbw.trans (hb8.mono hbw.size)) (by omega)
          refine bodyPost_ret (v := .agg #[.slice Z rs.length cz, .int .i64 ts.length]) ?_ rfl ?_
          · simp [results, Try.f19, go_sem, q0, q1]
          · exact ⟨_, _, rfl, by rw [HRW.out]; exact own_base q2 (by have := hb5.size; have := hb6.size; omega), q3⟩
end Go.Proofs.Ythoccmgfpjfkoaa
