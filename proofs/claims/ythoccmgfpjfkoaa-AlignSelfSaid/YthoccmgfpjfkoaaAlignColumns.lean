/- The walk of align.columns. Written by columnsgen.py. -/
import Derived.Test.YthoccmgfpjfkoaaRRows
namespace Go.Proofs.Ythoccmgfpjfkoaa
open Go.RowKit

set_option maxRecDepth 100000 in
set_option maxHeartbeats 2000000 in
theorem columns_any (w : World) (A : Option Addr) (rs : List SRow) (n c : Nat) (name : ByteArray) (cols : Nat) (X : Option Addr) (is : List Nat) (q d : Nat) (hn : rs.length = n) (hq : is.length = q) (hA : Grid w A rs) (hm : Mild rs) (hw : Wide rs cols) (hX : At1 vInt w X (is.map fun r : Nat => (r : Int))) (hi : ∀ r ∈ is, r < rs.length) (hil : is.length ≤ 1000) (hc : cols ≤ 1000) :
    Calls Try.prog 36 #[.agg #[.string name, .int .i64 cols, .slice A n c], .slice X q d] w fun e w' => ∃ Z e2, e = .returned (.slice Z cols e2) ∧ At1 vStr w' Z (colKeys rs is cols) ∧ Below w.heap.size w w' := by
  subst hn hq
  have HM := Lib.hid hm
  have HW := Lib.hid hw
  have HA := Lib.hid hA
  have HX := Lib.hid hX
  have HI := Lib.hid hi
  have hm1 := hm.1
  clear hA hX hm hw hi
  go_enter Try.func36, Try.ntmps36
  go_wp2
  obtain ⟨W, hW⟩ : ∃ W, W = w.alloc (.cells #[.string name, .int .i64 cols, .slice A rs.length c] 24) := ⟨_, rfl⟩
  have hS : W.heap[w.heap.size]? = some (.cells #[.string name, .int .i64 cols, .slice A rs.length c] 24 (0, 0)) := by rw [hW]; exact heap_alloc_new w _
  have hsW : W.heap.size = w.heap.size + 1 := by rw [hW]; simp
  have hbW : Below w.heap.size w W := by rw [hW]; exact (Below.refl _ _).alloc (Nat.le_refl _) _
  have GA := Lib.hid (HA.out.below hbW)
  have GX := Lib.hid (HX.out.below hbW)
  rw [← hW]
  clear hW HA HX
  go_loopw [5, 6, 7, 9, 12] (fun v _ _ _ i wr => ∃ k : Nat, k ≤ cols ∧ i = .int .i64 k ∧ wr.ownsRow W.heap.size 9 1 v (colKeys rs is k).length ((colKeys rs is k).map vStr) ∧ Below W.heap.size W wr) (fun _ _ _ _ i _ => cols - (intOf i).toNat)
  case atStart => exact ⟨0, Nat.zero_le _, rfl, World.ownsRow_nil _ _ _ _, Below.refl _ _⟩
  case round =>
    obtain ⟨k, hk, rfl, hown, hb⟩ := hrel
    have hsz := hb.size
    have hS1 := (hb.block w.heap.size (by omega)).trans hS
    obtain ⟨_, x1, x2⟩ := sheet3 hS1
    by_cases hlt : k < cols
    · have GX1 := Lib.hid (GX.out.below hb)
      have GA1 := Lib.hid (GA.out.below hb)
      have HO := Lib.hid hown
      have HB := Lib.hid hb
      have HSN := Lib.hid (colKeys_snoc rs is k)
      have HKL := Lib.hid (colKeys_len rs is k)
      clear hown hb x1
      go_wp2
      generalize wr = wo at *
      go_loopw [7, 9, 17] (fun u _ j wi => ∃ t : Nat, t ≤ is.length ∧ j = .int .i64 t ∧ wi.ownsRow wo.heap.size 9 1 u (colTexts rs (is.take t) k).length ((colTexts rs (is.take t) k).map vStr) ∧ Below wo.heap.size wo wi) (fun _ _ j _ => is.length - (intOf j).toNat)
      case atStart => exact ⟨0, Nat.zero_le _, rfl, World.ownsRow_nil _ _ _ _, Below.refl _ _⟩
      case round =>
        clear x2
        obtain ⟨t, ht, rfl, hown, hb⟩ := hrel
        have hsz2 := hb.size
        obtain ⟨_, _, x2⟩ := sheet3 ((hb.block w.heap.size (by omega)).trans hS1)
        by_cases hlt2 : t < is.length
        · have hG := GA1.out.below hb
          obtain ⟨adx, rfl, hcx⟩ := (GX1.out.below hb).at_ (k := t) (by simpa using hlt2)
          rw [List.getElem_map] at hcx
          have hit := HI.out is[t] (List.getElem_mem _)
          have hrow := HW.out rs[is[t]] (List.getElem_mem _)
          obtain ⟨ada, rfl, hca⟩ := hG.top.at_ hit
          obtain ⟨adr, hre, hcr⟩ := (hG.row rs[is[t]] (List.getElem_mem _)).at_ (k := k) (by rw [hrow]; exact hlt)
          have hsn := Lib.hid (colTexts_snoc (rs := rs) (c := k) hlt2)
          rw [cellOf_at hit (by rw [hrow]; exact hlt)] at hsn
          have hcl : (colTexts rs (is.take t) k).length ≤ 1000 := by rw [colTexts_len, List.length_take]; omega
          have hitl : ((is[t] : Nat) : Int) < (rs.length : Int) := by omega
          generalize rs[is[t]].l[k] = s at hcr hsn
          generalize rs[is[t]] = r at hca hre hrow
          obtain ⟨rA, rl, rc⟩ := r
          dsimp only [vRow] at hca hre hrow
          subst hre
          rw [hrow] at hca
          generalize is[t] = it at *
          clear hG hrow
          go_wp2_with (at_builtin; refine wpList_app1 eStr rfl rfl hown rfl rfl (by first | rfl | simp) rfl (by omega) (by first | omega | (simp; omega)) ?_; intro v1 w1 hown1 hg1 hk1)
          go_roundw
          case rel => exact ⟨t + 1, by omega, by go_num, by rw [hsn.out, List.map_append, List.length_append]; exact hown1, below_grown hb hown hg1 (Nat.le_refl _) hsz2⟩
          case measure => first | (simp [intOf]; done) | (simp [intOf]; omega)
        · obtain rfl : t = is.length := by omega
          rw [List.take_length] at hown
          have HCL := Lib.hid (colTexts_len rs is k)
          have HSZ := Lib.hid (colTexts_size HM.out is k)
          obtain ⟨B, d2, rfl, hB, _⟩ := own_reads hown (by have := HCL.out; omega)
          have HB3 := Lib.hid hB
          clear hB hown
          generalize colTexts rs is k = l at *
          go_wp2_with fail
          refine (putList_rd wr B l _ d2 rfl HB3.out (by have := HCL.out; omega) HSZ.out).mono ?_
          rintro e w2 ⟨C, c2, n2, rfl, hcv, hb2⟩
          have hbb := hb.trans (hb2.mono hsz2)
          have hown2 := own_below HO.out hbb
          have hb3 := HB.out.trans (hbb.mono hsz)
          have hsz3 := hb3.size
          clear hb hb2 hbb
          have hkl : (colKeys rs is k).length ≤ 1000 := by have := HKL.out; omega
          generalize colKeys rs is k = ks at *
          go_wp2_with (at_builtin; refine wpList_app1 eStr rfl rfl hown2 rfl rfl (by first | rfl | simp) rfl (by omega) (by first | omega | (simp; omega)) ?_; intro v1 w1 hown1 hg1 hk1)
          go_roundw
          case rel => exact ⟨k + 1, by omega, by go_num, by rw [HSN.out, List.map_append, List.length_append]; exact hown1, below_grown hb3 hown2 hg1 (Nat.le_refl _) hsz3⟩
          case measure => first | (simp [intOf]; done) | (simp [intOf]; omega)
    · obtain rfl : k = cols := by omega
      obtain ⟨Z, e2, rfl, hZ, _⟩ := own_reads hown (by rw [colKeys_len]; omega)
      go_wp2
      go_ret
      exact ⟨Z, e2, by simp [colKeys_len], hZ, hbW.trans (hb.mono hbW.size)⟩
end Go.Proofs.Ythoccmgfpjfkoaa
