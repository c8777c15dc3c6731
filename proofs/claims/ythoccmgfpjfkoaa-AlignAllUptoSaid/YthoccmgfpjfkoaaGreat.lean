/- The walk of chequerlaw10.Great. Written by greatgen.py. -/
import Derived.Test.YthoccmgfpjfkoaaSameShift
namespace Go.Proofs.Ythoccmgfpjfkoaa
open Go.RowKit

def FineTo (l : List SRow) (n : Int) : Prop := ∀ r ∈ l, r.l.length ≤ 60 ∧ ∀ s ∈ r.l, (s.size : Int) ≤ n
theorem FineTo.mono {l : List SRow} {n m : Int} (h : FineTo l n) (hn : n ≤ m) : FineTo l m := fun r hr => ⟨(h r hr).1, fun s hs => Int.le_trans ((h r hr).2 s hs) hn⟩
def Fine (rs : List SRow) : Prop := rs.length ≤ 60 ∧ ∀ r ∈ rs, r.l.length ≤ 60 ∧ ∀ s ∈ r.l, s.size ≤ 3000
theorem Fine.mild {rs : List SRow} (h : Fine rs) : Mild rs := ⟨by have := h.1; omega, fun r hr => ⟨by have := (h.2 r hr).1; omega, fun s hs => by have := (h.2 r hr).2 s hs; omega⟩⟩
def Small (rs : List SRow) : Prop := ∀ r ∈ rs, ∀ s ∈ r.l, s.size ≤ 1048576
def GreatPost (w : World) (rs ts : List SRow) (e : Ending) (w' : World) : Prop := ∃ b, e = .returned (.bool b) ∧ (b = false → Fine rs ∧ Fine ts) ∧ Below w.heap.size w w'

set_option maxRecDepth 100000 in
set_option maxHeartbeats 4000000 in
theorem great_any (w : World) (G : Nat) (A B : Option Addr) (rs ts : List SRow) (c d : Nat) (name name2 : ByteArray) (ca cb : Int)
    (hG : w.heap[G]? = some (.cells #[.string name, .int .i64 ca, .slice A rs.length c, .string name2, .int .i64 cb, .slice B ts.length d] 24 (0, 0))) (hA : Grid w A rs) (hB : Grid w B ts) (hra : Small rs) (hrb : Small ts) :
    Calls Try.prog 12 #[.agg #[.slice (some ⟨G, 0, none⟩) 2 2]] w (GreatPost w rs ts) := by
  have HRA := Lib.hid hra
  have HRB := Lib.hid hrb
  have HA := Lib.hid hA
  have HB := Lib.hid hB
  have HG := Lib.hid hG
  clear hA hB hra hrb hG
  go_enter Try.func12, Try.ntmps12
  go_wp2
  obtain ⟨W, hW⟩ : ∃ W, W = w.alloc (.cells #[.slice (some ⟨G, 0, none⟩) 2 2] 37) := ⟨_, rfl⟩
  have hS : W.heap[w.heap.size]? = some (.cells #[.slice (some ⟨G, 0, none⟩) 2 2] 37 (0, 0)) := by rw [hW]; exact heap_alloc_new w _
  have hbW : Below w.heap.size w W := by rw [hW]; exact (Below.refl _ _).alloc (Nat.le_refl _) _
  have hGl := (Array.getElem?_eq_some_iff.1 HG.out).1
  obtain ⟨g0, _, g2, g3, _, g5, _⟩ := shift6 ((hbW.block G hGl).trans HG.out)
  have p0 : W.cell? ⟨w.heap.size, 0, none⟩ = some (.slice (some ⟨G, 0, none⟩) 2 2) := by simp [World.cell?, hS]
  have GA := Lib.hid (HA.out.below hbW)
  have GB := Lib.hid (HB.out.below hbW)
  have HBW := Lib.hid hbW
  rw [← hW]
  clear hW HA HB hS HG hGl hbW
  go_loopw [3, 4, 5, 6] (fun n i _ _ wr => ∃ (k : Nat) (m : Int), k ≤ 2 ∧ i = .int .i64 k ∧ n = .int .i64 m ∧ 0 ≤ m ∧ m ≤ 4000000000 * (k : Int) ∧ Hid (0 < k → rs.length ≤ 60 ∧ FineTo rs m) ∧ Hid (1 < k → ts.length ≤ 60 ∧ FineTo ts m) ∧ W = wr) (fun _ i _ _ _ => 2 - (intOf i).toNat)
  case atStart => exact ⟨0, 0, by omega, rfl, rfl, by omega, by omega, fun h => absurd h (by omega), fun h => absurd h (by omega), rfl⟩
  case round =>
    obtain ⟨k, m, hk, rfl, rfl, hm0, hm1, HF1, HF2, rfl⟩ := hrel
    rcases (show k = 0 ∨ k = 1 ∨ k = 2 by omega) with rfl | rfl | rfl
    · as_aux_lemma =>
      by_cases h60 : 60 < rs.length
      · have h60z : (60 : Int) < (rs.length : Int) := by omega
        go_wp2
        go_ret
        exact ⟨true, rfl, by simp, HBW.out⟩
      by_cases h100 : 100 < name.size
      · have h100z : (100 : Int) < (name.size : Int) := by omega
        go_wp2
        go_ret
        exact ⟨true, rfl, by simp, HBW.out⟩
      go_wp2
      go_loopw [3, 5, 6] (fun n r _ wr => ∃ (k : Nat) (m' : Int), k ≤ rs.length ∧ r = .int .i64 k ∧ n = .int .i64 m' ∧ m ≤ m' ∧ m' ≤ m + 63000000 * (k : Int) ∧ Hid (FineTo (rs.take k) m') ∧ W = wr) (fun _ r _ _ => rs.length - (intOf r).toNat)
      case atStart => exact ⟨0, m, by omega, rfl, rfl, by omega, by omega, fun r hr => by simp at hr, rfl⟩
      case round =>
        obtain ⟨k, m', hk, rfl, rfl, hm2, hm3, HF, rfl⟩ := hrel
        by_cases hlt : k < rs.length
        · obtain ⟨ad, hae, hc⟩ := GA.out.top.at_ hlt
          subst hae
          have hrow := GA.out.row rs[k] (List.getElem_mem _)
          have hsz := HRA.out rs[k] (List.getElem_mem _)
          have hsn : Hid (rs.take (k + 1) = rs.take k ++ [rs[k]]) := take_snoc hlt
          have hkz : (k : Int) < (rs.length : Int) := by omega
          generalize rs[k] = r at hc hrow hsz hsn
          obtain ⟨rA, rl, rc⟩ := r
          dsimp only [vRow] at hc hrow hsz
          have HROW := Lib.hid hrow
          have HSZ := Lib.hid hsz
          clear hrow hsz
          by_cases h61 : 60 < rl.length
          · have h61z : (60 : Int) < (rl.length : Int) := by omega
            go_wp2
            go_ret
            exact ⟨true, rfl, by simp, HBW.out⟩
          · go_wp2
            go_loopw [3, 6] (fun n cc wr => ∃ (j : Nat) (m2 : Int), j ≤ rl.length ∧ cc = .int .i64 j ∧ n = .int .i64 m2 ∧ m' ≤ m2 ∧ m2 ≤ m' + 1048578 * (j : Int) ∧ Hid (∀ s ∈ rl.take j, (s.size : Int) ≤ m2) ∧ W = wr) (fun _ cc _ => rl.length - (intOf cc).toNat)
            case atStart => exact ⟨0, m', by omega, rfl, rfl, by omega, by omega, fun s hs => by simp at hs, rfl⟩
            case round =>
              obtain ⟨j, m2, hj, rfl, rfl, hm4, hm5, HJ, rfl⟩ := hrel
              by_cases hlj : j < rl.length
              · obtain ⟨ad2, hae2, hc2⟩ := HROW.out.at_ hlj
                subst hae2
                have hsj := HSZ.out rl[j] (List.getElem_mem _)
                have hsn2 : Hid (rl.take (j + 1) = rl.take j ++ [rl[j]]) := take_snoc hlj
                have hjz : (j : Int) < (rl.length : Int) := by omega
                generalize rl[j] = s at hc2 hsj hsn2
                go_wp2
                go_roundw
                case rel =>
                  refine ⟨j + 1, m2 + 2 + (s.size : Int), by omega, by go_num, by go_num, by omega, by omega, ?_, by first | rfl | trivial⟩
                  intro u hu
                  rw [hsn2.out] at hu
                  rcases List.mem_append.1 hu with hu | hu
                  · have := HJ.out u hu; omega
                  · rw [List.mem_singleton] at hu; subst hu; omega
                case measure => first | (simp [intOf]; done) | (simp [intOf]; omega)
              · obtain rfl : j = rl.length := by omega
                rw [List.take_length] at HJ
                go_wp2
                go_roundw
                case rel =>
                  refine ⟨k + 1, m2, by omega, by go_num, rfl, by omega, by omega, ?_, by first | rfl | trivial⟩
                  intro u hu
                  rw [hsn.out] at hu
                  rcases List.mem_append.1 hu with hu | hu
                  · exact HF.out.mono hm4 u hu
                  · rw [List.mem_singleton] at hu; subst hu; exact ⟨by show rl.length ≤ 60; omega, HJ.out⟩
                case measure => first | (simp [intOf]; done) | (simp [intOf]; omega)
        · obtain rfl : k = rs.length := by omega
          rw [List.take_length] at HF
          go_wp2
          go_roundw
          case rel => exact ⟨1, m', by omega, by go_num, rfl, by omega, by omega, fun _ => ⟨by omega, HF.out⟩, fun h => absurd h (by omega), by first | rfl | trivial⟩
          case measure => first | (simp [intOf]; done) | (simp [intOf]; omega)
    · as_aux_lemma =>
      by_cases h60 : 60 < ts.length
      · have h60z : (60 : Int) < (ts.length : Int) := by omega
        go_wp2
        go_ret
        exact ⟨true, rfl, by simp, HBW.out⟩
      by_cases h100 : 100 < name2.size
      · have h100z : (100 : Int) < (name2.size : Int) := by omega
        go_wp2
        go_ret
        exact ⟨true, rfl, by simp, HBW.out⟩
      go_wp2
      go_loopw [3, 5, 6] (fun n r _ wr => ∃ (k : Nat) (m' : Int), k ≤ ts.length ∧ r = .int .i64 k ∧ n = .int .i64 m' ∧ m ≤ m' ∧ m' ≤ m + 63000000 * (k : Int) ∧ Hid (FineTo (ts.take k) m') ∧ W = wr) (fun _ r _ _ => ts.length - (intOf r).toNat)
      case atStart => exact ⟨0, m, by omega, rfl, rfl, by omega, by omega, fun r hr => by simp at hr, rfl⟩
      case round =>
        obtain ⟨k, m', hk, rfl, rfl, hm2, hm3, HF, rfl⟩ := hrel
        by_cases hlt : k < ts.length
        · obtain ⟨ad, hae, hc⟩ := GB.out.top.at_ hlt
          subst hae
          have hrow := GB.out.row ts[k] (List.getElem_mem _)
          have hsz := HRB.out ts[k] (List.getElem_mem _)
          have hsn : Hid (ts.take (k + 1) = ts.take k ++ [ts[k]]) := take_snoc hlt
          have hkz : (k : Int) < (ts.length : Int) := by omega
          generalize ts[k] = r at hc hrow hsz hsn
          obtain ⟨rA, rl, rc⟩ := r
          dsimp only [vRow] at hc hrow hsz
          have HROW := Lib.hid hrow
          have HSZ := Lib.hid hsz
          clear hrow hsz
          by_cases h61 : 60 < rl.length
          · have h61z : (60 : Int) < (rl.length : Int) := by omega
            go_wp2
            go_ret
            exact ⟨true, rfl, by simp, HBW.out⟩
          · go_wp2
            go_loopw [3, 6] (fun n cc wr => ∃ (j : Nat) (m2 : Int), j ≤ rl.length ∧ cc = .int .i64 j ∧ n = .int .i64 m2 ∧ m' ≤ m2 ∧ m2 ≤ m' + 1048578 * (j : Int) ∧ Hid (∀ s ∈ rl.take j, (s.size : Int) ≤ m2) ∧ W = wr) (fun _ cc _ => rl.length - (intOf cc).toNat)
            case atStart => exact ⟨0, m', by omega, rfl, rfl, by omega, by omega, fun s hs => by simp at hs, rfl⟩
            case round =>
              obtain ⟨j, m2, hj, rfl, rfl, hm4, hm5, HJ, rfl⟩ := hrel
              by_cases hlj : j < rl.length
              · obtain ⟨ad2, hae2, hc2⟩ := HROW.out.at_ hlj
                subst hae2
                have hsj := HSZ.out rl[j] (List.getElem_mem _)
                have hsn2 : Hid (rl.take (j + 1) = rl.take j ++ [rl[j]]) := take_snoc hlj
                have hjz : (j : Int) < (rl.length : Int) := by omega
                generalize rl[j] = s at hc2 hsj hsn2
                go_wp2
                go_roundw
                case rel =>
                  refine ⟨j + 1, m2 + 2 + (s.size : Int), by omega, by go_num, by go_num, by omega, by omega, ?_, by first | rfl | trivial⟩
                  intro u hu
                  rw [hsn2.out] at hu
                  rcases List.mem_append.1 hu with hu | hu
                  · have := HJ.out u hu; omega
                  · rw [List.mem_singleton] at hu; subst hu; omega
                case measure => first | (simp [intOf]; done) | (simp [intOf]; omega)
              · obtain rfl : j = rl.length := by omega
                rw [List.take_length] at HJ
                go_wp2
                go_roundw
                case rel =>
                  refine ⟨k + 1, m2, by omega, by go_num, rfl, by omega, by omega, ?_, by first | rfl | trivial⟩
                  intro u hu
                  rw [hsn.out] at hu
                  rcases List.mem_append.1 hu with hu | hu
                  · exact HF.out.mono hm4 u hu
                  · rw [List.mem_singleton] at hu; subst hu; exact ⟨by show rl.length ≤ 60; omega, HJ.out⟩
                case measure => first | (simp [intOf]; done) | (simp [intOf]; omega)
        · obtain rfl : k = ts.length := by omega
          rw [List.take_length] at HF
          go_wp2
          go_roundw
          case rel => exact ⟨2, m', by omega, by go_num, rfl, by omega, by omega, fun _ => ⟨(HF1.out (by omega)).1, (HF1.out (by omega)).2.mono hm2⟩, fun _ => ⟨by omega, HF.out⟩, by first | rfl | trivial⟩
          case measure => first | (simp [intOf]; done) | (simp [intOf]; omega)
    · as_aux_lemma =>
      obtain ⟨f1, f2⟩ := HF1.out (by omega)
      obtain ⟨f3, f4⟩ := HF2.out (by omega)
      have HFF := Lib.hid f2
      have HFG := Lib.hid f4
      clear f2 f4 HF1 HF2
      by_cases hn : 3000 < m
      · go_wp2
        go_ret
        exact ⟨true, rfl, by simp, HBW.out⟩
      · go_wp2
        go_ret
        exact ⟨false, rfl, fun _ => ⟨⟨f1, fun r hr => ⟨(HFF.out r hr).1, fun s hs => by have := (HFF.out r hr).2 s hs; omega⟩⟩, ⟨f3, fun r hr => ⟨(HFG.out r hr).1, fun s hs => by have := (HFG.out r hr).2 s hs; omega⟩⟩⟩, HBW.out⟩
end Go.Proofs.Ythoccmgfpjfkoaa
