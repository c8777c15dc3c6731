/- The walk of chequerref15.Cols. Written by rcolsgen.py. -/
import Derived.Test.YthoccmgfpjfkoaaRAlike
namespace Go.Proofs.Ythoccmgfpjfkoaa
open Go.RowKit

theorem load_str (p : Addr) (v : Value) (W : World) (h : W.cell? p = some v) : (Instr.loadAt 9 (.pointer (some p))).run Try.prog W = .ok v W := by simp [go_sem, h]
theorem alikeB_true {rs ts : List SRow} {ms : List Int} {j : Nat} (h : alikeB (rowKeys rs) (rowKeys ts) ms j = true) : ∃ tk : Nat, ms[j]? = some (tk : Int) ∧ tk < ts.length ∧ (ms.getD j (-1)).toNat = tk := by
  obtain ⟨h0, h1, _⟩ := of_decide_eq_true h
  rw [rowKeys_len] at h1
  refine ⟨(ms.getD j (-1)).toNat, ?_, by omega, rfl⟩
  cases hj : ms[j]? with
  | none => simp [List.getD, hj] at h0
  | some t =>
    rw [getD_of hj] at h0 ⊢
    congr 1
    omega
/-- the rows kept alike: those of the one, those of the other -/
def fromOf (rs ts : List SRow) (ms : List Int) (j : Nat) : List Nat := (keptTo (rowKeys rs) (rowKeys ts) ms j).map Prod.fst
def toOf (rs ts : List SRow) (ms : List Int) (j : Nat) : List Nat := (keptTo (rowKeys rs) (rowKeys ts) ms j).map Prod.snd
theorem fromOf_len (rs ts : List SRow) (ms : List Int) (j : Nat) : (fromOf rs ts ms j).length ≤ j := by unfold fromOf; rw [List.length_map]; exact keptTo_len _ _ _ _
theorem toOf_len (rs ts : List SRow) (ms : List Int) (j : Nat) : (toOf rs ts ms j).length ≤ j := by unfold toOf; rw [List.length_map]; exact keptTo_len _ _ _ _
theorem fromOf_yes {rs ts : List SRow} {ms : List Int} {j : Nat} (h : alikeB (rowKeys rs) (rowKeys ts) ms j = true) : fromOf rs ts ms (j + 1) = fromOf rs ts ms j ++ [j] := by unfold fromOf; rw [keptTo_yes h, List.map_append]; rfl
theorem toOf_yes {rs ts : List SRow} {ms : List Int} {j tk : Nat} (h : alikeB (rowKeys rs) (rowKeys ts) ms j = true) (ht : (ms.getD j (-1)).toNat = tk) : toOf rs ts ms (j + 1) = toOf rs ts ms j ++ [tk] := by unfold toOf; rw [keptTo_yes h, List.map_append, ht]; rfl
theorem fromOf_no {rs ts : List SRow} {ms : List Int} {j : Nat} (h : ¬ alikeB (rowKeys rs) (rowKeys ts) ms j = true) : fromOf rs ts ms (j + 1) = fromOf rs ts ms j := by unfold fromOf; rw [keptTo_no h]
theorem toOf_no {rs ts : List SRow} {ms : List Int} {j : Nat} (h : ¬ alikeB (rowKeys rs) (rowKeys ts) ms j = true) : toOf rs ts ms (j + 1) = toOf rs ts ms j := by unfold toOf; rw [keptTo_no h]

/-- what lies in memory: two sheets, a map -/
structure CSt (p : Nat) (A B M : Option Addr) (rs ts : List SRow) (ms : List Int) (c d cm : Nat) (name name2 : ByteArray) (ca cb : Nat) (N : Int) (W : World) : Prop where
  sa : W.heap[p]? = some (.cells #[.string name, .int .i64 ca, .slice A rs.length c] 24 (0, 0))
  sb : W.heap[p + 1]? = some (.cells #[.string name2, .int .i64 cb, .slice B ts.length d] 24 (0, 0))
  mp : W.heap[p + 1 + 1]? = some (.cells #[.slice M ms.length cm, .int .i64 N] 30 (0, 0))
  ga : Grid W A rs
  gb : Grid W B ts
  gm : At1 vInt W M ms
section
variable {p : Nat} {A B M : Option Addr} {rs ts : List SRow} {ms : List Int} {c d cm : Nat} {name name2 : ByteArray} {ca cb : Nat} {N : Int} {W W' : World}
theorem CSt.keep (h : CSt p A B M rs ts ms c d cm name name2 ca cb N W) (hb : Below W.heap.size W W') : CSt p A B M rs ts ms c d cm name name2 ca cb N W' :=
  ⟨(hb.block _ (Array.getElem?_eq_some_iff.1 h.sa).1).trans h.sa, (hb.block _ (Array.getElem?_eq_some_iff.1 h.sb).1).trans h.sb, (hb.block _ (Array.getElem?_eq_some_iff.1 h.mp).1).trans h.mp, h.ga.below hb, h.gb.below hb, h.gm.below hb⟩
theorem CSt.facts (h : CSt p A B M rs ts ms c d cm name name2 ca cb N W) : W.cell? ⟨p, 0, none⟩ = some (.string name) ∧ W.cell? ⟨p, 1, none⟩ = some (.int .i64 ca) ∧ W.cell? ⟨p, 2, none⟩ = some (.slice A rs.length c) ∧
    W.cell? ⟨p + 1, 0, none⟩ = some (.string name2) ∧ W.cell? ⟨p + 1, 1, none⟩ = some (.int .i64 cb) ∧ W.cell? ⟨p + 1, 2, none⟩ = some (.slice B ts.length d) ∧
    W.cell? ⟨p + 1 + 1, 0, none⟩ = some (.slice M ms.length cm) ∧ W.cell? ⟨p + 1 + 1, 1, none⟩ = some (.int .i64 N) := by
  obtain ⟨a0, a1, a2⟩ := sheet3 h.sa
  obtain ⟨b0, b1, b2⟩ := sheet3 h.sb
  obtain ⟨m0, m1, _⟩ := zfacts h.mp
  exact ⟨a0, a1, a2, b0, b1, b2, m0, m1⟩
theorem CSt.lt (h : CSt p A B M rs ts ms c d cm name name2 ca cb N W) : p < W.heap.size ∧ p + 1 < W.heap.size ∧ p + 1 + 1 < W.heap.size :=
  ⟨(Array.getElem?_eq_some_iff.1 h.sa).1, (Array.getElem?_eq_some_iff.1 h.sb).1, (Array.getElem?_eq_some_iff.1 h.mp).1⟩
end

set_option maxRecDepth 100000 in
set_option maxHeartbeats 4000000 in
theorem rcols_any (w : World) (A B : Option Addr) (rs ts : List SRow) (c d : Nat) (name name2 : ByteArray) (ca cb : Nat) (M : Option Addr) (ms : List Int) (cm : Nat) (N : Int)
    (hA : Grid w A rs) (hB : Grid w B ts) (hma : Mild rs) (hmb : Mild ts) (hwa : Wide rs ca) (hwb : Wide ts cb) (hM : At1 vInt w M ms) (hml : ms.length = rs.length) (hca : ca ≤ 200) (hcb : cb ≤ 200) :
    Calls Try.prog 21 #[.agg #[.string name, .int .i64 ca, .slice A rs.length c], .agg #[.string name2, .int .i64 cb, .slice B ts.length d], .agg #[.slice M ms.length cm, .int .i64 N]] w fun e w' =>
      ∃ Z c2, e = .returned (.agg #[.slice Z ca c2, .int .i64 cb]) ∧ w'.ownsRow w.heap.size 3 1 (.slice Z ca c2) ca ((colsOf rs ts ms ca cb).map vInt) ∧ Below w.heap.size w w' := by
  have HMA := Lib.hid hma
  have HMB := Lib.hid hmb
  have HWA := Lib.hid hwa
  have HWB := Lib.hid hwb
  have HA := Lib.hid hA
  have HB := Lib.hid hB
  have HM := Lib.hid hM
  have hma1 := hma.1
  have HML := Lib.hid hml
  clear hA hB hM hma hmb hml hwa hwb
  go_enter Try.func21, Try.ntmps21
  go_wp2
  obtain ⟨W, hW⟩ : ∃ W, W = ((((w.alloc (.cells #[.string name, .int .i64 ca, .slice A rs.length c] 24)).alloc (.cells #[.string name2, .int .i64 cb, .slice B ts.length d] 24)).alloc (.cells #[.slice M ms.length cm, .int .i64 N] 30)).alloc (.cells #[.slice none 0 0, .int .i64 0] 30)) := ⟨_, rfl⟩
  have hs0 := heap_alloc_new w (.cells #[.string name, .int .i64 ca, .slice A rs.length c] 24)
  have hs1 := heap_alloc_new (w.alloc (.cells #[.string name, .int .i64 ca, .slice A rs.length c] 24)) (.cells #[.string name2, .int .i64 cb, .slice B ts.length d] 24)
  rw [World.size_alloc] at hs1
  have hs2 := heap_alloc_new ((w.alloc (.cells #[.string name, .int .i64 ca, .slice A rs.length c] 24)).alloc (.cells #[.string name2, .int .i64 cb, .slice B ts.length d] 24)) (.cells #[.slice M ms.length cm, .int .i64 N] 30)
  rw [World.size_alloc, World.size_alloc] at hs2
  have hs3 := heap_alloc_new (((w.alloc (.cells #[.string name, .int .i64 ca, .slice A rs.length c] 24)).alloc (.cells #[.string name2, .int .i64 cb, .slice B ts.length d] 24)).alloc (.cells #[.slice M ms.length cm, .int .i64 N] 30)) (.cells #[.slice none 0 0, .int .i64 0] 30)
  rw [World.size_alloc, World.size_alloc, World.size_alloc] at hs3
  have hS0 : W.heap[w.heap.size]? = some (.cells #[.string name, .int .i64 ca, .slice A rs.length c] 24 (0, 0)) := by rw [hW]; exact (Below.heap_alloc _ _ _ (by simp; try omega)).trans ((Below.heap_alloc _ _ _ (by simp; try omega)).trans ((Below.heap_alloc _ _ _ (by simp; try omega)).trans (hs0)))
  have hS1 : W.heap[w.heap.size + 1]? = some (.cells #[.string name2, .int .i64 cb, .slice B ts.length d] 24 (0, 0)) := by rw [hW]; exact (Below.heap_alloc _ _ _ (by simp; try omega)).trans ((Below.heap_alloc _ _ _ (by simp; try omega)).trans (hs1))
  have hS2 : W.heap[w.heap.size + 1 + 1]? = some (.cells #[.slice M ms.length cm, .int .i64 N] 30 (0, 0)) := by rw [hW]; exact (Below.heap_alloc _ _ _ (by simp; try omega)).trans (hs2)
  have hR : W.heap[w.heap.size + 1 + 1 + 1]? = some (.cells #[.slice none 0 0, .int .i64 0] 30 (0, 0)) := by rw [hW]; exact hs3
  have hsW : W.heap.size = w.heap.size + 4 := by rw [hW]; simp
  have hbW : Below w.heap.size w W := by rw [hW]; exact ((((Below.refl _ _).alloc (Nat.le_refl _) _).alloc (by simp; try omega) _).alloc (by simp; try omega) _).alloc (by simp; try omega) _
  rw [← hW]
  clear hW hs0 hs1 hs2 hs3
  have C0 : CSt w.heap.size A B M rs ts ms c d cm name name2 ca cb N W := ⟨hS0, hS1, hS2, HA.out.below hbW, HB.out.below hbW, HM.out.below hbW⟩
  have C0 := Lib.hid C0
  clear hS0 hS1 hS2 HA HB HM
  go_loopw [7, 9, 10, 11] (fun v i _ _ wr => ∃ k : Nat, k ≤ ca ∧ i = .int .i64 k ∧ wr.ownsRow W.heap.size 9 1 v (colKeys rs (fromOf rs ts ms rs.length) k).length ((colKeys rs (fromOf rs ts ms rs.length) k).map vStr) ∧ Below W.heap.size W wr) (fun _ i _ _ _ => ca - (intOf i).toNat)
  case atStart => exact ⟨0, Nat.zero_le _, rfl, World.ownsRow_nil _ _ _ _, Below.refl _ _⟩
  case round =>
    obtain ⟨k, hk, rfl, hown, hb⟩ := hrel
    have hsz := hb.size
    have C1 := C0.out.keep hb
    obtain ⟨a0, a1, a2, b0, b1, b2, m0, m1⟩ := C1.facts
    by_cases hlt : k < ca
    · have HC := Lib.hid C1
      have HO := Lib.hid hown
      have HBB := Lib.hid hb
      have HSN := Lib.hid (colKeys_snoc rs (fromOf rs ts ms rs.length) k)
      have HKL := Lib.hid (colKeys_len rs (fromOf rs ts ms rs.length) k)
      clear hown hb C1
      go_wp2
      generalize wr = wo at *
      clear a0 a1 a2 b0 b1 b2 m0 m1
      go_loopw [10, 11] (fun u j wi => ∃ t : Nat, t ≤ rs.length ∧ j = .int .i64 t ∧ wi.ownsRow wo.heap.size 9 1 u (colTexts rs (fromOf rs ts ms t) k).length ((colTexts rs (fromOf rs ts ms t) k).map vStr) ∧ Below wo.heap.size wo wi) (fun _ j _ => rs.length - (intOf j).toNat)
      case atStart => exact ⟨0, Nat.zero_le _, rfl, World.ownsRow_nil _ _ _ _, Below.refl _ _⟩
      case round =>
        obtain ⟨t, ht, rfl, hown, hb⟩ := hrel
        have hsz2 := hb.size
        have C2 := HC.out.keep hb
        obtain ⟨a0, a1, a2, b0, b1, b2, m0, m1⟩ := C2.facts
        have C2 := Lib.hid C2
        by_cases hlt2 : t < rs.length
        · go_wp2_with fail
          refine (ralike_any wr A B rs ts c d name name2 ca cb M ms cm N t C2.out.ga C2.out.gb HMA.out HMB.out C2.out.gm hlt2 HML.out).mono ?_
          rintro e w3 ⟨rfl, hb3⟩
          have C3 := C2.out.keep hb3
          have hown3 := own_below hown hb3
          have hb4 := hb.trans (hb3.mono hsz2)
          have hsz4 := hb4.size
          clear hown hb hb3 a0 a1 a2 b0 b1 b2 m0 m1 C2
          have hcl : (colTexts rs (fromOf rs ts ms t) k).length ≤ 1000 := by rw [colTexts_len]; have := fromOf_len rs ts ms t; omega
          by_cases hal : alikeB (rowKeys rs) (rowKeys ts) ms t = true
          · obtain ⟨tk, hmt, htk, htz⟩ := alikeB_true hal
            obtain ⟨a0, a1, a2, b0, b1, b2, m0, m1⟩ := C3.facts
            have hsn : Hid (colTexts rs (fromOf rs ts ms (t + 1)) k = colTexts rs (fromOf rs ts ms t) k ++ [cellOf rs t k]) := by rw [fromOf_yes hal, colTexts_app]; exact rfl
            have hrow := HWA.out rs[t] (List.getElem_mem _)
            obtain ⟨ada, hae, hca'⟩ := C3.ga.top.at_ hlt2
            obtain ⟨adr, hre, hcr⟩ := (C3.ga.row rs[t] (List.getElem_mem _)).at_ (k := k) (by rw [hrow]; exact hlt)
            rw [cellOf_at hlt2 (by rw [hrow]; exact hlt)] at hsn
            generalize rs[t].l[k] = s at hcr hsn
            generalize rs[t] = r at hca' hre hrow
            obtain ⟨rA, rl, rc⟩ := r
            dsimp only [vRow] at hca' hre hrow
            subst hre
            rw [hrow] at hca'
            have hC3 := Lib.hid C3
            clear C3 hrow hmt htz
            subst hae
            rw [hal]
            go_wp2_with (at_builtin; refine wpList_app1 eStr rfl rfl hown3 rfl rfl (by first | rfl | simp) rfl (by omega) (by first | omega | (simp; omega)) ?_; intro v1 w1 hown1 hg1 hk1)
            go_roundw
            case rel => exact ⟨t + 1, by omega, by go_num, by rw [hsn.out, List.map_append, List.length_append]; exact hown1, below_grown hb4 hown3 hg1 (Nat.le_refl _) hsz4⟩
            case measure => first | (simp [intOf]; done) | (simp [intOf]; omega)
          · have hno : Hid (colTexts rs (fromOf rs ts ms (t + 1)) k = colTexts rs (fromOf rs ts ms t) k) := by rw [fromOf_no hal]; exact rfl
            rw [Bool.eq_false_iff.2 hal]
            go_wp2
            go_roundw
            case rel => exact ⟨t + 1, by omega, by go_num, by rw [hno.out]; exact hown3, hb4⟩
            case measure => first | (simp [intOf]; done) | (simp [intOf]; omega)
        · obtain rfl : t = rs.length := by omega
          have hcl : (colTexts rs (fromOf rs ts ms rs.length) k).length ≤ 1000 := by rw [colTexts_len]; have := fromOf_len rs ts ms rs.length; omega
          have HSZ := Lib.hid (colTexts_size HMA.out (fromOf rs ts ms rs.length) k)
          obtain ⟨B2, d2, rfl, hB2, _⟩ := own_reads hown (by omega)
          have HB3 := Lib.hid hB2
          clear hB2 hown
          generalize colTexts rs (fromOf rs ts ms rs.length) k = l at *
          go_wp2_with fail
          refine (rputList_rd wr B2 l _ d2 rfl HB3.out hcl HSZ.out).mono ?_
          rintro e w2 ⟨C, c2, n2, rfl, hcv, hb2⟩
          have hbb := hb.trans (hb2.mono hsz2)
          have hown2 := own_below HO.out hbb
          have hb3 := HBB.out.trans (hbb.mono hsz)
          have hsz3 := hb3.size
          clear hb hb2 hbb a0 a1 a2 b0 b1 b2 m0 m1
          have hkl : (colKeys rs (fromOf rs ts ms rs.length) k).length ≤ 1000 := by have := HKL.out; omega
          generalize colKeys rs (fromOf rs ts ms rs.length) k = ks at *
          go_wp2_with (at_builtin; refine wpList_app1 eStr rfl rfl hown2 rfl rfl (by first | rfl | simp) rfl (by omega) (by first | omega | (simp; omega)) ?_; intro v1 w1 hown1 hg1 hk1)
          go_roundw
          case rel => exact ⟨k + 1, by omega, by go_num, by rw [HSN.out, List.map_append, List.length_append]; exact hown1, below_grown hb3 hown2 hg1 (Nat.le_refl _) hsz3⟩
          case measure => first | (simp [intOf]; done) | (simp [intOf]; omega)
    · obtain rfl : ca = k := by omega
      obtain ⟨X, c1, rfl, hX, _⟩ := own_reads hown (by rw [colKeys_len]; omega)
      have HX := Lib.hid hX
      have C1 := Lib.hid C1
      have hR1 := (hb.block (w.heap.size + 1 + 1 + 1) (by omega)).trans hR
      have hbw := hbW.trans (hb.mono hbW.size)
      have hlw : w.heap.size + 4 ≤ wr.heap.size := by omega
      clear hX hown hb hbW hsz hsW hR C0
      go_wp2
      clear a0 a1 a2 b0 b1 b2 m0 m1
      generalize wr = wp at *
      go_loopw [8, 12, 13, 14] (fun v i _ _ wr => ∃ k : Nat, k ≤ cb ∧ i = .int .i64 k ∧ wr.ownsRow wp.heap.size 9 1 v (colKeys ts (toOf rs ts ms rs.length) k).length ((colKeys ts (toOf rs ts ms rs.length) k).map vStr) ∧ Below wp.heap.size wp wr) (fun _ i _ _ _ => cb - (intOf i).toNat)
      case atStart => exact ⟨0, Nat.zero_le _, rfl, World.ownsRow_nil _ _ _ _, Below.refl _ _⟩
      case round =>
        obtain ⟨k, hk, rfl, hown, hb⟩ := hrel
        have hsz := hb.size
        have C1 := C1.out.keep hb
        obtain ⟨a0, a1, a2, b0, b1, b2, m0, m1⟩ := C1.facts
        by_cases hlt : k < cb
        · have HC := Lib.hid C1
          have HO := Lib.hid hown
          have HBB := Lib.hid hb
          have HSN := Lib.hid (colKeys_snoc ts (toOf rs ts ms rs.length) k)
          have HKL := Lib.hid (colKeys_len ts (toOf rs ts ms rs.length) k)
          clear hown hb C1
          go_wp2
          generalize wr = wo at *
          clear a0 a1 a2 b0 b1 b2 m0 m1
          go_loopw [13, 14] (fun u j wi => ∃ t : Nat, t ≤ rs.length ∧ j = .int .i64 t ∧ wi.ownsRow wo.heap.size 9 1 u (colTexts ts (toOf rs ts ms t) k).length ((colTexts ts (toOf rs ts ms t) k).map vStr) ∧ Below wo.heap.size wo wi) (fun _ j _ => rs.length - (intOf j).toNat)
          case atStart => exact ⟨0, Nat.zero_le _, rfl, World.ownsRow_nil _ _ _ _, Below.refl _ _⟩
          case round =>
            obtain ⟨t, ht, rfl, hown, hb⟩ := hrel
            have hsz2 := hb.size
            have C2 := HC.out.keep hb
            obtain ⟨a0, a1, a2, b0, b1, b2, m0, m1⟩ := C2.facts
            have C2 := Lib.hid C2
            by_cases hlt2 : t < rs.length
            · go_wp2_with fail
              refine (ralike_any wr A B rs ts c d name name2 ca cb M ms cm N t C2.out.ga C2.out.gb HMA.out HMB.out C2.out.gm hlt2 HML.out).mono ?_
              rintro e w3 ⟨rfl, hb3⟩
              have C3 := C2.out.keep hb3
              have hown3 := own_below hown hb3
              have hb4 := hb.trans (hb3.mono hsz2)
              have hsz4 := hb4.size
              clear hown hb hb3 a0 a1 a2 b0 b1 b2 m0 m1 C2
              have hcl : (colTexts ts (toOf rs ts ms t) k).length ≤ 1000 := by rw [colTexts_len]; have := toOf_len rs ts ms t; omega
              by_cases hal : alikeB (rowKeys rs) (rowKeys ts) ms t = true
              · obtain ⟨tk, hmt, htk, htz⟩ := alikeB_true hal
                obtain ⟨a0, a1, a2, b0, b1, b2, m0, m1⟩ := C3.facts
                have hsn : Hid (colTexts ts (toOf rs ts ms (t + 1)) k = colTexts ts (toOf rs ts ms t) k ++ [cellOf ts tk k]) := by rw [toOf_yes hal htz, colTexts_app]; exact rfl
                have hrow := HWB.out ts[tk] (List.getElem_mem _)
                obtain ⟨ada, hae, hca'⟩ := C3.gb.top.at_ htk
                obtain ⟨adr, hre, hcr⟩ := (C3.gb.row ts[tk] (List.getElem_mem _)).at_ (k := k) (by rw [hrow]; exact hlt)
                rw [cellOf_at htk (by rw [hrow]; exact hlt)] at hsn
                obtain ⟨adm, hme, hcm⟩ := C3.gm.at_ (k := t) (by rw [HML.out]; exact hlt2)
                rw [show ms[t]'(by rw [HML.out]; exact hlt2) = (tk : Int) from Option.some.inj ((List.getElem?_eq_getElem _).symm.trans hmt)] at hcm
                have htm : (t : Int) < (ms.length : Int) := by rw [HML.out]; omega
                have htkz : (tk : Int) < (ts.length : Int) := by omega
                generalize ts[tk].l[k] = s at hcr hsn
                generalize ts[tk] = r at hca' hre hrow
                obtain ⟨rA, rl, rc⟩ := r
                dsimp only [vRow] at hca' hre hrow
                subst hre
                rw [hrow] at hca'
                have hC3 := Lib.hid C3
                clear C3 hrow hmt htz
                subst hae hme
                rw [hal]
                have hlm : w.heap.size + 1 + 1 < w3.drew.heap.size := hC3.out.lt.2.2
                have hlb : w.heap.size + 1 < w3.drew.heap.size := hC3.out.lt.2.1
                have e1 : (adm.add t).block < w3.drew.heap.size := World.block_lt_of_cell? w3 _ hcm
                have e2 : (ada.add tk).block < w3.drew.heap.size := World.block_lt_of_cell? w3 _ hca'
                have e3 : (adr.add k).block < w3.drew.heap.size := World.block_lt_of_cell? w3 _ hcr
                go_wp2
                refine wp_region_tree [14, 15] (.free 0 (.free 1 (.free 2 (.free 3 (.free 4 (.free 5 (.free 6 (.free 7 (.free 8 (.free 9 (.free 10 (.free 11 (.free 12 (.eff 13 (.last 14 (.last 15 (.nil))))))))))))))))) (by kernel_rfl) (by kernel_rfl) (fun _ _ d _ _ h => by cases d <;> exact h) ?_
                conv => arg 4; whnf
                conv => arg 4; arg 1; whnf
                refine pt_free (by rfl) (fun K hK => ?_)
                go_big_quiet_op
                first | (refine hK _ ?_; clear hK K) | (refine ⟨_, fun _ _ => rfl, hK _ ?_⟩; clear hK K)
                conv => arg 4; whnf
                conv => arg 4; arg 1; whnf
                refine pt_free (by rfl) (fun K hK => ?_)
                go_big_quiet_op
                first | (refine hK _ ?_; clear hK K) | (refine ⟨_, fun _ _ => rfl, hK _ ?_⟩; clear hK K)
                conv => arg 4; whnf
                conv => arg 4; arg 1; whnf
                refine pt_load (fun W h => load_rows _ _ W h) (p := ⟨w.heap.size + 1, 2, none⟩) b2 hlb (by rfl) rfl rfl ?_
                simp only [Act.put, List.setIfInBounds_toArray, List.set_cons_zero, List.set_cons_succ]
                conv => arg 4; whnf
                conv => arg 4; arg 1; whnf
                refine pt_free (by rfl) (fun K hK => ?_)
                go_big_quiet_op
                first | (refine hK _ ?_; clear hK K) | (refine ⟨_, fun _ _ => rfl, hK _ ?_⟩; clear hK K)
                conv => arg 4; whnf
                conv => arg 4; arg 1; whnf
                refine pt_load (fun W h => load_ints _ _ W h) (p := ⟨w.heap.size + 1 + 1, 0, none⟩) m0 hlm (by rfl) rfl rfl ?_
                simp only [Act.put, List.setIfInBounds_toArray, List.set_cons_zero, List.set_cons_succ]
                conv => arg 4; whnf
                conv => arg 4; arg 1; whnf
                refine pt_free (by rfl) (fun K hK => ?_)
                go_big_quiet_op
                first | (refine hK _ ?_; clear hK K) | (refine ⟨_, fun _ _ => rfl, hK _ ?_⟩; clear hK K)
                conv => arg 4; whnf
                conv => arg 4; arg 1; whnf
                refine pt_free (by rfl) (fun K hK => ?_)
                go_big_quiet_op
                first | (refine hK _ ?_; clear hK K) | (refine ⟨_, fun _ _ => rfl, hK _ ?_⟩; clear hK K)
                conv => arg 4; whnf
                conv => arg 4; arg 1; whnf
                refine pt_load (fun W h => load_int _ _ W h) (p := adm.add t) hcm e1 (by rfl) rfl rfl ?_
                simp only [Act.put, List.setIfInBounds_toArray, List.set_cons_zero, List.set_cons_succ]
                conv => arg 4; whnf
                conv => arg 4; arg 1; whnf
                refine pt_free (by rfl) (fun K hK => ?_)
                go_big_quiet_op
                first | (refine hK _ ?_; clear hK K) | (refine ⟨_, fun _ _ => rfl, hK _ ?_⟩; clear hK K)
                conv => arg 4; whnf
                conv => arg 4; arg 1; whnf
                refine pt_load (fun W h => load_strs _ _ W h) (p := ada.add tk) hca' e2 (by rfl) rfl rfl ?_
                simp only [Act.put, List.setIfInBounds_toArray, List.set_cons_zero, List.set_cons_succ]
                conv => arg 4; whnf
                conv => arg 4; arg 1; whnf
                refine pt_free (by rfl) (fun K hK => ?_)
                go_big_quiet_op
                first | (refine hK _ ?_; clear hK K) | (refine ⟨_, fun _ _ => rfl, hK _ ?_⟩; clear hK K)
                conv => arg 4; whnf
                conv => arg 4; arg 1; whnf
                refine pt_free (by rfl) (fun K hK => ?_)
                go_big_quiet_op
                first | (refine hK _ ?_; clear hK K) | (refine ⟨_, fun _ _ => rfl, hK _ ?_⟩; clear hK K)
                conv => arg 4; whnf
                conv => arg 4; arg 1; whnf
                refine pt_load (fun W h => load_str _ _ W h) (p := adr.add k) hcr e3 (by rfl) rfl rfl ?_
                simp only [Act.put, List.setIfInBounds_toArray, List.set_cons_zero, List.set_cons_succ]
                conv => arg 4; whnf
                conv => arg 4; arg 1; whnf
                refine pt_eff (by rfl) (fun K hK => ?_)
                go_wp2
                refine hK _ _ ((Below.refl _ _).alloc (Nat.le_refl _) _) ?_
                clear hK K
                conv => arg 4; whnf
                conv => arg 4; arg 1; whnf
                refine pt_last (by rfl) (fun K hK => ?_)
                refine wp_app1 eStr (by rfl) (own_below hown3 (Below.refl _ _).drew) (by rfl) (by rfl) rfl rfl (by omega) hsz4 (fun v1 w1 hown1 hg1 hk1 => ?_)
                refine hK _ _ ?_
                clear hK K
                simp only [Act.put, List.setIfInBounds_toArray, List.set_cons_zero, List.set_cons_succ]
                conv => arg 4; whnf
                conv => arg 4; arg 1; whnf
                refine pt_last (by rfl) (fun K hK => ?_)
                go_wp2
                refine pt_nil ?_
                go_wp2
                go_roundw
                case rel => exact ⟨t + 1, by omega, by go_num, by rw [hsn.out, List.map_append, List.length_append]; exact hown1, below_grown (w0 := w3.drew) hb4.drew (own_below hown3 (Below.refl _ _).drew) hg1 (Nat.le_refl _) hsz4⟩
                case measure => first | (simp [intOf]; done) | (simp [intOf]; omega)
              · have hno : Hid (colTexts ts (toOf rs ts ms (t + 1)) k = colTexts ts (toOf rs ts ms t) k) := by rw [toOf_no hal]; exact rfl
                rw [Bool.eq_false_iff.2 hal]
                go_wp2
                go_roundw
                case rel => exact ⟨t + 1, by omega, by go_num, by rw [hno.out]; exact hown3, hb4⟩
                case measure => first | (simp [intOf]; done) | (simp [intOf]; omega)
            · obtain rfl : t = rs.length := by omega
              have hcl : (colTexts ts (toOf rs ts ms rs.length) k).length ≤ 1000 := by rw [colTexts_len]; have := toOf_len rs ts ms rs.length; omega
              have HSZ := Lib.hid (colTexts_size HMB.out (toOf rs ts ms rs.length) k)
              obtain ⟨B2, d2, rfl, hB2, _⟩ := own_reads hown (by omega)
              have HB3 := Lib.hid hB2
              clear hB2 hown
              generalize colTexts ts (toOf rs ts ms rs.length) k = l at *
              go_wp2_with fail
              refine (rputList_rd wr B2 l _ d2 rfl HB3.out hcl HSZ.out).mono ?_
              rintro e w2 ⟨C, c2, n2, rfl, hcv, hb2⟩
              have hbb := hb.trans (hb2.mono hsz2)
              have hown2 := own_below HO.out hbb
              have hb3 := HBB.out.trans (hbb.mono hsz)
              have hsz3 := hb3.size
              clear hb hb2 hbb a0 a1 a2 b0 b1 b2 m0 m1
              have hkl : (colKeys ts (toOf rs ts ms rs.length) k).length ≤ 1000 := by have := HKL.out; omega
              generalize colKeys ts (toOf rs ts ms rs.length) k = ks at *
              go_wp2_with (at_builtin; refine wpList_app1 eStr rfl rfl hown2 rfl rfl (by first | rfl | simp) rfl (by omega) (by first | omega | (simp; omega)) ?_; intro v1 w1 hown1 hg1 hk1)
              go_roundw
              case rel => exact ⟨k + 1, by omega, by go_num, by rw [HSN.out, List.map_append, List.length_append]; exact hown1, below_grown hb3 hown2 hg1 (Nat.le_refl _) hsz3⟩
              case measure => first | (simp [intOf]; done) | (simp [intOf]; omega)
        · obtain rfl : cb = k := by omega
          obtain ⟨Y, c2, rfl, hY, _⟩ := own_reads hown (by rw [colKeys_len]; omega)
          have HX2 := Lib.hid (HX.out.below hb)
          have HY := Lib.hid hY
          have C1 := Lib.hid C1
          clear hY hown
          have HPQ : Hid (colsOf rs ts ms ca cb = rowsOf (colKeys rs (fromOf rs ts ms rs.length) ca) (colKeys ts (toOf rs ts ms rs.length) cb)) := rfl
          have HL1 := Lib.hid (colKeys_len rs (fromOf rs ts ms rs.length) ca)
          have HL2 := Lib.hid (colKeys_len ts (toOf rs ts ms rs.length) cb)
          generalize colKeys rs (fromOf rs ts ms rs.length) ca = ka at *
          generalize colKeys ts (toOf rs ts ms rs.length) cb = kb at *
          go_wp2_with fail
          refine (rpairs_rd wr X Y ka kb _ _ c1 c2 rfl rfl HX2.out HY.out).mono ?_
          rintro e w4 ⟨X4, c4, Y4, d4, rfl, hX4, hY4, _, _, hb4⟩
          clear a0 a1 a2 b0 b1 b2 m0 m1
          have hps : ∀ p ∈ pairsOf ka kb, p.1 < ca ∧ p.2 < cb := fun p hp => by have := pairs_lt hp; rw [HL1.out, HL2.out] at this; exact this
          have hpl := pairsOf_len ka kb
          have HP := Lib.hid hps
          have HX4 := Lib.hid hX4
          have HY4 := Lib.hid hY4
          have HRW : Hid (rowsOf ka kb = Al.fill (Al.setAll (List.replicate ca (-1)) (pairsOf ka kb)) cb 0) := by unfold rowsOf Al.mapOf; rw [HL1.out, HL2.out]; exact rfl
          have hb5 := hb.trans (hb4.mono hsz)
          obtain ⟨a0, a1, a2, b0, b1, b2, m0, m1⟩ := (C1.out.keep hb4).facts
          generalize pairsOf ka kb = ps at *
          clear hps hX4 hY4
          go_wp2_with fail
          refine (mapped_any w4 X4 Y4 ps ca cb c4 d4 HX4.out HY4.out (by omega) (fun p hp => (HP.out p hp).1) (by omega)).mono ?_
          rintro e w6 ⟨M6, cm6, rfl, hown6, hb6⟩
          have hfit : Al.Fit 1000000 (Al.setAll (List.replicate ca (-1)) ps) := Al.setAll_fit _ _ (fun t ht => by have := List.eq_of_mem_replicate ht; omega) (fun p hp => by have := (HP.out p hp).2; omega)
          have HF := Lib.hid hfit
          have hml2 : (Al.setAll (List.replicate ca (-1)) ps).length = ca := by rw [Al.setAll_len, List.length_replicate]
          have HM6 := Lib.hid (At1.of_own hown6 (by rw [hml2]; omega))
          generalize Al.setAll (List.replicate ca (-1)) ps = mz at *
          clear hfit hown6 a0 a1 a2 b0 b1 b2 m0 m1
          have HML2 := Lib.hid hml2
          clear hml2
          go_wp2_with fail
          refine (rfilled_rd w6 M6 mz ca cm6 cb HML2.out HM6.out (by omega) HF.out (by omega) (by omega)).mono ?_
          rintro e w7 ⟨Z, cz, rfl, hown7, hb7⟩
          have hb8 := hb5.trans ((hb6.mono hb5.size).trans (hb7.mono (Nat.le_trans hb5.size hb6.size)))
          have hrz := (hb8.block (w.heap.size + 1 + 1 + 1) (by omega)).trans hR1
          obtain ⟨h0, h1, h2, h3⟩ := zfacts hrz
          go_wp2
          obtain ⟨q0, q1, q2, q3⟩ := RSt.result (M := cb) hrz hown7 (hbw.trans (hb8.mono hbw.size)) (by omega)
          refine bodyPost_ret (v := .agg #[.slice Z ca cz, .int .i64 cb]) ?_ rfl ?_
          · simp [results, Try.f21, go_sem, q0, q1]
          · exact ⟨_, _, rfl, by rw [HPQ.out, HRW.out]; exact own_base q2 (by have := hb5.size; have := hb6.size; omega), q3⟩
end Go.Proofs.Ythoccmgfpjfkoaa
