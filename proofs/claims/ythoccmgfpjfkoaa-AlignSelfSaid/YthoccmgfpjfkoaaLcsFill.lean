/- The walk of (*lcs.table).fill: the table's rows. -/
import Derived.Test.YthoccmgfpjfkoaaChecked
import Derived.Test.YthoccmgfpjfkoaaMem
import Derived.Test.YthoccmgfpjfkoaaLcsMat
import Derived.WalkSpells
import Derived.WalkLawsBesides
import Derived.Deep.QuietTactic
import Derived.BigQuiet
import Derived.Deep.OwnRows
import Derived.StillTailTactics
import Derived.RegionTactic
import Derived.BigRegion
import Derived.Lib.Hide
namespace Go.Proofs.Ythoccmgfpjfkoaa
open Go.RowKit


/-- the table as it lies in memory -/
def TblAt (w : World) (T : Nat) (A B : Option Addr) (a b : List ByteArray) (ca cb : Nat) (N : Value) : Prop :=
  w.heap[T]? = some (.cells #[.slice A a.length ca, .slice B b.length cb, N] 74 (0, 0))
section
variable {w w' : World} {T : Nat} {A B : Option Addr} {a b : List ByteArray} {ca cb : Nat} {N : Value}
theorem TblAt.c0 (h : TblAt w T A B a b ca cb N) : w.cell? ⟨T, 0, none⟩ = some (.slice A a.length ca) := by unfold TblAt at h; simp [World.cell?, h]
theorem TblAt.c1 (h : TblAt w T A B a b ca cb N) : w.cell? ⟨T, 1, none⟩ = some (.slice B b.length cb) := by unfold TblAt at h; simp [World.cell?, h]
theorem TblAt.c2 (h : TblAt w T A B a b ca cb N) : w.cell? ⟨T, 2, none⟩ = some N := by unfold TblAt at h; simp [World.cell?, h]
theorem TblAt.fr (h : TblAt w T A B a b ca cb N) (i : Nat) : w.frozen? ⟨T, i, none⟩ = false := by unfold TblAt at h; simp [World.frozen?, h]
theorem TblAt.lt (h : TblAt w T A B a b ca cb N) : T < w.heap.size := (Array.getElem?_eq_some_iff.1 h).1
theorem TblAt.of_block (h : TblAt w T A B a b ca cb N) (e : w'.heap[T]? = w.heap[T]?) : TblAt w' T A B a b ca cb N := e.trans h
theorem TblAt.set2 (h : TblAt w T A B a b ca cb N) (v : Value) : TblAt (w.setCell ⟨T, 2, none⟩ v) T A B a b ca cb v := by
  unfold TblAt at *; simp [World.setCell, Array.getElem?_modify, h]
end

/-- what the rows look like while they are made -/
def Rows1 (w : World) (G j n m : Nat) : Prop :=
  w.heap.size = G + 1 + j ∧ w.rowIs G 25 n (fun i => if i < j then .slice (some ⟨G + 1 + i, 0, none⟩) m m else .slice none 0 0) ∧ ∀ i, i < j → w.rowIs (G + 1 + i) 3 m (fun _ => .int .i64 0)
theorem Rows1.next {wr : World} {G j n m : Nat} (h : Rows1 wr G j n m) (_hj : j < n) :
    Rows1 (((wr.setCell ⟨G, j, none⟩ (.slice (some ⟨wr.heap.size, 0, none⟩) m m)).alloc (.cells (madeCells #[.int .i64 0] m) 3)).drew) G (j + 1) n m := by
  obtain ⟨hsz, hG, hR⟩ := h
  have hs : (wr.setCell ⟨G, j, none⟩ (.slice (some ⟨wr.heap.size, 0, none⟩) m m)).heap.size = G + 1 + j := by simp [hsz]
  refine ⟨by show (World.alloc _ _).heap.size = _; simp [hsz]; omega, ?_, fun i hi => ?_⟩
  · refine World.rowIs.drew (World.rowIs.alloc ((hG.set j _).congr fun i _ => ?_) _)
    by_cases e : i = j
    · subst e; rw [if_pos rfl, if_pos (by omega), hsz]
    · rw [if_neg e]
      by_cases e' : i < j
      · rw [if_pos e', if_pos (by omega)]
      · rw [if_neg e', if_neg (by omega)]
  · refine World.rowIs.drew ?_
    by_cases e : i = j
    · subst e
      have := World.rowIs_made (wr.setCell ⟨G, i, none⟩ (.slice (some ⟨wr.heap.size, 0, none⟩) m m)) (.int .i64 0) m 3
      rwa [hs] at this
    · exact ((hR i (by omega)).setOther (by show G + 1 + i ≠ G; omega) _).alloc _
theorem Rows1.done {wr : World} {G n m : Nat} (h : Rows1 wr G n n m) : Mat 25 3 wr G n m (fun i => G + 1 + i) (fun _ _ => 0) :=
  ⟨h.2.1.congr fun i hi => if_pos hi, h.2.2, fun i _ => by omega, fun i j _ _ e => by omega⟩

theorem grown_only {w wr : World} {T : Nat} (h : w.grownBy wr (some T)) {G j : Nat} (v : Value) (o : Obj) (hG : w.heap.size ≤ G) : w.grownBy (((wr.setCell ⟨G, j, none⟩ v).alloc o).drew) (some T) := by
  have h1 : w.grownBy (wr.setCell ⟨G, j, none⟩ v) (some T) := ⟨h.os, h.tape, h.output, by simpa [World.setCell] using h.size, fun i hi hne => (Below.heap_setCell wr _ _ i (by simp only; omega)).trans (h.block i hi hne)⟩
  have h2 := grown_trans' h1 (grown_alloc _ o _)
  exact ⟨h2.os, h2.tape, h2.output, h2.size, h2.block⟩
theorem grown_set {w wr : World} {T : Nat} (h : w.grownBy wr (some T)) {G j : Nat} (v : Value) (hG : w.heap.size ≤ G) : w.grownBy (wr.setCell ⟨G, j, none⟩ v) (some T) :=
  ⟨h.os, h.tape, h.output, by simpa [World.setCell] using h.size, fun i hi hne => (Below.heap_setCell wr _ _ i (by simp only; omega)).trans (h.block i hi hne)⟩
theorem grown_drewN {w wr : World} {row : Option Nat} (h : w.grownBy wr row) (n : Nat) : w.grownBy (wr.drewN n) row := ⟨h.os, h.tape, h.output, h.size, h.block⟩

def FillPost (w : World) (T : Nat) (A B : Option Addr) (a b : List ByteArray) (ca cb : Nat) (e : Ending) (w' : World) : Prop :=
  e = .returned (.tuple #[]) ∧ ∃ G ρ, TblAt w' T A B a b ca cb (.slice (some ⟨G, 0, none⟩) (a.length + 1) (a.length + 1)) ∧
      Mat 25 3 w' G (a.length + 1) (b.length + 1) ρ (fun i k => Lcs.L (a.drop i) (b.drop k)) ∧ w.grownBy w' (some T)

set_option maxRecDepth 100000 in
set_option maxHeartbeats 1000000 in
theorem fill_any (w : World) (T : Nat) (A B : Option Addr) (a b : List ByteArray) (ca cb : Nat) (ha : a.length ≤ 200) (hb : b.length ≤ 200) (hA : At1 vStr w A a) (hB : At1 vStr w B b)
    (hne : 0 < a.length → ∀ ad, A = some ad → ad.block ≠ T) (hne' : 0 < b.length → ∀ ad, B = some ad → ad.block ≠ T) (hT : TblAt w T A B a b ca cb (.slice none 0 0)) :
    Calls Try.prog 51 #[.pointer (some ⟨T, 0, none⟩)] w (FillPost w T A B a b ca cb) := by
  have hTlt := hT.lt
  have t0 := hT.c0
  have t1 := hT.c1
  have t2 := hT.c2
  have tf := hT.fr 2
  have hmk1 := fun W => run_make_row' (P := Try.prog) 72 25 (.slice none 0 0) 24 Try.underlying72 (by kernel_rfl) rfl .i64 .i64 (a.length + 1) (by omega) (by omega) W
  rw [show ((a.length + 1 : Nat) : Int) = (a.length : Int) + 1 from by omega] at hmk1
  have hmk2 := fun W => run_make_row' (P := Try.prog) 25 3 (.int .i64 0) 8 Try.underlying25 (by kernel_rfl) rfl .i64 .i64 (b.length + 1) (by omega) (by omega) W
  rw [show ((b.length + 1 : Nat) : Int) = (b.length : Int) + 1 from by omega] at hmk2
  have hT1 := Lib.hid hT
  clear hT
  go_enter Try.func51, Try.ntmps51
  go_wp2
  obtain ⟨G, hG⟩ : ∃ G, G = w.heap.size := ⟨_, rfl⟩
  have hGT : T < G := by omega
  go_loopw [2, 20] (fun _ i wr => ∃ j : Nat, j ≤ a.length + 1 ∧ i = .int .i64 j ∧ TblAt wr T A B a b ca cb (.slice (some ⟨w.heap.size, 0, none⟩) (a.length + 1) (a.length + 1)) ∧ Rows1 wr w.heap.size j (a.length + 1) (b.length + 1) ∧ w.grownBy wr (some T))
    (fun _ i _ => a.length + 1 - (intOf i).toNat)
  case atStart =>
    have hN := World.rowIs_made (w.setCell ⟨T, 2, none⟩ (.slice (some ⟨w.heap.size, 0, none⟩) (a.length + 1) (a.length + 1))) (.slice none 0 0) (a.length + 1) 25
    simp only [World.size_setCell] at hN
    refine ⟨0, Nat.zero_le _, rfl, (hT1.out.set2 _).of_block (Below.heap_alloc _ _ _ (by simpa using hTlt)), ⟨by simp, hN.congr (fun i _ => by simp), fun i h => absurd h (by omega)⟩, ?_⟩
    refine ⟨rfl, rfl, rfl, by simp, fun i hi hn => (Below.heap_alloc _ _ _ (by simpa using hi)).trans (Below.heap_setCell _ _ _ _ (fun e => hn (by rw [e])))⟩
  case round =>
    obtain ⟨j, hj, rfl, hT', hR, hgr⟩ := hrel
    have t0' := hT'.c0
    have t1' := hT'.c1
    have t2' := hT'.c2
    have hTl := hT'.lt
    have hGl := hR.2.1.lt
    clear t0 t1 t2 tf
    by_cases hlt : j < a.length + 1
    · have gc := hR.2.1.cell hlt
      have gf := hR.2.1.frozen j
      rw [if_neg (by omega)] at gc
      have HT := Lib.hid hT'
      have HR := Lib.hid hR
      have HG := Lib.hid hG
      clear hT' hR hG
      go_wp2
      go_region
      go_wp2
      have R := HR.out.next hlt
      have hg2 := grown_only (j := j) hgr (.slice (some ⟨wr.heap.size, 0, none⟩) (b.length + 1) (b.length + 1)) (.cells (madeCells #[.int .i64 0] (b.length + 1)) 3) (Nat.le_refl w.heap.size)
      go_roundw
      case rel => exact ⟨j + 1, by omega, by go_num, HT.out.of_block ((Below.heap_alloc _ _ _ (by simpa using hTl)).trans (Below.heap_setCell _ _ _ _ (by show T ≠ w.heap.size; have := HG.out; omega))), R, hg2⟩
      case measure => simp [intOf]; omega
    · have hje : j = a.length + 1 := by omega
      have M := (show Rows1 wr w.heap.size (a.length + 1) (a.length + 1) (b.length + 1) by rw [hje] at hR; exact hR).done
      clear hje
      have hρ : ∀ i, w.heap.size ≤ w.heap.size + 1 + i := fun i => by omega
      generalize hr : (fun i => w.heap.size + 1 + i) = ρ at M
      have HR := Lib.hid hr
      have HT := Lib.hid hT'
      have HM := Lib.hid M
      have HG := Lib.hid hG
      clear hR hr hT' M hG
      have hρ2 : ∀ i, w.heap.size ≤ ρ i := fun i => by rw [← HR.out]; exact hρ i
      have hρT : ∀ i, T ≠ ρ i := fun i => by have := hρ2 i; omega
      have HgT := Lib.hid hρT
      have Hg2 := Lib.hid hρ2
      have HAA := Lib.hid hA
      have HBB := Lib.hid hB
      clear hρ hρ2 hρT hA hB
      go_wp2
      clear t0' t1' t2'
      go_loopw [3, 4] (fun i _ wr => ∃ z : Int, -1 ≤ z ∧ z < (a.length : Int) ∧ i = .int .i64 z ∧ TblAt wr T A B a b ca cb (.slice (some ⟨w.heap.size, 0, none⟩) (a.length + 1) (a.length + 1)) ∧ Mat 25 3 wr w.heap.size (a.length + 1) (b.length + 1) ρ (FillTo a b z ((b.length : Int) - 1)) ∧ w.grownBy wr (some T))
        (fun i _ _ => (intOf i + 1).toNat)
      case atStart => exact ⟨(a.length : Int) - 1, by omega, by omega, rfl, HT.out, HM.out.congr fun i k hi _ => (FillTo_start a b i k).symm, hgr⟩
      case round =>
        clear hgr HM HT
        obtain ⟨z, hz0, hz1, rfl, hT', hM, hgr⟩ := hrel
        by_cases hz : 0 ≤ z
        · obtain ⟨i0, rfl⟩ := Int.eq_ofNat_of_zero_le hz
          have t0' := hT'.c0
          have t1' := hT'.c1
          have t2' := hT'.c2
          have HT := Lib.hid hT'
          have HM := Lib.hid hM
          clear hT' hM
          go_wp2
          obtain ⟨wo, rfl⟩ : ∃ wo : World, wo = wr := ⟨_, rfl⟩
          go_loopw [4] (fun k wr => ∃ y : Int, -1 ≤ y ∧ y < (b.length : Int) ∧ k = .int .i64 y ∧ TblAt wr T A B a b ca cb (.slice (some ⟨w.heap.size, 0, none⟩) (a.length + 1) (a.length + 1)) ∧ Mat 25 3 wr w.heap.size (a.length + 1) (b.length + 1) ρ (FillTo a b i0 y) ∧ w.grownBy wr (some T))
            (fun k _ => (intOf k + 1).toNat)
          case atStart => exact ⟨(b.length : Int) - 1, by omega, by omega, rfl, HT.out, HM.out, hgr⟩
          case round =>
            clear hgr HM HT t0' t1' t2'
            obtain ⟨y, hy0, hy1, rfl, hT', hM, hgr⟩ := hrel
            by_cases hy : 0 ≤ y
            · obtain ⟨k0, rfl⟩ := Int.eq_ofNat_of_zero_le hy
              have hi1 : i0 < a.length := by omega
              have hk1 : k0 < b.length := by omega
              have t0' := hT'.c0
              have t1' := hT'.c1
              have t2' := hT'.c2
              have g0 := hM.topAt (i := i0) (by omega)
              have g1 := hM.topAt (i := i0 + 1) (by omega)
              have c1 := hM.at_ (i := i0 + 1) (k := k0) (by omega) (by omega)
              have c2 := hM.at_ (i := i0) (k := k0 + 1) (by omega) (by omega)
              have c3 := hM.at_ (i := i0 + 1) (k := k0 + 1) (by omega) (by omega)
              have c0 := hM.at_ (i := i0) (k := k0) (by omega) (by omega)
              have cf := hM.free (i := i0) (by omega) k0
              obtain ⟨ad, rfl, hca⟩ := HAA.out.at_ hi1
              obtain ⟨bd, rfl, hcb⟩ := HBB.out.at_ hk1
              have HT := Lib.hid hT'
              have HM := Lib.hid hM
              have Hgr := Lib.hid hgr
              clear hT' hM hgr
              have hGne : w.heap.size ≠ ρ i0 := fun e => (HM.out.ne i0 (by omega)) e.symm
              have hTne : T ≠ ρ i0 := HgT.out i0
              have hmax := @run_max2 Try.prog
              have M1 := (HM.out.set_ (i := i0) (by omega) k0 (max (FillTo a b i0 k0 (i0 + 1) k0) (FillTo a b i0 k0 i0 (k0 + 1)))).drew
              have gr1 := grown_drewN (grown_set (j := k0) Hgr.out (.int .i64 (max (FillTo a b i0 k0 (i0 + 1) k0) (FillTo a b i0 k0 i0 (k0 + 1)))) (Hg2.out i0)) 1
              have T1 := HT.out.of_block (w' := (wr.setCell ⟨ρ i0, k0, none⟩ (.int .i64 (max (FillTo a b i0 k0 (i0 + 1) k0) (FillTo a b i0 k0 i0 (k0 + 1))))).drew) (Below.heap_setCell _ _ _ _ hTne)
              have HM1 := Lib.hid M1
              have HG1 := Lib.hid gr1
              have HT1 := Lib.hid T1
              clear M1 gr1 T1
              go_wp2
              go_region
              generalize hW : (World.drew (World.setCell _ _ _)) = w1
              rw [hW] at HM1 HT1
              have HG2 : w.grownBy w1 (some T) := by rw [← hW]; exact HG1.out
              clear HG1 hW t0' t1' t2' g0 g1 c0 c1 c2 c3 cf hmax HM HT Hgr
              have hca1 := HG2.cell hca (fun e => hne (by omega) _ rfl (by injection e with e; rw [block_of_add] at e; exact e))
              have hcb1 := HG2.cell hcb (fun e => hne' (by omega) _ rfl (by injection e with e; rw [block_of_add] at e; exact e))
              clear hca hcb
              have t0' := HT1.out.c0
              have t1' := HT1.out.c1
              have Hg3 := Lib.hid HG2
              clear HG2
              by_cases hab : a[i0] = b[k0]
              · as_aux_lemma =>
                have hst := str_eq_true hab
                have HL := Lib.hid hab
                clear hab
                go_wp2
                go_quiet (fail)
                have t2' := HT1.out.c2
                have g0 := HM1.out.topAt (i := i0) (by omega)
                have g1 := HM1.out.topAt (i := i0 + 1) (by omega)
                have c3 := HM1.out.at_ (i := i0 + 1) (k := k0 + 1) (by omega) (by omega)
                rw [if_neg (by omega)] at c3
                have c0 := HM1.out.at_ (i := i0) (k := k0) (by omega) (by omega)
                have cf := HM1.out.free (i := i0) (by omega) k0
                have hv : FillTo a b i0 k0 (i0 + 1) (k0 + 1) + 1 = Lcs.L (a.drop i0) (b.drop k0) := by
                  rw [Lcs.L_at_eq hi1 hk1 HL.out, FillTo_at (by omega)]; omega
                have hbound : 0 ≤ FillTo a b i0 k0 (i0 + 1) (k0 + 1) ∧ FillTo a b i0 k0 (i0 + 1) (k0 + 1) ≤ 200 := by
                  rw [FillTo_at (by omega)]
                  have := Lcs.L_le_left (a.drop (i0 + 1)) (b.drop (k0 + 1))
                  simp only [List.length_drop] at this
                  omega
                generalize FillTo a b i0 k0 (i0 + 1) (k0 + 1) = x3 at c3 hv hbound
                obtain ⟨hb0, hb1⟩ := hbound
                have HV := Lib.hid hv
                clear hv
                have M2 := Lib.hid ((HM1.out.drewN (nq + 1)).set_ (i := i0) (by omega) k0 (x3 + 1))
                have gr2 := Lib.hid (grown_set (j := k0) (grown_drewN Hg3.out (nq + 1)) (.int .i64 (x3 + 1)) (Hg2.out i0))
                have T2 := Lib.hid (HT1.out.of_block (w' := ((w1.drewN (nq + 1)).setCell ⟨ρ i0, k0, none⟩ (.int .i64 (x3 + 1)))) (Below.heap_setCell _ _ _ _ hTne))
                go_wp2
                go_region
                go_wp2
                go_roundw
                case rel =>
                  exact ⟨(k0 : Int) - 1, by omega, by omega, rfl, T2.out, M2.out.congr fun i k hi hk => FillTo_step2 a b i0 k0 _ _ HV.out i k hi hk, gr2.out⟩
                case measure => first | (simp [intOf]; done) | (simp [intOf]; omega)
              · as_aux_lemma =>
                have hst := str_eq_false hab
                have HL := Lib.hid hab
                clear hab
                go_wp2
                go_quiet (fail)
                go_wp2
                go_roundw
                case rel =>
                  refine ⟨(k0 : Int) - 1, by omega, by omega, rfl, HT1.out, (HM1.out.drewN nq).congr fun i k hi hk => FillTo_step a b i0 k0 _ ?_ i k hi hk, grown_drewN Hg3.out nq⟩
                  rw [Lcs.L_at_ne hi1 hk1 HL.out]
                  rw [FillTo_at (i := i0 + 1) (k := k0) (by omega), FillTo_at (i := i0) (k := k0 + 1) (by omega)]
                  omega
                case measure => first | (simp [intOf]; done) | (simp [intOf]; omega)
            · obtain rfl : y = -1 := by omega
              go_wp2
              go_roundw
              case rel => exact ⟨(i0 : Int) - 1, by omega, by omega, rfl, hT', hM.congr fun i k _ hk => FillTo_row a b i0 i k hk, hgr⟩
              case measure => first | (simp [intOf]; done) | (simp [intOf]; omega)
        · obtain rfl : z = -1 := by omega
          go_wp2
          go_end0
          exact ⟨rfl, _, _, hT', hM.congr fun i k _ _ => FillTo_all a b i k _, hgr⟩
end Go.Proofs.Ythoccmgfpjfkoaa
