/- chequerref15.table, Long, Pairs: the document's. -/
import Derived.Test.YthoccmgfpjfkoaaLcsB
namespace Go.Proofs.Ythoccmgfpjfkoaa
open Go.RowKit

/-- Of a table only the rows from 'lo' on have been made. -/
structure MatFrom (t1 t2 : TypeId) (w : World) (G n m : Nat) (ρ : Nat → Nat) (lo : Nat) (f : Nat → Nat → Int) : Prop where
  top : w.rowIs G t1 n (fun i => if lo ≤ i then .slice (some ⟨ρ i, 0, none⟩) m m else .slice none 0 0)
  rows : ∀ i, lo ≤ i → i < n → w.rowIs (ρ i) t2 m (fun k => .int .i64 (f i k))
  ne : ∀ i, i < n → ρ i ≠ G
  inj : ∀ i j, i < n → j < n → ρ i = ρ j → i = j

namespace MatFrom
variable {t1 t2 : TypeId} {w w' : World} {G n m lo : Nat} {ρ : Nat → Nat} {f g : Nat → Nat → Int}
theorem topAt (h : MatFrom t1 t2 w G n m ρ lo f) {i : Nat} (hl : lo ≤ i) (hi : i < n) : w.cell? ⟨G, i, none⟩ = some (.slice (some ⟨ρ i, 0, none⟩) m m) := by
  have := h.top.cell hi
  rwa [if_pos hl] at this
theorem at_ (h : MatFrom t1 t2 w G n m ρ lo f) {i k : Nat} (hl : lo ≤ i) (hi : i < n) (hk : k < m) : w.cell? ⟨ρ i, k, none⟩ = some (.int .i64 (f i k)) := (h.rows i hl hi).cell hk
theorem free (h : MatFrom t1 t2 w G n m ρ lo f) {i : Nat} (hl : lo ≤ i) (hi : i < n) (k : Nat) : w.frozen? ⟨ρ i, k, none⟩ = false := (h.rows i hl hi).frozen k
theorem congr (h : MatFrom t1 t2 w G n m ρ lo f) (e : ∀ i k, lo ≤ i → i < n → k < m → f i k = g i k) : MatFrom t1 t2 w G n m ρ lo g :=
  ⟨h.top, fun i hl hi => (h.rows i hl hi).congr fun k hk => by rw [e i k hl hi hk], h.ne, h.inj⟩
theorem drewN (h : MatFrom t1 t2 w G n m ρ lo f) (k : Nat) : MatFrom t1 t2 (w.drewN k) G n m ρ lo f := ⟨h.top, h.rows, h.ne, h.inj⟩
theorem set_ (h : MatFrom t1 t2 w G n m ρ lo f) {i : Nat} (hl : lo ≤ i) (hi : i < n) (k : Nat) (x : Int) :
    MatFrom t1 t2 (w.setCell ⟨ρ i, k, none⟩ (.int .i64 x)) G n m ρ lo (fun i' k' => if i' = i ∧ k' = k then x else f i' k') := by
  refine ⟨h.top.setOther (fun e => h.ne i hi e.symm) _, fun j hlj hj => ?_, h.ne, h.inj⟩
  by_cases e : j = i
  · subst e
    refine ((h.rows j hl hj).set k (.int .i64 x)).congr fun k' _ => ?_
    by_cases e' : k' = k
    · subst e'; simp
    · simp [e']
  · refine ((h.rows j hlj hj).setOther (fun e' => e (h.inj j i hj hi e')) _).congr fun k' _ => ?_
    simp [e]
/-- one row more -/
theorem next (h : MatFrom t1 t2 w G n m ρ (lo + 1) f) (hlo : lo < n) (hs : w.heap.size = ρ lo) (hg : ∀ i k, i < n → k < m → g i k = if i = lo then 0 else f i k) :
    MatFrom t1 t2 ((w.setCell ⟨G, lo, none⟩ (.slice (some ⟨w.heap.size, 0, none⟩) m m)).alloc (.cells (madeCells #[.int .i64 0] m) t2)) G n m ρ lo g := by
  refine ⟨World.rowIs.alloc ((h.top.set lo _).congr fun i _ => ?_) _, fun i hl hi => ?_, h.ne, h.inj⟩
  · by_cases e : i = lo
    · subst e; rw [if_pos rfl, if_pos (Nat.le_refl _), hs]
    · rw [if_neg e]
      by_cases e' : lo + 1 ≤ i
      · rw [if_pos e', if_pos (by omega)]
      · rw [if_neg e', if_neg (by omega)]
  · by_cases e : i = lo
    · subst e
      have := World.rowIs_made (w.setCell ⟨G, i, none⟩ (.slice (some ⟨w.heap.size, 0, none⟩) m m)) (.int .i64 0) m t2
      rw [World.size_setCell, hs] at this
      rw [hs]
      exact this.congr fun k hk => by rw [hg i k hi hk, if_pos rfl]
    · refine World.rowIs.alloc (((h.rows i (by omega) hi).setOther (h.ne i hi) _).congr fun k hk => ?_) _
      rw [hg i k hi hk, if_neg e]
theorem done (h : MatFrom t1 t2 w G n m ρ 0 f) : Mat t1 t2 w G n m ρ f :=
  ⟨h.top.congr fun i _ => if_pos (Nat.zero_le i), fun i hi => h.rows i (Nat.zero_le i) hi, h.ne, h.inj⟩
end MatFrom

theorem FillTo_new (a b : List ByteArray) (i0 i k : Nat) (_hi : i < a.length + 1) (_hk : k < b.length + 1) : FillTo a b i0 ((b.length : Int) - 1) i k = if i = i0 then 0 else FillTo a b i0 ((b.length : Int) - 1) i k := by
  split
  · rename_i e
    subst e
    unfold FillTo
    split
    · rw [Lcs.L_at_end (by omega)]; rfl
    · rfl
  · rfl
theorem FillTo_last (a b : List ByteArray) (i k : Nat) (_hi : i < a.length + 1) (_hk : k < b.length + 1) : FillTo a b a.length ((b.length : Int) - 1) i k = FillTo a b ((a.length : Int) - 1) ((b.length : Int) - 1) i k := by
  unfold FillTo
  split
  · rw [if_pos (by omega)]
  · split
    · rw [Lcs.L_at_end (by omega)]; rfl
    · rfl

def TablePost (w : World) (a b : List ByteArray) (e : Ending) (w' : World) : Prop :=
  ∃ G ρ, e = .returned (.slice (some ⟨G, 0, none⟩) (a.length + 1) (a.length + 1)) ∧ Mat 25 3 w' G (a.length + 1) (b.length + 1) ρ (fun i k => Lcs.L (a.drop i) (b.drop k)) ∧ Below w.heap.size w w'

set_option maxRecDepth 100000 in
set_option maxHeartbeats 1000000 in
theorem table_any (w : World) (A B : Option Addr) (a b : List ByteArray) (ca cb : Nat) (ha : a.length ≤ 200) (hb : b.length ≤ 200) (hA : At1 vStr w A a) (hB : At1 vStr w B b) :
    Calls Try.prog 47 #[.slice A a.length ca, .slice B b.length cb] w (TablePost w a b) := by
  have hmk1 := fun W => run_make_row' (P := Try.prog) 72 25 (.slice none 0 0) 24 Try.underlying72 (by kernel_rfl) rfl .i64 .i64 (a.length + 1) (by omega) (by omega) W
  rw [show ((a.length + 1 : Nat) : Int) = (a.length : Int) + 1 from by omega] at hmk1
  have hmk2 := fun W => run_make_row' (P := Try.prog) 25 3 (.int .i64 0) 8 Try.underlying25 (by kernel_rfl) rfl .i64 .i64 (b.length + 1) (by omega) (by omega) W
  rw [show ((b.length + 1 : Nat) : Int) = (b.length : Int) + 1 from by omega] at hmk2
  go_enter Try.func47, Try.ntmps47
  go_wp2
  have hρ0 : ∃ ρ : Nat → Nat, (∀ i, i ≤ a.length → ρ i = w.heap.size + 1 + (a.length - i)) := ⟨_, fun _ _ => rfl⟩
  obtain ⟨ρ, hρ⟩ := hρ0
  have HR := Lib.hid hρ
  clear hρ
  go_loopw [6, 7] (fun i _ wr => ∃ z : Int, -1 ≤ z ∧ z ≤ (a.length : Int) ∧ i = .int .i64 z ∧ MatFrom 25 3 wr w.heap.size (a.length + 1) (b.length + 1) ρ (z + 1).toNat (FillTo a b z ((b.length : Int) - 1)) ∧ (wr.heap.size : Int) = w.heap.size + 1 + (a.length - z) ∧ Below w.heap.size w wr)
    (fun i _ _ => (intOf i + 1).toNat)
  case atStart =>
    have hN := World.rowIs_made w (.slice none 0 0) (a.length + 1) 25
    refine ⟨(a.length : Int), by omega, by omega, rfl, ⟨hN.congr fun i hi => by rw [if_neg (by omega)], fun i h1 h2 => absurd h2 (by omega), fun i hi => ?_, fun i j hi hj e => ?_⟩, by simp, (Below.refl _ _).alloc (Nat.le_refl _) _⟩
    · have := HR.out i (by omega); omega
    · have := HR.out i (by omega); have := HR.out j (by omega); omega
  case round =>
    obtain ⟨z, hz0, hz1, rfl, hM, hs, hbl⟩ := hrel
    by_cases hz : 0 ≤ z
    · obtain ⟨i0, rfl⟩ := Int.eq_ofNat_of_zero_le hz
      have hi0 : i0 < a.length + 1 := by omega
      have e1 : ((i0 : Int) + 1).toNat = i0 + 1 := by omega
      rw [e1] at hM
      have hs' : wr.heap.size = ρ i0 := by have := HR.out i0 (by omega); omega
      have gc := hM.top.cell hi0
      have gf := hM.top.frozen i0
      rw [if_neg (by omega)] at gc
      have M1 := Lib.hid (hM.next hi0 hs' (FillTo_new a b i0))
      have hGl := hM.top.lt
      have hb1 := Lib.hid (((hbl.setCell (p := ⟨w.heap.size, i0, none⟩) (Nat.le_refl _) (.slice (some ⟨wr.heap.size, 0, none⟩) (b.length + 1) (b.length + 1))).alloc (by simpa using hbl.size) (.cells (madeCells #[.int .i64 0] (b.length + 1)) 3)))
      have HS := Lib.hid hs
      clear e1 hs' hM hs hbl
      go_wp2
      generalize hW : (World.alloc (World.setCell _ _ _) _) = w1
      rw [hW] at M1 hb1
      have hs1 : Hid ((w1.heap.size : Int) = w.heap.size + 1 + (a.length - ((i0 : Int) - 1))) := by
        have := HS.out
        rw [← hW]
        show (((World.alloc _ _).heap.size : Nat) : Int) = _
        simp
        omega
      clear hW HS gc gf hGl
      obtain ⟨wo, rfl⟩ : ∃ wo : World, wo = wr := ⟨_, rfl⟩
      go_loopw [7] (fun k wr => ∃ y : Int, -1 ≤ y ∧ y ≤ (b.length : Int) - 1 ∧ k = .int .i64 y ∧ MatFrom 25 3 wr w.heap.size (a.length + 1) (b.length + 1) ρ i0 (FillTo a b i0 y) ∧ (wr.heap.size : Int) = w.heap.size + 1 + (a.length - ((i0 : Int) - 1)) ∧ Below w.heap.size w wr ∧ (i0 = a.length → y = (b.length : Int) - 1))
        (fun k _ => (intOf k + 1).toNat)
      case atStart => exact ⟨(b.length : Int) - 1, by omega, by omega, rfl, M1.out, hs1.out, hb1.out, fun _ => rfl⟩
      case round =>
        clear M1 hs1 hb1
        obtain ⟨y, hy0, hy1, rfl, hM, hs, hbl, hlast⟩ := hrel
        by_cases hy : 0 ≤ y
        · obtain ⟨k0, rfl⟩ := Int.eq_ofNat_of_zero_le hy
          by_cases hi1 : i0 < a.length
          · have hk1 : k0 < b.length := by omega
            have g0 := hM.topAt (i := i0) (by omega) (by omega)
            have g1 := hM.topAt (i := i0 + 1) (by omega) (by omega)
            have c1 := hM.at_ (i := i0 + 1) (k := k0) (by omega) (by omega) (by omega)
            have c2 := hM.at_ (i := i0) (k := k0 + 1) (by omega) (by omega) (by omega)
            have c3 := hM.at_ (i := i0 + 1) (k := k0 + 1) (by omega) (by omega) (by omega)
            have c0 := hM.at_ (i := i0) (k := k0) (by omega) (by omega) (by omega)
            have cf := hM.free (i := i0) (by omega) (by omega) k0
            obtain ⟨ad, rfl, hca⟩ := (hA.below hbl).at_ hi1
            obtain ⟨bd, rfl, hcb⟩ := (hB.below hbl).at_ hk1
            have hG2 : w.heap.size ≤ ρ i0 := by have := HR.out i0 (by omega); omega
            have HA := Lib.hid hA
            have HB := Lib.hid hB
            have HM := Lib.hid hM
            have HS := Lib.hid hs
            clear hA hB hM hs hlast
            by_cases hab : a[i0] = b[k0]
            · as_aux_lemma =>
              have hst := str_eq_true hab
              have HL := Lib.hid hab
              clear hab
              have hv : FillTo a b i0 k0 (i0 + 1) (k0 + 1) + 1 = Lcs.L (a.drop i0) (b.drop k0) := by
                rw [Lcs.L_at_eq hi1 hk1 HL.out, FillTo_at (by omega)]; omega
              have hbound : 0 ≤ FillTo a b i0 k0 (i0 + 1) (k0 + 1) ∧ FillTo a b i0 k0 (i0 + 1) (k0 + 1) ≤ 200 := by
                rw [FillTo_at (by omega)]
                have := Lcs.L_le_left (a.drop (i0 + 1)) (b.drop (k0 + 1))
                simp only [List.length_drop] at this
                omega
              generalize FillTo a b i0 k0 (i0 + 1) (k0 + 1) = x3 at c3 hv hbound
              obtain ⟨hb0, hb1⟩ := hbound
              have HV := Lib.hid hv
              clear hv
              have M2 := fun q => Lib.hid ((HM.out.drewN q).set_ (i := i0) (by omega) (by omega) k0 (x3 + 1))
              have HB2 := Lib.hid hbl
              clear hbl
              go_wp2
              go_quiet (fail)
              go_wp2
              go_region
              go_wp2
              go_roundw
              case rel =>
                exact ⟨(k0 : Int) - 1, by omega, by omega, rfl, (M2 (nq + 1)).out.congr fun i k _ hi hk => FillTo_step a b i0 k0 _ HV.out i k hi hk, by have := HS.out; show (((World.setCell _ _ _).heap.size : Nat) : Int) = _; simpa using this, below_drewN (HB2.out.setCell (p := ⟨ρ i0, k0, none⟩) hG2 (.int .i64 (x3 + 1))) (nq + 1), fun e => absurd e (by omega)⟩
              case measure => first | (simp [intOf]; done) | (simp [intOf]; omega)
            · as_aux_lemma =>
              have hst := str_eq_false hab
              have HL := Lib.hid hab
              clear hab
              have hmax := @run_max2 Try.prog
              have M2 := fun q => Lib.hid ((HM.out.drewN q).set_ (i := i0) (by omega) (by omega) k0 (max (FillTo a b i0 k0 (i0 + 1) k0) (FillTo a b i0 k0 i0 (k0 + 1))))
              have HB2 := Lib.hid hbl
              clear hbl
              go_wp2
              go_quiet (fail)
              go_wp2
              go_region
              go_wp2
              go_roundw
              case rel =>
                refine ⟨(k0 : Int) - 1, by omega, by omega, rfl, (M2 (nq + 1)).out.congr fun i k _ hi hk => FillTo_step a b i0 k0 _ ?_ i k hi hk, by have := HS.out; show (((World.setCell _ _ _).heap.size : Nat) : Int) = _; simpa using this, below_drewN (HB2.out.setCell (p := ⟨ρ i0, k0, none⟩) hG2 (.int .i64 (max (FillTo a b i0 k0 (i0 + 1) k0) (FillTo a b i0 k0 i0 (k0 + 1))))) (nq + 1), fun e => absurd e (by omega)⟩
                rw [Lcs.L_at_ne hi1 hk1 HL.out, FillTo_at (i := i0 + 1) (k := k0) (by omega), FillTo_at (i := i0) (k := k0 + 1) (by omega)]
                omega
              case measure => first | (simp [intOf]; done) | (simp [intOf]; omega)
          · have hil : i0 = a.length := by omega
            have hyl := hlast hil
            have M3 : MatFrom 25 3 wr w.heap.size (a.length + 1) (b.length + 1) ρ (((i0 : Int) - 1 + 1).toNat) (FillTo a b ((i0 : Int) - 1) ((b.length : Int) - 1)) := by
              have e2 : ((i0 : Int) - 1 + 1).toNat = i0 := by omega
              rw [e2]
              refine hM.congr fun i k _ hi hk => ?_
              rw [hyl, hil]
              exact FillTo_last a b i k hi hk
            have HM3 := Lib.hid M3
            have HS := Lib.hid hs
            clear hM hs hlast hyl hil M3
            go_wp2
            go_roundw
            case rel => exact ⟨(i0 : Int) - 1, by omega, by omega, rfl, HM3.out, HS.out, hbl⟩
            case measure => first | (simp [intOf]; done) | (simp [intOf]; omega)
        · obtain rfl : y = -1 := by omega
          have M3 : MatFrom 25 3 wr w.heap.size (a.length + 1) (b.length + 1) ρ (((i0 : Int) - 1 + 1).toNat) (FillTo a b ((i0 : Int) - 1) ((b.length : Int) - 1)) := by
            have e2 : ((i0 : Int) - 1 + 1).toNat = i0 := by omega
            rw [e2]
            exact hM.congr fun i k _ hi hk => FillTo_row a b i0 i k hk
          have HM3 := Lib.hid M3
          have HS := Lib.hid hs
          clear hM hs hlast M3
          go_wp2
          go_roundw
          case rel => exact ⟨(i0 : Int) - 1, by omega, by omega, rfl, HM3.out, HS.out, hbl⟩
          case measure => first | (simp [intOf]; done) | (simp [intOf]; omega)
    · obtain rfl : z = -1 := by omega
      have M := Lib.hid ((show MatFrom 25 3 wr w.heap.size (a.length + 1) (b.length + 1) ρ 0 (FillTo a b (-1) ((b.length : Int) - 1)) from hM).done.congr fun i k _ _ => FillTo_all a b i k _)
      clear hM hs
      go_wp2
      go_ret
      exact ⟨_, _, rfl, M.out, hbl⟩

end Go.Proofs.Ythoccmgfpjfkoaa
