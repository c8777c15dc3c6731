/- lcs.filled, Long, walk, Pairs. -/
import Derived.Test.YthoccmgfpjfkoaaLcsFill
namespace Go.Proofs.Ythoccmgfpjfkoaa
open Go.RowKit

def FilledPost (w : World) (A B : Option Addr) (a b : List ByteArray) (ca cb : Nat) (e : Ending) (w' : World) : Prop :=
  ∃ T G ρ, e = .returned (.tuple #[.pointer (some ⟨T, 0, none⟩), .bool true]) ∧ TblAt w' T A B a b ca cb (.slice (some ⟨G, 0, none⟩) (a.length + 1) (a.length + 1)) ∧
      Mat 25 3 w' G (a.length + 1) (b.length + 1) ρ (fun i k => Lcs.L (a.drop i) (b.drop k)) ∧ Below w.heap.size w w'

theorem At1.apart {α : Type} {f : α → Value} {w : World} {A : Option Addr} {l : List α} (h : At1 f w A l) (hl : 0 < l.length) : ∀ ad, A = some ad → ad.block < w.heap.size := by
  intro ad e
  obtain ⟨ad', e', hc⟩ := h.at_ hl
  rw [e] at e'
  injection e' with e'
  subst e'
  have := World.block_lt_of_cell? w _ hc
  rwa [block_of_add] at this

set_option maxRecDepth 100000 in
theorem filled_long (w : World) (A B : Option Addr) (la lb ca cb : Nat) (h : 200 < la ∨ 200 < lb) :
    Calls Try.prog 40 #[.slice A la ca, .slice B lb cb] w fun e w' => e = .returned (.tuple #[.pointer none, .bool false]) ∧ w = w' := by
  by_cases h1 : 200 < la
  · go_enter Try.func40, Try.ntmps40
    go_wp2
    go_ret2
    exact ⟨rfl, rfl⟩
  · have h2 : 200 < lb := by omega
    clear h
    go_enter Try.func40, Try.ntmps40
    go_wp2
    go_ret2
    exact ⟨rfl, rfl⟩

set_option maxRecDepth 100000 in
theorem filled_any (w : World) (A B : Option Addr) (a b : List ByteArray) (ca cb : Nat) (ha : a.length ≤ 200) (hb : b.length ≤ 200) (hA : At1 vStr w A a) (hB : At1 vStr w B b) :
    Calls Try.prog 40 #[.slice A a.length ca, .slice B b.length cb] w (FilledPost w A B a b ca cb) := by
  have hfill := fun hA1 hB1 => fill_any (w.alloc (.cells #[.slice A a.length ca, .slice B b.length cb, .slice none 0 0] 74)) w.heap.size A B a b ca cb ha hb hA1 hB1 (fun h ad e => Nat.ne_of_lt (hA.apart h ad e)) (fun h ad e => Nat.ne_of_lt (hB.apart h ad e)) (heap_alloc_new w _)
  have H := Lib.hid (hfill (hA.alloc _) (hB.alloc _))
  clear hfill
  go_enter Try.func40, Try.ntmps40
  go_wp2_with fail
  refine H.out.mono ?_
  rintro e w1 ⟨rfl, G, ρ, h1, h2, h3⟩
  have H1 := Lib.hid h1
  have H2 := Lib.hid h2
  have H3 := Lib.hid h3
  clear h1 h2 h3
  go_wp2
  go_ret2
  refine ⟨w.heap.size, G, ρ, rfl, H1.out, H2.out, ?_⟩
  have g := H3.out
  exact ⟨g.os, g.tape, g.output, by have := g.size; simp at this; omega, fun k hk => (g.block k (by simp; omega) (fun e => by injection e with e; omega)).trans (Below.heap_alloc _ _ _ hk)⟩

set_option maxRecDepth 100000 in
theorem long_any (w : World) (A B : Option Addr) (a b : List ByteArray) (ca cb : Nat) (ha : a.length ≤ 200) (hb : b.length ≤ 200) (hA : At1 vStr w A a) (hB : At1 vStr w B b) :
    Calls Try.prog 27 #[.slice A a.length ca, .slice B b.length cb] w fun e w' => e = .returned (.int .i64 (Lcs.L a b)) ∧ Below w.heap.size w w' := by
  have H := Lib.hid (filled_any w A B a b ca cb ha hb hA hB)
  go_enter Try.func27, Try.ntmps27
  go_wp2_with fail
  refine H.out.mono ?_
  rintro e w1 ⟨T, G, ρ, rfl, h1, h2, h3⟩
  have c2 := h1.c2
  have g0 := h2.topAt (i := 0) (by omega)
  have c0 := h2.at_ (i := 0) (k := 0) (by omega) (by omega)
  simp only [List.drop_zero] at c0
  have H1 := Lib.hid h1
  have H2 := Lib.hid h2
  have H3 := Lib.hid h3
  clear h1 h2 h3
  go_wp2
  go_ret
  exact ⟨rfl, H3.out⟩

set_option maxRecDepth 100000 in
theorem long_long (w : World) (A B : Option Addr) (la lb ca cb : Nat) (h : 200 < la ∨ 200 < lb) :
    Calls Try.prog 27 #[.slice A la ca, .slice B lb cb] w fun e w' => e = .returned (.int .i64 0) ∧ w = w' := by
  have H := Lib.hid (filled_long w A B la lb ca cb h)
  go_enter Try.func27, Try.ntmps27
  go_wp2_with fail
  refine H.out.mono ?_
  rintro e w1 ⟨rfl, rfl⟩
  go_wp2
  go_ret
  exact ⟨rfl, rfl⟩
theorem eInt : EInfo Try.prog 25 3 (.int .i64 0) 1 8 := ⟨Try.underlying25, by kernel_rfl, rfl, by decide, by decide⟩

/-- two lists of places that the call has made -/
def TwoRows (w : World) (base : Nat) (x y : Value) (l : List (Nat × Nat)) : Prop :=
  w.ownsRow base 3 1 x l.length (l.map fun p => vInt p.1) ∧ w.ownsRow base 3 1 y l.length (l.map fun p => vInt p.2) ∧ Apart x y

def WalkPost (w : World) (l : List (Nat × Nat)) (e : Ending) (w' : World) : Prop :=
  ∃ x y, e = .returned (.tuple #[x, y]) ∧ TwoRows w' w.heap.size x y l ∧ Below w.heap.size w w'

set_option maxRecDepth 100000 in
set_option maxHeartbeats 400000 in
theorem walk_any (w : World) (T G : Nat) (ρ : Nat → Nat) (A B : Option Addr) (a b : List ByteArray) (ca cb : Nat) (ha : a.length ≤ 200) (hb : b.length ≤ 200) (hA : At1 vStr w A a) (hB : At1 vStr w B b)
    (hT : TblAt w T A B a b ca cb (.slice (some ⟨G, 0, none⟩) (a.length + 1) (a.length + 1))) (hM : Mat 25 3 w G (a.length + 1) (b.length + 1) ρ (fun i k => Lcs.L (a.drop i) (b.drop k))) :
    Calls Try.prog 52 #[.pointer (some ⟨T, 0, none⟩)] w (WalkPost w (Lcs.W a b 0 0)) := by
  go_enter Try.func52, Try.ntmps52
  go_wp2
  go_loopw [2, 3, 4, 5] (fun x y i k wr => ∃ (i0 k0 : Nat) (l : List (Nat × Nat)), i0 ≤ a.length ∧ k0 ≤ b.length ∧ i = .int .i64 i0 ∧ k = .int .i64 k0 ∧ l.length ≤ i0 ∧ Lcs.W a b 0 0 = l ++ Lcs.W (a.drop i0) (b.drop k0) i0 k0 ∧ TwoRows wr w.heap.size x y l ∧ Below w.heap.size w wr)
    (fun _ _ i k _ => (a.length - (intOf i).toNat) + (b.length - (intOf k).toNat))
  case atStart => exact ⟨0, 0, [], Nat.zero_le _, Nat.zero_le _, rfl, rfl, Nat.le_refl _, by simp, ⟨World.ownsRow_nil _ _ _ _, World.ownsRow_nil _ _ _ _, Apart.nil _⟩, Below.refl _ _⟩
  case round =>
    obtain ⟨i0, k0, l, hi0, hk0, rfl, rfl, hll, hW, hR, hbl⟩ := hrel
    have hT' := hT.of_block (hbl.block _ hT.lt)
    have hM' := hM.below hbl
    have t0 := hT'.c0
    have t1 := hT'.c1
    have HTT := Lib.hid hT
    have HTM := Lib.hid hM
    have HW := Lib.hid hW
    clear hT hM hW
    by_cases hlt : i0 < a.length
    · by_cases hlt2 : k0 < b.length
      · obtain ⟨ad, rfl, hca⟩ := (hA.below hbl).at_ hlt
        obtain ⟨bd, rfl, hcb⟩ := (hB.below hbl).at_ hlt2
        have t2 := hT'.c2
        have g0 := hM'.topAt (i := i0) (by omega)
        have g1 := hM'.topAt (i := i0 + 1) (by omega)
        have c1 := hM'.at_ (i := i0 + 1) (k := k0) (by omega) (by omega)
        have c2 := hM'.at_ (i := i0) (k := k0 + 1) (by omega) (by omega)
        have HA := Lib.hid hA
        have HB := Lib.hid hB
        have HT := Lib.hid hT'
        have HM := Lib.hid hM'
        clear hA hB hT' hM'
        by_cases hab : a[i0] = b[k0]
        · as_aux_lemma =>
          have hst := str_eq_true hab
          have HL := Lib.hid hab
          clear hab
          go_wp2
          go_quiet (fail)
          have hR' : TwoRows (wr.drewN nq) w.heap.size _ _ l := hR
          obtain ⟨hRx, hRy, hap⟩ := hR'
          clear hR
          have hbq := below_drewN hbl nq
          clear hca hcb t0 t1 t2 g0 g1 c1 c2 HT HM
          clear hbl
          generalize wr.drewN nq = wq at hRx hRy hbq ⊢
          have hsz := hbq.size
          go_wp2_with (first | (at_builtin; refine wpList_app1 eInt rfl rfl hRx rfl rfl (by first | rfl | simp) rfl (by omega) (by first | omega | (simp; omega)) ?_; intro v1 w1 hown1 hg1 hk1; have hy1 := own_other hRy hap hg1; have hs1 := hg1.size) | (at_builtin; refine wpList_app1 eInt rfl rfl hy1 rfl rfl (by first | rfl | simp) rfl (by omega) (by first | omega | (simp; omega)) ?_; intro v2 w2 hown2 hg2 hk2))
          go_roundw
          case rel =>
            have hb1 := below_grown hbq hRx hg1 (Nat.le_refl _) hsz
            have hb2 := below_grown hb1 hy1 hg2 (Nat.le_refl _) hb1.size
            have hap1 := apart_grown hRy hap hk1 (Nat.le_succ _)
            have hx2 := own_other hown1 hap1.symm hg2
            have hap2 := (apart_grown hown1 hap1.symm hk2 (Nat.le_succ _)).symm
            refine ⟨i0 + 1, k0 + 1, l ++ [(i0, k0)], by omega, by omega, by go_num, by go_num, by simp; omega, ?_, ⟨by simpa using hx2, by simpa using hown2, hap2⟩, hb2⟩
            rw [HW.out, Lcs.W_at_eq hlt hlt2 HL.out, List.append_assoc]; rfl
          case measure => first | (simp [intOf]; done) | (simp [intOf]; omega)
        · as_aux_lemma =>
          have hst := str_eq_false hab
          have HL := Lib.hid hab
          clear hab
          generalize hL1 : Lcs.L (a.drop (i0 + 1)) (b.drop k0) = x1 at c1
          generalize hL2 : Lcs.L (a.drop i0) (b.drop (k0 + 1)) = x2 at c2
          have HL1 := Lib.hid hL1
          have HL2 := Lib.hid hL2
          clear hL1 hL2
          by_cases hle : (x2 : Int) ≤ (x1 : Int)
          · go_wp2
            go_quiet (fail)
            go_wp2
            go_quiet (fail)
            go_wp2
            go_roundw
            case rel => exact ⟨i0 + 1, k0, l, by omega, by omega, by go_num, rfl, by omega, by rw [HW.out, Lcs.W_at_down hlt hlt2 HL.out (by rw [HL1.out, HL2.out]; omega)], hR, below_drewN hbl _⟩
            case measure => first | (simp [intOf]; done) | (simp [intOf]; omega)
          · go_wp2
            go_quiet (fail)
            go_wp2
            go_quiet (fail)
            go_wp2
            go_roundw
            case rel => exact ⟨i0, k0 + 1, l, by omega, by omega, rfl, by go_num, by omega, by rw [HW.out, Lcs.W_at_right hlt hlt2 HL.out (by rw [HL1.out, HL2.out]; omega)], hR, below_drewN hbl _⟩
            case measure => first | (simp [intOf]; done) | (simp [intOf]; omega)
      · go_wp2
        go_ret2
        have e := HW.out
        rw [Lcs.W_at_end (by omega), List.append_nil] at e
        exact ⟨_, _, rfl, by rw [e]; exact hR, hbl⟩
    · go_wp2
      go_ret2
      have e := HW.out
      rw [Lcs.W_at_end (by omega), List.append_nil] at e
      exact ⟨_, _, rfl, by rw [e]; exact hR, hbl⟩

def pairsOf (a b : List ByteArray) : List (Nat × Nat) := if 200 < a.length ∨ 200 < b.length then [] else Lcs.W a b 0 0
def longOf (a b : List ByteArray) : Nat := if 200 < a.length ∨ 200 < b.length then 0 else Lcs.L a b

set_option maxRecDepth 100000 in
theorem pairs_any (w : World) (A B : Option Addr) (a b : List ByteArray) (ca cb : Nat) (hA : At1 vStr w A a) (hB : At1 vStr w B b) :
    Calls Try.prog 41 #[.slice A a.length ca, .slice B b.length cb] w (WalkPost w (pairsOf a b)) := by
  by_cases h : 200 < a.length ∨ 200 < b.length
  · have H := Lib.hid (filled_long w A B a.length b.length ca cb h)
    rw [pairsOf, if_pos h]
    clear h
    go_enter Try.func41, Try.ntmps41
    go_wp2_with fail
    refine H.out.mono ?_
    rintro e w1 ⟨rfl, rfl⟩
    go_wp2
    go_ret2
    exact ⟨_, _, rfl, ⟨World.ownsRow_nil _ _ _ _, World.ownsRow_nil _ _ _ _, Apart.nil _⟩, Below.refl _ _⟩
  · have H := Lib.hid (filled_any w A B a b ca cb (by omega) (by omega) hA hB)
    rw [pairsOf, if_neg h]
    have hh : a.length ≤ 200 ∧ b.length ≤ 200 := by omega
    obtain ⟨h1, h2⟩ := hh
    clear h
    go_enter Try.func41, Try.ntmps41
    go_wp2_with fail
    refine H.out.mono ?_
    rintro e w1 ⟨T, G, ρ, rfl, hT, hM, hb⟩
    have H2 := Lib.hid (walk_any w1 T G ρ A B a b ca cb h1 h2 (hA.below hb) (hB.below hb) hT hM)
    have HB := Lib.hid hb
    clear hT hM hb
    go_wp2_with fail
    refine H2.out.mono ?_
    rintro e w2 ⟨x, y, rfl, hR, hb2⟩
    go_wp2
    go_ret2
    have hbb := HB.out.trans (hb2.mono HB.out.size)
    exact ⟨_, _, rfl, ⟨own_base hR.1 HB.out.size, own_base hR.2.1 HB.out.size, hR.2.2⟩, hbb⟩

theorem long_all (w : World) (A B : Option Addr) (a b : List ByteArray) (ca cb : Nat) (hA : At1 vStr w A a) (hB : At1 vStr w B b) :
    Calls Try.prog 27 #[.slice A a.length ca, .slice B b.length cb] w fun e w' => e = .returned (.int .i64 (longOf a b)) ∧ Below w.heap.size w w' := by
  by_cases h : 200 < a.length ∨ 200 < b.length
  · rw [longOf, if_pos h]
    exact (long_long w A B a.length b.length ca cb h).mono fun e w' ⟨h1, h2⟩ => ⟨h1, by rw [← h2]; exact Below.refl _ _⟩
  · rw [longOf, if_neg h]
    exact long_any w A B a b ca cb (by omega) (by omega) hA hB

end Go.Proofs.Ythoccmgfpjfkoaa
