/- The walk of align.paired. Written by pairedgen.py. -/
import Derived.Test.YthoccmgfpjfkoaaAlignFilled
namespace Go.Proofs.Ythoccmgfpjfkoaa
open Go.RowKit

def rowsOf (a b : List ByteArray) : List Int := Al.fill (Al.mapOf a.length (pairsOf a b)) b.length 0
theorem rowsOf_len (a b : List ByteArray) : (rowsOf a b).length = a.length := by rw [rowsOf, Al.fill_len, Al.mapOf_len]
theorem pairsOf_len (a b : List ByteArray) : (pairsOf a b).length ≤ 200 := by
  unfold pairsOf
  split
  · simp
  · rw [Lcs.W_length]
    have := Lcs.L_le_left a b
    omega
theorem pairs_lt {a b : List ByteArray} {p : Nat × Nat} (h : p ∈ pairsOf a b) : p.1 < a.length ∧ p.2 < b.length := by
  unfold pairsOf at h
  split at h
  · cases h
  · obtain ⟨_, _, x, e1, e2⟩ := Lcs.W_places a b 0 0 p h
    exact ⟨(List.getElem?_eq_some_iff.1 e1).1, (List.getElem?_eq_some_iff.1 e2).1⟩
theorem setAll_snoc (m : List Int) (W : List (Nat × Nat)) (p : Nat × Nat) : Al.setAll m (W ++ [p]) = (Al.setAll m W).set p.1 (p.2 : Int) := by simp [Al.setAll]

/-- the places read; they lie in new blocks -/
def PairsRd (w : World) (l : List (Nat × Nat)) (e : Ending) (w' : World) : Prop :=
  ∃ A c B d, e = .returned (.tuple #[.slice A l.length c, .slice B l.length d]) ∧ At1 vInt w' A (l.map fun p => (p.1 : Int)) ∧ At1 vInt w' B (l.map fun p => (p.2 : Int)) ∧
    (∀ ad, A = some ad → w.heap.size ≤ ad.block ∧ ad.block < w'.heap.size) ∧ (∀ ad, B = some ad → w.heap.size ≤ ad.block ∧ ad.block < w'.heap.size) ∧ Below w.heap.size w w'
theorem pairs_rd (w : World) (A B : Option Addr) (a b : List ByteArray) (ca cb : Nat) (hA : At1 vStr w A a) (hB : At1 vStr w B b) :
    Calls Try.prog 41 #[.slice A a.length ca, .slice B b.length cb] w (PairsRd w (pairsOf a b)) := by
  refine (pairs_any w A B a b ca cb hA hB).mono ?_
  rintro e w' ⟨x, y, rfl, ⟨h1, h2, _⟩, hb⟩
  have hl : (pairsOf a b).length ≤ 9223372036854775807 := by have := pairsOf_len a b; omega
  have l1 := h1.lt
  have l2 := h2.lt
  obtain ⟨A, c, rfl, _, _⟩ := own_form h1
  obtain ⟨B, d, rfl, _, _⟩ := own_form h2
  exact ⟨A, c, B, d, rfl, At1.of_own (n := (pairsOf a b).length) (by rw [List.map_map]; exact h1) (by simpa using hl), At1.of_own (n := (pairsOf a b).length) (by rw [List.map_map]; exact h2) (by simpa using hl),
    fun ad e => by subst e; exact l1 _ rfl, fun ad e => by subst e; exact l2 _ rfl, hb⟩

theorem cellSet {w : World} {a p : Addr} {v : Value} (h : p.block ≠ a.block) : (w.setCell a v).cell? p = w.cell? p := World.cell?_setCell_other (h := fun e => h (by rw [e])) ..
/-- Blocks: the map at O, the result at R; its row g reads o. -/
structure PSt (w : World) (R O g len : Nat) (N : Int) (o : List Int) (W : World) : Prop where
  out : W.heap[O]? = some (.cells #[.slice (some ⟨g, 0, none⟩) len len, .int .i64 N] 30 (0, 0))
  res : W.heap[R]? = some (.cells #[.slice none 0 0, .int .i64 0] 30 (0, 0))
  own : W.ownsRow w.heap.size 3 1 (.slice (some ⟨g, 0, none⟩) len len) len (o.map vInt)
  below : Below w.heap.size w W
  lim : w.heap.size ≤ R ∧ w.heap.size ≤ O ∧ w.heap.size ≤ g ∧ R ≠ O ∧ g ≠ R ∧ g ≠ O
  len : o.length = len
variable {w W W' : World} {R O g len : Nat} {N : Int} {o : List Int}
theorem PSt.lt (h : PSt w R O g len N o W) : O < W.heap.size ∧ R < W.heap.size ∧ g < W.heap.size := ⟨(Array.getElem?_eq_some_iff.1 h.out).1, (Array.getElem?_eq_some_iff.1 h.res).1, (h.own.lt g rfl).2⟩
theorem PSt.keep (h : PSt w R O g len N o W) (hb : Below W.heap.size W W') : PSt w R O g len N o W' :=
  ⟨(hb.block _ h.lt.1).trans h.out, (hb.block _ h.lt.2.1).trans h.res, own_below h.own hb, h.below.trans (hb.mono h.below.size), h.lim, h.len⟩
theorem PSt.set_ (h : PSt w R O g len N o W) (i : Nat) (x : Int) : PSt w R O g len N (o.set i x) (W.setCell ⟨g, i, none⟩ (.int .i64 x)) := by
  obtain ⟨l1, l2, l3, l4, l5, l6⟩ := h.lim
  refine ⟨(blkSet (by show O ≠ g; omega)).trans h.out, (blkSet (by show R ≠ g; omega)).trans h.res, ?_, h.below.setCell (p := ⟨g, i, none⟩) l3 _, h.lim, by rw [List.length_set]; exact h.len⟩
  have := own_set h.own (i := i) (.int .i64 x)
  rw [List.map_set]
  exact this
theorem PSt.drew (h : PSt w R O g len N o W) : PSt w R O g len N o W.drew := ⟨h.out, h.res, h.own, h.below.drew, h.lim, h.len⟩
theorem PSt.facts (h : PSt w R O g len N o W) : W.cell? ⟨O, 0, none⟩ = some (.slice (some ⟨g, 0, none⟩) len len) ∧ W.cell? ⟨O, 1, none⟩ = some (.int .i64 N) ∧
    W.cell? ⟨R, 0, none⟩ = some (.slice none 0 0) ∧ W.cell? ⟨R, 1, none⟩ = some (.int .i64 0) ∧ W.frozen? ⟨R, 0, none⟩ = false ∧ W.frozen? ⟨R, 1, none⟩ = false := by
  obtain ⟨o0, o1, _⟩ := zfacts h.out
  obtain ⟨r0, r1, r2, r3⟩ := zfacts h.res
  exact ⟨o0, o1, r0, r1, r2, r3⟩

/-- the first loop's row: -1 up to k -/
def minus (n k : Nat) : List Int := List.replicate k (-1) ++ List.replicate (n - k) 0
theorem minus_set {n k : Nat} (h : k < n) : (minus n k).set k (-1) = minus n (k + 1) := by
  unfold minus
  rw [List.set_append_right _ _ (by simp), List.length_replicate, Nat.sub_self, show n - k = (n - (k + 1)) + 1 from by omega, List.replicate_succ, List.set_cons_zero, List.replicate_succ', List.append_assoc]
  rfl
theorem minus_all (n : Nat) : minus n n = List.replicate n (-1) := by simp [minus]

theorem filled_rd (w : World) (ad : Addr) (m : List Int) (n c : Nat) (N : Int) (hn : m.length = n) (hA : At1 vInt w (some ad) m) (hl : n ≤ 1000) (hm : Al.Fit 1000000 m) (hN : 0 ≤ N) (hN2 : N ≤ 1000000) (hlt : ad.block < w.heap.size) :
    Calls Try.prog 42 #[.agg #[.slice (some ad) n c, .int .i64 N]] w fun e w' => ∃ A c, e = .returned (.agg #[.slice A n c, .int .i64 N]) ∧ w'.ownsRow w.heap.size 3 1 (.slice A n c) n ((Al.fill m N 0).map vInt) ∧ Below w.heap.size w w' := by
  subst hn
  refine (alignFilled_any w ad m c N hA hl hm hN hN2 hlt).mono ?_
  rintro e w' ⟨v, rfl, h1, h2⟩
  obtain ⟨A, c, rfl, _⟩ := own_form h1
  exact ⟨A, c, rfl, h1, h2⟩

set_option maxRecDepth 100000 in
set_option maxHeartbeats 2000000 in
theorem paired_any (w : World) (A B : Option Addr) (a b : List ByteArray) (ca cb : Nat) (hA : At1 vStr w A a) (hB : At1 vStr w B b) (ha : a.length ≤ 1000) (hb : b.length ≤ 1000) :
    Calls Try.prog 29 #[.slice A a.length ca, .slice B b.length cb] w fun e w' => ∃ v, e = .returned (.agg #[v, .int .i64 b.length]) ∧ w'.ownsRow w.heap.size 3 1 v a.length ((rowsOf a b).map vInt) ∧ Below w.heap.size w w' := by
  have HA := Lib.hid hA
  have HB := Lib.hid hB
  clear hA hB
  have hmk := fun W => run_make_row' (P := Try.prog) 25 3 (.int .i64 0) 8 Try.underlying25 (by kernel_rfl) rfl .i64 .i64 a.length (by omega) (by omega) W
  go_enter Try.func29, Try.ntmps29
  go_wp2
  obtain ⟨W1, hW1⟩ : ∃ W1, W1 = ((w.alloc (.cells #[.slice none 0 0, .int .i64 0] 30)).alloc (.cells (madeCells #[.int .i64 0] a.length) 3)).alloc (.cells #[.slice (some ⟨w.heap.size + 1, 0, none⟩) a.length a.length, .int .i64 b.length] 30) := ⟨_, rfl⟩
  have F1 : PSt w w.heap.size (w.heap.size + 1 + 1) (w.heap.size + 1) a.length b.length (minus a.length 0) W1 := by
    rw [hW1]
    have e1 := heap_alloc_new w (.cells #[.slice none 0 0, .int .i64 0] 30)
    have e3 := heap_alloc_new ((w.alloc (.cells #[.slice none 0 0, .int .i64 0] 30)).alloc (.cells (madeCells #[.int .i64 0] a.length) 3)) (.cells #[.slice (some ⟨w.heap.size + 1, 0, none⟩) a.length a.length, .int .i64 b.length] 30)
    have e2 := own_made (w := w.alloc (.cells #[.slice none 0 0, .int .i64 0] 30)) (base := w.heap.size) (n := a.length) (e := 3) (z := .int .i64 0) (by simp) (Nat.le_trans ha (by decide))
    rw [World.size_alloc, World.size_alloc] at e3
    rw [World.size_alloc] at e2
    refine ⟨e3, (Below.heap_alloc _ _ _ (by simp; omega)).trans ((Below.heap_alloc _ _ _ (by simp)).trans e1), ?_, (((Below.refl _ _).alloc (Nat.le_refl _) _).alloc (by simp) _).alloc (by simp; omega) _, by omega, by simp [minus]⟩
    have e4 := e2.alloc (.cells #[.slice (some ⟨w.heap.size + 1, 0, none⟩) a.length a.length, .int .i64 b.length] 30)
    rw [show (minus a.length 0).map vInt = List.replicate a.length (Value.int .i64 0) by simp [minus]]
    exact e4
  rw [← hW1]
  clear hW1
  obtain ⟨O, hOe⟩ : ∃ O, w.heap.size + 1 + 1 = O := ⟨_, rfl⟩
  rw [hOe] at F1 ⊢
  obtain ⟨g, hge⟩ : ∃ g, w.heap.size + 1 = g := ⟨_, rfl⟩
  rw [hge] at F1 ⊢
  clear hOe hge hmk
  go_loopw [6, 19] (fun _ i wr => ∃ k : Nat, k ≤ a.length ∧ i = .int .i64 k ∧ PSt w w.heap.size O g a.length b.length (minus a.length k) wr) (fun _ i _ => a.length - (intOf i).toNat)
  case atStart => exact ⟨0, Nat.zero_le _, rfl, F1⟩
  case round =>
    clear F1
    obtain ⟨k, hk, rfl, F⟩ := hrel
    obtain ⟨f0, f1, f2, f3, f4, f5⟩ := F.facts
    by_cases hlt : k < a.length
    · have hml : k < (minus a.length k).length := by rw [F.len]; exact hlt
      obtain ⟨c1, c3, _⟩ := own_cell F.own (i := k) (x := vInt (minus a.length k)[k]) (by rw [List.getElem?_map, List.getElem?_eq_getElem hml]; rfl)
      go_wp2
      go_roundw
      case rel => exact ⟨k + 1, by omega, by go_num, by rw [← minus_set hlt]; exact F.set_ k (-1)⟩
      case measure => first | (simp [intOf]; done) | (simp [intOf]; omega)
    · obtain rfl : k = a.length := by omega
      rw [minus_all] at F
      go_wp2_with fail
      refine (pairs_rd wr A B a b ca cb (HA.out.below F.below) (HB.out.below F.below)).mono ?_
      rintro e w2 ⟨X, c1, Y, c2, rfl, hX, hY, lX, lY, hb2⟩
      have F2 := F.keep hb2
      have hgl := F.lt
      have hpl := pairsOf_len a b
      have hplt : ∀ p ∈ pairsOf a b, p.1 < a.length ∧ p.2 < b.length := fun p hp => pairs_lt hp
      have HP := Lib.hid hplt
      have HX := Lib.hid hX
      have HY := Lib.hid hY
      have HL := Lib.hid (And.intro lX lY)
      have HR : Hid (rowsOf a b = Al.fill (Al.setAll (List.replicate a.length (-1)) ((pairsOf a b).take (pairsOf a b).length)) b.length 0) := by rw [List.take_length]; rfl
      have HF : Hid (∀ k, Al.Fit 1000000 (Al.setAll (List.replicate a.length (-1)) ((pairsOf a b).take k))) := fun k => Al.setAll_fit _ _ (fun t ht => by have := List.eq_of_mem_replicate ht; omega) (fun p hp => by have := pairs_lt (List.mem_of_mem_take hp); omega)
      clear hplt hX hY F f0 f1 f2 f3 f4 f5
      generalize pairsOf a b = ps at *
      go_wp2
      go_loopw [9, 35] (fun _ i wr => ∃ k : Nat, k ≤ ps.length ∧ i = .int .i64 k ∧ PSt w w.heap.size O g a.length b.length (Al.setAll (List.replicate a.length (-1)) (ps.take k)) wr ∧ w2.heap.size ≤ wr.heap.size ∧ Hid (∀ p : Addr, p.block ≠ g → wr.cell? p = w2.cell? p)) (fun _ i _ => ps.length - (intOf i).toNat)
      case atStart => exact ⟨0, Nat.zero_le _, rfl, F2, Nat.le_refl _, fun _ _ => rfl⟩
      case round =>
        clear F2
        obtain ⟨k, hk, rfl, F, hsz, hcell⟩ := hrel
        obtain ⟨f0, f1, f2, f3, f4, f5⟩ := F.facts
        by_cases hlt : k < ps.length
        · obtain ⟨adx, rfl, hx⟩ := HX.out.at_ (k := k) (by simpa using hlt)
          obtain ⟨ady, rfl, hy⟩ := HY.out.at_ (k := k) (by simpa using hlt)
          have lx := HL.out.1 adx rfl
          have ly := HL.out.2 ady rfl
          have hpp := HP.out ps[k] (List.getElem_mem _)
          have hsn : Hid (Al.setAll (List.replicate a.length (-1)) (ps.take (k + 1)) = (Al.setAll (List.replicate a.length (-1)) (ps.take k)).set ps[k].1 (ps[k].2 : Int)) := by rw [take_snoc hlt, setAll_snoc]; exact rfl
          rw [List.getElem_map] at hx hy
          generalize ps[k] = p at hx hy hpp hsn
          obtain ⟨p1, p2⟩ := p
          dsimp only at hx hy hpp hsn
          have hcx := (hcell.out (adx.add k) (by rw [block_of_add]; omega)).trans hx
          have hcy := (hcell.out (ady.add k) (by rw [block_of_add]; omega)).trans hy
          have hOl : O < wr.heap.size := F.lt.1
          have hxl : (adx.add k).block < wr.heap.size := by rw [block_of_add]; omega
          have hyl : (ady.add k).block < wr.heap.size := by rw [block_of_add]; omega
          have hml : p1 < (Al.setAll (List.replicate a.length (-1)) (ps.take k)).length := by rw [F.len]; exact hpp.1
          obtain ⟨c1, c3, _⟩ := own_cell F.own (i := p1) (x := vInt (Al.setAll (List.replicate a.length (-1)) (ps.take k))[p1]) (by rw [List.getElem?_map, List.getElem?_eq_getElem hml]; rfl)
          have hi1 : (p1 : Int) < (a.length : Int) := by omega
          have hlx : (k : Int) < (ps.length : Int) := by omega
          clear hx hy
          go_wp2
          refine wp_region_tree [11] (.free 0 (.free 1 (.free 2 (.free 3 (.free 4 (.free 5 (.free 6 (.free 7 (.free 8 (.free 9 (.free 10 (.last 11 .nil)))))))))))) (by kernel_rfl) (by kernel_rfl) (fun _ _ d _ _ h => by cases d <;> exact h) ?_
          conv => arg 4; whnf
          conv => arg 4; arg 1; whnf
          refine pt_free (by rfl) (fun K hK => ?_)
          go_big_quiet_op
          first | (refine hK _ ?_; clear hK K) | (refine ⟨_, fun _ _ => rfl, hK _ ?_⟩; clear hK K)
          conv => arg 4; whnf
          conv => arg 4; arg 1; whnf
          refine pt_load (fun W h => load_ints _ _ W h) (p := ⟨O, 0, none⟩) f0 hOl (by rfl) rfl rfl ?_
          simp only [Act.put, List.setIfInBounds_toArray, List.set_cons_zero, List.set_cons_succ]
          conv => arg 4; whnf
          conv => arg 4; arg 1; whnf
          refine pt_free (by rfl) (fun K hK => ?_)
          go_big_quiet_op
          first | (refine hK _ ?_; clear hK K) | (refine ⟨_, fun _ _ => rfl, hK _ ?_⟩; clear hK K)
          conv => arg 4; whnf
          conv => arg 4; arg 1; whnf
          refine pt_free (by rfl) (fun K hK => ?_)
          go_big_quiet_op
          first | (refine hK _ ?_; clear hK K) | (refine ⟨_, fun _ _ => rfl, hK _ ?_⟩; clear hK K)
          conv => arg 4; whnf
          conv => arg 4; arg 1; whnf
          refine pt_free (by rfl) (fun K hK => ?_)
          go_big_quiet_op
          first | (refine hK _ ?_; clear hK K) | (refine ⟨_, fun _ _ => rfl, hK _ ?_⟩; clear hK K)
          conv => arg 4; whnf
          conv => arg 4; arg 1; whnf
          refine pt_load (fun W h => load_int _ _ W h) (p := adx.add k) hcx hxl (by rfl) rfl rfl ?_
          simp only [Act.put, List.setIfInBounds_toArray, List.set_cons_zero, List.set_cons_succ]
          conv => arg 4; whnf
          conv => arg 4; arg 1; whnf
          refine pt_free (by rfl) (fun K hK => ?_)
          go_big_quiet_op
          first | (refine hK _ ?_; clear hK K) | (refine ⟨_, fun _ _ => rfl, hK _ ?_⟩; clear hK K)
          conv => arg 4; whnf
          conv => arg 4; arg 1; whnf
          refine pt_free (by rfl) (fun K hK => ?_)
          go_big_quiet_op
          first | (refine hK _ ?_; clear hK K) | (refine ⟨_, fun _ _ => rfl, hK _ ?_⟩; clear hK K)
          conv => arg 4; whnf
          conv => arg 4; arg 1; whnf
          refine pt_free (by rfl) (fun K hK => ?_)
          go_big_quiet_op
          first | (refine hK _ ?_; clear hK K) | (refine ⟨_, fun _ _ => rfl, hK _ ?_⟩; clear hK K)
          conv => arg 4; whnf
          conv => arg 4; arg 1; whnf
          refine pt_load (fun W h => load_int _ _ W h) (p := ady.add k) hcy hyl (by rfl) rfl rfl ?_
          simp only [Act.put, List.setIfInBounds_toArray, List.set_cons_zero, List.set_cons_succ]
          conv => arg 4; whnf
          conv => arg 4; arg 1; whnf
          refine pt_free (by rfl) (fun K hK => ?_)
          go_big_quiet_op
          first | (refine hK _ ?_; clear hK K) | (refine ⟨_, fun _ _ => rfl, hK _ ?_⟩; clear hK K)
          conv => arg 4; whnf
          conv => arg 4; arg 1; whnf
          refine pt_last (by rfl) (fun K hK => ?_)
          go_wp2
          refine pt_nil ?_
          go_wp2
          go_roundw
          case rel => exact ⟨k + 1, by omega, by go_num, by rw [hsn.out]; exact F.drew.set_ p1 p2, by simpa using hsz, fun q hq => (cellSet (a := ⟨g, p1, none⟩) hq).trans (hcell.out q hq)⟩
          case measure => first | (simp [intOf]; done) | (simp [intOf]; omega)
        · obtain rfl : k = ps.length := by omega
          have HFk := HF.out ps.length
          have hAt : At1 vInt wr (some ⟨g, 0, none⟩) (Al.setAll (List.replicate a.length (-1)) (ps.take ps.length)) := At1.of_own F.own (by rw [F.len]; omega)
          go_wp2_with fail
          refine (filled_rd wr ⟨g, 0, none⟩ _ a.length a.length b.length F.len hAt (by omega) HFk (by omega) (by omega) F.lt.2.2).mono ?_
          rintro e w5 ⟨A5, c5, rfl, hown, hb5⟩
          have F5 := F.keep hb5
          obtain ⟨h0, h1, h2, h3, h4, h5⟩ := F5.facts
          go_wp2
          have hz : ((w5.setCell ⟨w.heap.size, 0, none⟩ (.slice A5 a.length c5)).setCell ⟨w.heap.size, 1, none⟩ (.int .i64 b.length)).heap[w.heap.size]? = some (.cells #[.slice A5 a.length c5, .int .i64 b.length] 30 (0, 0)) := by simp [World.setCell, Array.getElem?_modify, F5.res]
          obtain ⟨q0, q1, _⟩ := zfacts hz
          have hrl := F.lt
          have hlo : ∀ k, (Value.slice A5 a.length c5).ownBlock = some k → k ≠ w.heap.size := fun k e => by have := (hown.lt k e).1; omega
          have hown6 := ownsRow_setCell_other (ownsRow_setCell_other hown (fun e => hlo _ e rfl) (.slice A5 a.length c5) (a := ⟨w.heap.size, 0, none⟩)) (fun e => hlo _ e rfl) (.int .i64 b.length) (a := ⟨w.heap.size, 1, none⟩)
          have hb6 := (F5.below.setCell (p := ⟨w.heap.size, 0, none⟩) (Nat.le_refl _) (.slice A5 a.length c5)).setCell (p := ⟨w.heap.size, 1, none⟩) (Nat.le_refl _) (.int .i64 b.length)
          refine bodyPost_ret (v := .agg #[.slice A5 a.length c5, .int .i64 b.length]) ?_ rfl ?_
          · simp [results, Try.f29, go_sem, q0, q1]
          · exact ⟨_, rfl, by rw [HR.out]; exact own_base hown6 F.below.size, hb6⟩
end Go.Proofs.Ythoccmgfpjfkoaa
