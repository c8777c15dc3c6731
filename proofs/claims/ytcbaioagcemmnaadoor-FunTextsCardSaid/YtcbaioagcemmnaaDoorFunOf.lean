/- (fun.call).of: the map of rules, and one look into it. Written by funofgen.py. -/
import Derived.Test.YtcbaioagcemmnaaDoorHeld
namespace Go.Proofs.YtcbaioagcemmnaaDoor
open Go.RowKit Go.Maps
/-- the rules of a call -/
def ruleTab (A : Option Addr) (l c : Nat) : DataW Value := (((((((((((((((((((DataW.map []).put (.string [83, 85, 77]) (.held (.agg #[.int .i64 1, .int .i64 9223372036854775807, .bool true, .bool true, .func (.func 17) #[.agg #[.slice A l c]] #[]]))).put (.string [77, 73, 78]) (.held (.agg #[.int .i64 1, .int .i64 9223372036854775807, .bool true, .bool true, .func (.func 18) #[.agg #[.slice A l c]] #[]]))).put (.string [77, 65, 88]) (.held (.agg #[.int .i64 1, .int .i64 9223372036854775807, .bool true, .bool true, .func (.func 19) #[.agg #[.slice A l c]] #[]]))).put (.string [67, 79, 85, 78, 84]) (.held (.agg #[.int .i64 1, .int .i64 9223372036854775807, .bool true, .bool false, .func (.func 20) #[.agg #[.slice A l c]] #[]]))).put (.string [65, 78, 68]) (.held (.agg #[.int .i64 1, .int .i64 9223372036854775807, .bool true, .bool true, .func (.func 21) #[.agg #[.slice A l c]] #[]]))).put (.string [79, 82]) (.held (.agg #[.int .i64 1, .int .i64 9223372036854775807, .bool true, .bool true, .func (.func 22) #[.agg #[.slice A l c]] #[]]))).put (.string [73, 70]) (.held (.agg #[.int .i64 2, .int .i64 3, .bool false, .bool false, .func (.func 23) #[.agg #[.slice A l c]] #[]]))).put (.string [78, 79, 84]) (.held (.agg #[.int .i64 1, .int .i64 1, .bool false, .bool true, .func (.func 24) #[.agg #[.slice A l c]] #[]]))).put (.string [65, 66, 83]) (.held (.agg #[.int .i64 1, .int .i64 1, .bool false, .bool true, .func (.func 25) #[.agg #[.slice A l c]] #[]]))).put (.string [77, 79, 68]) (.held (.agg #[.int .i64 2, .int .i64 2, .bool false, .bool true, .func (.func 26) #[.agg #[.slice A l c]] #[]]))).put (.string [76, 69, 78]) (.held (.agg #[.int .i64 1, .int .i64 1, .bool false, .bool true, .func (.func 27) #[.agg #[.slice A l c]] #[]]))).put (.string [76, 69, 70, 84]) (.held (.agg #[.int .i64 2, .int .i64 2, .bool false, .bool true, .func (.func 28) #[.agg #[.slice A l c]] #[]]))).put (.string [82, 73, 71, 72, 84]) (.held (.agg #[.int .i64 2, .int .i64 2, .bool false, .bool true, .func (.func 29) #[.agg #[.slice A l c]] #[]]))).put (.string [77, 73, 68]) (.held (.agg #[.int .i64 3, .int .i64 3, .bool false, .bool true, .func (.func 30) #[.agg #[.slice A l c]] #[]]))).put (.string [67, 79, 78, 67, 65, 84]) (.held (.agg #[.int .i64 1, .int .i64 9223372036854775807, .bool true, .bool true, .func (.func 31) #[.agg #[.slice A l c]] #[]]))).put (.string [73, 83, 69, 82, 82]) (.held (.agg #[.int .i64 1, .int .i64 1, .bool false, .bool false, .func (.func 32) #[.agg #[.slice A l c]] #[]]))).put (.string [82, 79, 87, 83]) (.held (.agg #[.int .i64 1, .int .i64 1, .bool true, .bool false, .func (.func 33) #[.agg #[.slice A l c]] #[]]))).put (.string [67, 79, 76, 83]) (.held (.agg #[.int .i64 1, .int .i64 1, .bool true, .bool false, .func (.func 34) #[.agg #[.slice A l c]] #[]])))
theorem zeroRule (w : World) : (zeroValue 47).run Tryd.prog w = .ok (.agg #[.int .i64 0, .int .i64 0, .bool false, .bool false, .nilFunc]) w := by kernel_rfl
theorem zf1 {w1 : World} {g : Nat} {a : Value} {t : TypeId} (z : w1.heap[g]? = some (.cells #[a] t (0, 0))) : w1.cell? ⟨g, 0, none⟩ = some a := by simp [World.cell?, z]
theorem grown_blk' {w w' : World} {b g : Nat} {o : Obj} (h : w.grownBy w' (some b)) (hg : w.heap[g]? = some o) (hne : g ≠ b) : w'.heap[g]? = some o :=
  (h.block g (Array.getElem?_eq_some_iff.1 hg).1 (fun e => hne (Option.some.inj e))).trans hg
theorem below_map' {B b : Nat} {w0 w w' : World} (hb : Below B w0 w) (h : w.grownBy w' (some b)) (hB : B ≤ b) (hs : B ≤ w.heap.size) : Below B w0 w' := hb.grown h hs fun k hk => by injection hk with hk; omega
theorem five {w1 : World} {g : Nat} {a b c d e : Value} {t : TypeId} (z : w1.heap[g]? = some (.cells #[a, b, c, d, e] t (0, 0))) : w1.cell? ⟨g, 0, none⟩ = some a ∧ w1.cell? ⟨g, 1, none⟩ = some b ∧ w1.cell? ⟨g, 2, none⟩ = some c ∧ w1.cell? ⟨g, 3, none⟩ = some d ∧ w1.cell? ⟨g, 4, none⟩ = some e ∧
    w1.frozen? ⟨g, 0, none⟩ = false ∧ w1.frozen? ⟨g, 1, none⟩ = false ∧ w1.frozen? ⟨g, 2, none⟩ = false ∧ w1.frozen? ⟨g, 3, none⟩ = false ∧ w1.frozen? ⟨g, 4, none⟩ = false := by simp [World.cell?, World.frozen?, z]
theorem five_store {W : World} {O : Nat} {a b c d e x y z u v : Value} (h : W.heap[O]? = some (.cells #[a, b, c, d, e] 47 (0, 0))) : (((((W.setCell ⟨O, 0, none⟩ x).setCell ⟨O, 1, none⟩ y).setCell ⟨O, 2, none⟩ z).setCell ⟨O, 3, none⟩ u).setCell ⟨O, 4, none⟩ v).heap[O]? = some (.cells #[x, y, z, u, v] 47 (0, 0)) := by
  simp [World.setCell, Array.getElem?_modify, h]
set_option maxRecDepth 100000 in
set_option maxHeartbeats 8000000 in
theorem of_hit (w : World) (A : Option Addr) (l c : Nat) (name : ByteArray) (hn : name.size ≤ maxLen) (least most : Int) (rg td : Bool) (g : Nat) (hr : (ruleTab A l c).atKey (.string name.data.toList) .nil = .held (.agg #[.int .i64 least, .int .i64 most, .bool rg, .bool td, .func (.func g) #[.agg #[.slice A l c]] #[]])) :
    Calls Tryd.prog 15 #[.agg #[.slice A l c], .string name] w fun e w' => e = .returned (.tuple #[.agg #[.int .i64 least, .int .i64 most, .bool rg, .bool td, .func (.func g) #[.agg #[.slice A l c]] #[]], .bool true]) ∧ Below w.heap.size w w' := by
  have hmm := @run_makeMap Tryd.prog
  have HRR := Lib.hid hr
  have HN := Lib.hid hn
  clear hr hn
  obtain ⟨P, hP⟩ : ∃ P, w.heap.size = P := ⟨_, rfl⟩
  have hX : (((w.alloc (.cells #[.slice A l c] 44)).alloc (.cells #[.int .i64 0, .int .i64 0, .bool false, .bool false, .nilFunc] 47)).alloc (.map #[] 0)).heap[P]? = some (.cells #[.slice A l c] 44 (0, 0)) := by rw [← hP]; exact (Below.heap_alloc _ _ _ (by simp; omega)).trans ((Below.heap_alloc _ _ _ (by simp)).trans (heap_alloc_new _ _))
  have hY : (((w.alloc (.cells #[.slice A l c] 44)).alloc (.cells #[.int .i64 0, .int .i64 0, .bool false, .bool false, .nilFunc] 47)).alloc (.map #[] 0)).heap[P + 1]? = some (.cells #[.int .i64 0, .int .i64 0, .bool false, .bool false, .nilFunc] 47 (0, 0)) := by rw [← hP]; exact (Below.heap_alloc _ _ _ (by simp)).trans (by rw [← World.size_alloc w (.cells #[.slice A l c] 44)]; exact heap_alloc_new _ _)
  have hb : Below P w (((w.alloc (.cells #[.slice A l c] 44)).alloc (.cells #[.int .i64 0, .int .i64 0, .bool false, .bool false, .nilFunc] 47)).alloc (.map #[] 0)) := by rw [← hP]; exact (((Below.refl _ _).alloc (Nat.le_refl _) _).alloc (by simp) _).alloc (by simp; omega) _
  have hown : (((w.alloc (.cells #[.slice A l c] 44)).alloc (.cells #[.int .i64 0, .int .i64 0, .bool false, .bool false, .nilFunc] 47)).alloc (.map #[] 0)).ownsMap Tryd.prog 9 HR (P + 1 + 1) 0 (.map []) := by
    have h := World.ownsMap_made ((w.alloc (.cells #[.slice A l c] 44)).alloc (.cells #[.int .i64 0, .int .i64 0, .bool false, .bool false, .nilFunc] 47)) Tryd.prog 9 HR
    rwa [World.size_alloc, World.size_alloc, hP] at h
  have c0 := zf1 hX
  rw [hP]
  go_enter Tryd.func15, Tryd.ntmps15
  go_wp2_with (first | (with_reducible refine upon_insert_str Tryd.underlying9 Tryd.underlying53 hown ?_ ?_ ?_; (unfold maxLen; omega); (unfold maxLen; decide); intro wc howN hgr; replace hX := grown_blk' hgr hX (by omega); replace hY := grown_blk' hgr hY (by omega); replace hb := below_map' hb hgr (by omega) (by have := hb.size; omega); replace hown := howN; clear c0 hgr howN; have c0 := zf1 hX))
  with_reducible refine upon_lookup_str Tryd.underlying9 Tryd.underlying53 (zeroRule _) (r := .tuple #[.agg #[.int .i64 least, .int .i64 most, .bool rg, .bool td, .func (.func g) #[.agg #[.slice A l c]] #[]], .bool true]) hown HN.out ?_ ?_
  · exact .inl ⟨_, HRR.out, rfl⟩
  clear hown hmm HRR HN hX c0
  have hYB := (Below.heap_alloc wc (.cells #[.int .i64 least, .int .i64 most, .bool rg, .bool td, .func (.func g) #[.agg #[.slice A l c]] #[]] 47) (P + 1) (Array.getElem?_eq_some_iff.1 hY).1).trans hY
  have hbB := hb.alloc (by have := hb.size; omega) (.cells #[.int .i64 least, .int .i64 most, .bool rg, .bool td, .func (.func g) #[.agg #[.slice A l c]] #[]] 47)
  obtain ⟨q0, q1, q2, q3, q4, z0, z1, z2, z3, z4⟩ := five hYB
  clear hY hb
  go_wp2_with fail
  have hz := five_store (x := .int .i64 least) (y := .int .i64 most) (z := .bool rg) (u := .bool td) (v := .func (.func g) #[.agg #[.slice A l c]] #[]) hYB
  obtain ⟨u0, u1, u2, u3, u4, _⟩ := five hz
  clear hYB hz q0 q1 q2 q3 q4 z0 z1 z2 z3 z4
  refine bodyPost_ret (v := .tuple #[.agg #[.int .i64 least, .int .i64 most, .bool rg, .bool td, .func (.func g) #[.agg #[.slice A l c]] #[]], .bool true]) ?_ rfl ⟨rfl, ((((hbB.setCell (p := ⟨P + 1, 0, none⟩) (by show P ≤ P + 1; omega) _).setCell (p := ⟨P + 1, 1, none⟩) (by show P ≤ P + 1; omega) _).setCell (p := ⟨P + 1, 2, none⟩) (by show P ≤ P + 1; omega) _).setCell (p := ⟨P + 1, 3, none⟩) (by show P ≤ P + 1; omega) _).setCell (p := ⟨P + 1, 4, none⟩) (by show P ≤ P + 1; omega) _⟩
  simp [results, Tryd.f15, go_sem, u0, u1, u2, u3, u4]
set_option maxRecDepth 100000 in
set_option maxHeartbeats 8000000 in
theorem of_miss (w : World) (A : Option Addr) (l c : Nat) (name : ByteArray) (hn : name.size ≤ maxLen) (hr : (ruleTab A l c).atKey (.string name.data.toList) .nil = .nil) :
    Calls Tryd.prog 15 #[.agg #[.slice A l c], .string name] w fun e w' => e = .returned (.tuple #[.agg #[.int .i64 0, .int .i64 0, .bool false, .bool false, .nilFunc], .bool false]) ∧ Below w.heap.size w w' := by
  have hmm := @run_makeMap Tryd.prog
  have HRR := Lib.hid hr
  have HN := Lib.hid hn
  clear hr hn
  obtain ⟨P, hP⟩ : ∃ P, w.heap.size = P := ⟨_, rfl⟩
  have hX : (((w.alloc (.cells #[.slice A l c] 44)).alloc (.cells #[.int .i64 0, .int .i64 0, .bool false, .bool false, .nilFunc] 47)).alloc (.map #[] 0)).heap[P]? = some (.cells #[.slice A l c] 44 (0, 0)) := by rw [← hP]; exact (Below.heap_alloc _ _ _ (by simp; omega)).trans ((Below.heap_alloc _ _ _ (by simp)).trans (heap_alloc_new _ _))
  have hY : (((w.alloc (.cells #[.slice A l c] 44)).alloc (.cells #[.int .i64 0, .int .i64 0, .bool false, .bool false, .nilFunc] 47)).alloc (.map #[] 0)).heap[P + 1]? = some (.cells #[.int .i64 0, .int .i64 0, .bool false, .bool false, .nilFunc] 47 (0, 0)) := by rw [← hP]; exact (Below.heap_alloc _ _ _ (by simp)).trans (by rw [← World.size_alloc w (.cells #[.slice A l c] 44)]; exact heap_alloc_new _ _)
  have hb : Below P w (((w.alloc (.cells #[.slice A l c] 44)).alloc (.cells #[.int .i64 0, .int .i64 0, .bool false, .bool false, .nilFunc] 47)).alloc (.map #[] 0)) := by rw [← hP]; exact (((Below.refl _ _).alloc (Nat.le_refl _) _).alloc (by simp) _).alloc (by simp; omega) _
  have hown : (((w.alloc (.cells #[.slice A l c] 44)).alloc (.cells #[.int .i64 0, .int .i64 0, .bool false, .bool false, .nilFunc] 47)).alloc (.map #[] 0)).ownsMap Tryd.prog 9 HR (P + 1 + 1) 0 (.map []) := by
    have h := World.ownsMap_made ((w.alloc (.cells #[.slice A l c] 44)).alloc (.cells #[.int .i64 0, .int .i64 0, .bool false, .bool false, .nilFunc] 47)) Tryd.prog 9 HR
    rwa [World.size_alloc, World.size_alloc, hP] at h
  have c0 := zf1 hX
  rw [hP]
  go_enter Tryd.func15, Tryd.ntmps15
  go_wp2_with (first | (with_reducible refine upon_insert_str Tryd.underlying9 Tryd.underlying53 hown ?_ ?_ ?_; (unfold maxLen; omega); (unfold maxLen; decide); intro wc howN hgr; replace hX := grown_blk' hgr hX (by omega); replace hY := grown_blk' hgr hY (by omega); replace hb := below_map' hb hgr (by omega) (by have := hb.size; omega); replace hown := howN; clear c0 hgr howN; have c0 := zf1 hX))
  with_reducible refine upon_lookup_str Tryd.underlying9 Tryd.underlying53 (zeroRule _) (r := .tuple #[.agg #[.int .i64 0, .int .i64 0, .bool false, .bool false, .nilFunc], .bool false]) hown HN.out ?_ ?_
  · exact .inr ⟨HRR.out, rfl⟩
  clear hown hmm HRR HN hX c0
  have hYB := (Below.heap_alloc wc (.cells #[.int .i64 0, .int .i64 0, .bool false, .bool false, .nilFunc] 47) (P + 1) (Array.getElem?_eq_some_iff.1 hY).1).trans hY
  have hbB := hb.alloc (by have := hb.size; omega) (.cells #[.int .i64 0, .int .i64 0, .bool false, .bool false, .nilFunc] 47)
  obtain ⟨q0, q1, q2, q3, q4, z0, z1, z2, z3, z4⟩ := five hYB
  clear hY hb
  go_wp2_with fail
  have hz := five_store (x := .int .i64 0) (y := .int .i64 0) (z := .bool false) (u := .bool false) (v := .nilFunc) hYB
  obtain ⟨u0, u1, u2, u3, u4, _⟩ := five hz
  clear hYB hz q0 q1 q2 q3 q4 z0 z1 z2 z3 z4
  refine bodyPost_ret (v := .tuple #[.agg #[.int .i64 0, .int .i64 0, .bool false, .bool false, .nilFunc], .bool false]) ?_ rfl ⟨rfl, ((((hbB.setCell (p := ⟨P + 1, 0, none⟩) (by show P ≤ P + 1; omega) _).setCell (p := ⟨P + 1, 1, none⟩) (by show P ≤ P + 1; omega) _).setCell (p := ⟨P + 1, 2, none⟩) (by show P ≤ P + 1; omega) _).setCell (p := ⟨P + 1, 3, none⟩) (by show P ≤ P + 1; omega) _).setCell (p := ⟨P + 1, 4, none⟩) (by show P ≤ P + 1; omega) _⟩
  simp [results, Tryd.f15, go_sem, u0, u1, u2, u3, u4]
end Go.Proofs.YtcbaioagcemmnaaDoor
