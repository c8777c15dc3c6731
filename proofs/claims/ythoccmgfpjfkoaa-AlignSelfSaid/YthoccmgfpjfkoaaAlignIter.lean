/- The walks of slices.Clone and slices.Backward. -/
import Derived.Lib.LazyBuf
import Derived.RangeFuncNested
import Derived.RangeFuncBound
import Derived.RangeFuncCalls
import Derived.RangeFuncLeaves
import Derived.RangeFuncBox
import Derived.Shelf.Abstract
import Derived.Shelf.RegionOpen
import Derived.WalkKit
import Derived.OwnWalkIn
import Derived.TacticsInMore
import Derived.LoopNIn
import Derived.LoopIn
import Derived.Test.YthoccmgfpjfkoaaLcsB
import Derived.Test.YthoccmgfpjfkoaaOwn
import Derived.Test.YthoccmgfpjfkoaaAlignPlain
namespace Go.Proofs.Ythoccmgfpjfkoaa
open Go.RowKit Go.Shelf

set_option maxRecDepth 100000 in
theorem clone_any (w : World) (A : Option Addr) (l : List Int) (c : Nat) (hA : At1 vInt w A l) (hl : l.length ≤ 1000) :
    Calls Try.prog 53 #[.slice A l.length c] w fun e w' => ∃ v, e = .returned v ∧ w'.ownsRow w.heap.size 3 1 v l.length (l.map vInt) ∧ Below w.heap.size w w' := by
  rcases A with _ | ad
  · have h0 : l = [] := by
      match l, hA with
      | [], _ => rfl
      | _ :: _, hA => obtain ⟨ad, e, _⟩ := hA.2 (by simp); cases e
    subst h0
    have he := Go.run_eql_slice_nil (P := Try.prog) w 25 3 none 0 c Try.underlying25
    go_enter Try.func53, Try.ntmps53
    go_wp2
    go_ret
    exact ⟨_, rfl, World.ownsRow_nil _ _ _ _, Below.refl _ _⟩
  · have H := Lib.hid hA
    clear hA
    have he := Go.run_eql_slice_nil (P := Try.prog) w 25 3 (some ad) l.length c Try.underlying25
    go_enter Try.func53, Try.ntmps53
    have hA1 := H.out.alloc (.cells #[] 3)
    have hown : (w.alloc (.cells #[] 3)).ownsRow w.heap.size 3 1 (.slice (some ⟨w.heap.size, 0, none⟩) 0 0) 0 [] := own_lit0 (Nat.le_refl _)
    go_wp2_with (at_builtin; refine wpList_appAll eInt rfl rfl hown rfl rfl rfl hA1 (fun _ => rfl) (by omega) (by simp) ?_; intro v3 w3 hown3 hg3 hk3)
    go_ret
    have hb : Below w.heap.size w (w.alloc (.cells #[] 3)) := (Below.refl _ _).alloc (Nat.le_refl _) _
    rw [Nat.zero_add, List.nil_append] at hown3
    exact ⟨_, rfl, hown3, below_grown hb hown hg3 (Nat.le_refl _) (by simp)⟩

attribute [local go_sem] Oper.semAt_some

/-- a place of a list and what stands there -/
structure Spot (zs : List Int) where
  i : Nat
  v : Int
  h : zs[i]? = some v
def encs {zs : List Int} (x : Spot zs) : Array Value := #[.int .i64 (x.i : Int), .int .i64 x.v]

theorem down_step {zs : List Int} {pre : List (Spot zs)} {j : Nat} {x : Spot zs} (hj : j < zs.length) (hx : x.i = j) (h : pre.map Spot.i = (List.range' (j + 1) (zs.length - (j + 1))).reverse) :
    (pre ++ [x]).map Spot.i = (List.range' j (zs.length - j)).reverse := by
  rw [List.map_append, h, show zs.length - j = (zs.length - (j + 1)) + 1 from by omega, List.range'_succ, List.reverse_cons]
  simp [hx]

/-- what lies in two blocks stays -/
def KeptP (b1 b2 : Nat) (W W' : World) : Prop := ∀ p : Addr, (p.block = b1 ∨ p.block = b2) → W'.cell? p = W.cell? p
theorem KeptP.refl (b1 b2 : Nat) (W : World) : KeptP b1 b2 W W := fun _ _ => rfl
theorem KeptP.trans {b1 b2 : Nat} {A B C : World} (h : KeptP b1 b2 A B) (k : KeptP b1 b2 B C) : KeptP b1 b2 A C := fun p hp => (k p hp).trans (h p hp)
theorem KeptP.set {b1 b2 : Nat} {A B : World} (h : KeptP b1 b2 A B) {a : Addr} (h1 : a.block ≠ b1) (h2 : a.block ≠ b2) (v : Value) : KeptP b1 b2 A (B.setCell a v) := fun p hp => by
  have e : a ≠ p := by
    intro e; subst e
    rcases hp with hp | hp
    · exact h1 hp
    · exact h2 hp
  rw [World.cell?_setCell_other (h := e)]
  exact h p hp

set_option maxRecDepth 100000 in
set_option maxHeartbeats 2000000 in
/-- slices.Backward's closure -/
theorem back1_in (F : Fence) (n : Nat) (h7 : F.fn 63) (hro : F.round = none) (hn : 1 ≤ n) (l Bs : Nat) (ad : Addr) (cap : Nat) (zs : List Int) (hreach : zs.length ≤ 1000) (J Jx : List (Spot zs) → World → Prop)
    (hY : ∀ pre x W, J pre W → pre.length < zs.length → YieldAt F (n - 1) Try.prog l #[.int .i64 ((x : Spot zs).i : Int), .int .i64 x.v] W fun e W' =>
      (e = .returned (.bool true) ∧ J (pre ++ [x]) W' ∧ KeptP ad.block Bs W W') ∨ (e = .returned (.bool false) ∧ Jx (pre ++ [x]) W'))
    (W : World) (hBs : W.cell? ⟨Bs, 0, none⟩ = some (.slice (some ad) zs.length cap)) (hc : ∀ (j : Nat) (x : Int), zs[j]? = some x → W.cell? (ad.add j) = some (.int .i64 x)) (h0 : J [] W) :
    CallsIn F n Try.prog 63 #[.func (.yield l) #[] #[], .pointer (some ⟨Bs, 0, none⟩)] W fun e W' => (∃ v, e = .returned v) ∧
      ((∃ ys, ys.map Spot.i = (List.range' 0 zs.length).reverse ∧ J ys W') ∨ (∃ pre, True ∧ Jx pre W')) := by
  refine callsIn_of_wp Try.func63 rfl h7 ?_ hro
  simp only [Try.ntmps63, List.size_toArray, List.length_cons, List.length_nil, Nat.reduceAdd, Nat.reduceSub, Array.replicate_succ, Array.replicate_zero, List.push_toArray, List.append_toArray, List.nil_append, List.cons_append]
  gi_wp2
  gi_loopw [3] (fun i wr => ∃ (j : Nat) (z : Int) (pre : List (Spot zs)), j ≤ zs.length ∧ i = .int .i64 z ∧ z = (j : Int) - 1 ∧ pre.map Spot.i = (List.range' j (zs.length - j)).reverse ∧ J pre wr ∧ KeptP ad.block Bs W wr)
    (fun i _ => (intOf i + 1).toNat)
  case atStart => exact ⟨zs.length, _, [], Nat.le_refl _, rfl, by go_num, by simp, h0, KeptP.refl _ _ _⟩
  case round =>
    obtain ⟨j, z, pre, hj, rfl, hz, hpre, hJs, hnx⟩ := hrel
    have hBx := (hnx ⟨Bs, 0, none⟩ (.inr rfl)).trans hBs
    cases j with
    | zero =>
      have hz0 : ¬ ((0 : Int) ≤ z) := by omega
      have HP := Lib.hid hpre
      clear hpre hz
      gi_wp2
      go_end0
      exact ⟨⟨_, rfl⟩, .inl ⟨pre, by simpa using HP.out, hJs⟩⟩
    | succ j =>
      obtain rfl : z = (j : Int) := by omega
      have hx : zs[j]? = some zs[j] := List.getElem?_eq_getElem hj
      generalize zs[j] = v at hx
      have hcx : wr.cell? (ad.add j) = some (.int .i64 v) := (hnx _ (.inl (block_of_add _ _))).trans (hc j v hx)
      have hpl : pre.length < zs.length := by have := congrArg List.length hpre; simp at this; omega
      obtain ⟨fn, tmps, assign, body, hy, hR⟩ := hY pre ⟨j, v, hx⟩ wr hJs hpl
      dsimp only at hy
      have hjl : (j : Int) < (zs.length : Int) := by omega
      have HP := Lib.hid hpre
      have HX := Lib.hid hx
      clear hpre hc hpl hz
      gi_wp2
      refine hR.mono ?_
      rintro e W3 (⟨rfl, hJ3, hk3⟩ | ⟨rfl, hJx3⟩)
      · gi_wp2
        go_roundw
        case rel => exact ⟨j, _, pre ++ [⟨j, v, hx⟩], by omega, rfl, by go_num, down_step (by omega) rfl HP.out, hJ3, hnx.trans hk3⟩
        case measure => first | (simp [intOf]; done) | (simp [intOf]; omega)
      · gi_wp2
        refine bodyPost_ret (results_none rfl _ _ _) rfl ?_
        exact ⟨⟨_, rfl⟩, .inr ⟨_, trivial, hJx3⟩⟩

set_option maxHeartbeats 1000000 in
theorem back_in (F : Fence) (n : Nat) (h5 : F.fn 54) (hro : F.round = none) (a : Option Addr) (len cap : Nat) (w : World) :
    CallsIn F n Try.prog 54 #[.slice a len cap] w fun e w' => e = .returned (.func (.func 63) #[] #[.pointer (some ⟨w.heap.size, 0, none⟩)]) ∧ w' = w.alloc (.cells #[.slice a len cap] 25) := by
  refine callsIn_of_wp Try.func54 rfl h5 ?_ hro
  simp only [Try.ntmps54, List.size_toArray, List.length_cons, List.length_nil, Nat.reduceAdd, Nat.reduceSub, Array.replicate_succ, Array.replicate_zero, List.push_toArray, List.append_toArray, List.nil_append, List.cons_append]
  gi_wp2
  go_ret
  exact ⟨rfl, rfl⟩

theorem back_stops (F : Fence) (n : Nat) (h7 : F.fn 63) (hro : F.round = none) (hn : 1 ≤ n) (Bs : Nat) (ad : Addr) (cap : Nat) (zs : List Int) (hreach : zs.length ≤ 1000) (w : World) (hBs : Bs < w.heap.size)
    (hb : ad.block < w.heap.size) (hc : w.cell? ⟨Bs, 0, none⟩ = some (.slice (some ad) zs.length cap)) (hI : ∀ (j : Nat) (x : Int), zs[j]? = some x → w.cell? (ad.add j) = some (.int .i64 x)) :
    SeqStopsK F n Try.prog 63 #[.pointer (some ⟨Bs, 0, none⟩)] (fun x : Spot zs => #[Value.int .i64 (x.i : Int), Value.int .i64 x.v]) (KeptP ad.block Bs) (fun ys => ys.map Spot.i = (List.range' 0 zs.length).reverse)
      (fun _ => True) zs.length w := fun l J Jx W hW _ _ hY h0 =>
  back1_in F n h7 hro hn l Bs ad cap zs hreach J Jx hY W ((hW.cell (p := ⟨Bs, 0, none⟩) hBs).trans hc) (fun j x hx => (hW.cell (by rw [block_of_add]; exact hb)).trans (hI j x hx)) h0
end Go.Proofs.Ythoccmgfpjfkoaa
