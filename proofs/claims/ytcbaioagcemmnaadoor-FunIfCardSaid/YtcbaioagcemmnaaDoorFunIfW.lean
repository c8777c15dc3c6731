/- The walk of FunIf. Written by funifwgen.py. -/
import Derived.Test.YtcbaioagcemmnaaDoorFunIf
namespace Go.Proofs.YtcbaioagcemmnaaDoor
open Go.RowKit Go.Maps
theorem rule_if (A : Option Addr) (n : Nat) (h : n = 2 ∨ n = 3) : (ruleTab A n n).atKey (.string (⟨#[73, 70]⟩ : ByteArray).data.toList) .nil = .held (.agg #[.int .i64 2, .int .i64 3, .bool false, .bool false, .func (.func 23) #[.agg #[.slice A n n]] #[]]) := by
  rcases h with rfl | rfl <;> kernel_rfl
/-- what IF makes of three, of two -/
def vif3 (x y z : V3) : V3 := if x.1 = 4 then x else if x.1 = 2 then (4, 1, noB) else if x.2.1 ≠ 0 then y else z
def vif2 (x y : V3) : V3 := vif3 x y (3, 0, noB)
theorem fork3 (w : World) (A : Option Addr) (g1 g2 g3 : Nat) (x y z : V3) (hA : AtA w A [oneArg (some ⟨g1, 0, none⟩) x, oneArg (some ⟨g2, 0, none⟩) y, oneArg (some ⟨g3, 0, none⟩) z]) (hm : mayV x) :
    Calls Tryd.prog 23 #[.agg #[.slice A 3 3]] w fun e w' => e = .returned (vv (vif3 x y z)) ∧ Below w.heap.size w w' := by
  obtain ⟨k, n, s⟩ := x
  obtain ⟨k2, n2, s2⟩ := y
  obtain ⟨k3, n3, s3⟩ := z
  by_cases h4 : k = 4
  · subst h4
    exact fork_err w A [_, _, _] 3 hA (oneArg (some ⟨g1, 0, none⟩) (4, n, s)) 4 n s rfl rfl hm rfl
  by_cases h2 : k = 2
  · subst h2
    exact fork_bad w A [_, _, _] 3 hA (oneArg (some ⟨g1, 0, none⟩) (2, n, s)) 2 n s rfl rfl hm rfl
  have hk : k = 0 ∨ k = 1 ∨ k = 3 := by rcases hm with ⟨h, _⟩ | ⟨h, _⟩ | ⟨h, _⟩ | ⟨h, _⟩ | ⟨h, _⟩ <;> simp only at h <;> omega
  by_cases hn : n = 0
  · rw [show vif3 (k, n, s) (k2, n2, s2) (k3, n3, s3) = (k3, n3, s3) by unfold vif3; rw [if_neg h4, if_neg h2, if_neg (by simpa using hn)]]
    exact fork_no3 w A [_, _, _] 3 hA (oneArg (some ⟨g1, 0, none⟩) (k, n, s)) k n s rfl rfl hm hk hn rfl (oneArg (some ⟨g3, 0, none⟩) (k3, n3, s3)) k3 n3 s3 rfl rfl
  · rw [show vif3 (k, n, s) (k2, n2, s2) (k3, n3, s3) = (k2, n2, s2) by unfold vif3; rw [if_neg h4, if_neg h2, if_pos hn]]
    exact fork_yes w A [_, _, _] 3 hA (oneArg (some ⟨g1, 0, none⟩) (k, n, s)) k n s rfl rfl hm hk hn (oneArg (some ⟨g2, 0, none⟩) (k2, n2, s2)) k2 n2 s2 rfl rfl
theorem fork2 (w : World) (A : Option Addr) (g1 g2 : Nat) (x y : V3) (hA : AtA w A [oneArg (some ⟨g1, 0, none⟩) x, oneArg (some ⟨g2, 0, none⟩) y]) (hm : mayV x) :
    Calls Tryd.prog 23 #[.agg #[.slice A 2 2]] w fun e w' => e = .returned (vv (vif2 x y)) ∧ Below w.heap.size w w' := by
  obtain ⟨k, n, s⟩ := x
  obtain ⟨k2, n2, s2⟩ := y
  by_cases h4 : k = 4
  · subst h4
    exact fork_err w A [_, _] 2 hA (oneArg (some ⟨g1, 0, none⟩) (4, n, s)) 4 n s rfl rfl hm rfl
  by_cases h2 : k = 2
  · subst h2
    exact fork_bad w A [_, _] 2 hA (oneArg (some ⟨g1, 0, none⟩) (2, n, s)) 2 n s rfl rfl hm rfl
  have hk : k = 0 ∨ k = 1 ∨ k = 3 := by rcases hm with ⟨h, _⟩ | ⟨h, _⟩ | ⟨h, _⟩ | ⟨h, _⟩ | ⟨h, _⟩ <;> simp only at h <;> omega
  by_cases hn : n = 0
  · rw [show vif2 (k, n, s) (k2, n2, s2) = (3, 0, noB) by unfold vif2 vif3; rw [if_neg h4, if_neg h2, if_neg (by simpa using hn)]]
    exact fork_no2 w A [_, _] 2 hA (oneArg (some ⟨g1, 0, none⟩) (k, n, s)) k n s rfl rfl hm hk hn rfl
  · rw [show vif2 (k, n, s) (k2, n2, s2) = (k2, n2, s2) by unfold vif2 vif3; rw [if_neg h4, if_neg h2, if_pos hn]]
    exact fork_yes w A [_, _] 2 hA (oneArg (some ⟨g1, 0, none⟩) (k, n, s)) k n s rfl rfl hm hk hn (oneArg (some ⟨g2, 0, none⟩) (k2, n2, s2)) k2 n2 s2 rfl rfl
def MadeSome (w : World) (e : Ending) (w' : World) : Prop := ∃ k n s, e = .returned (.agg #[.int .i64 k, .int .i64 n, .string s]) ∧ Below w.heap.size w w'
theorem make_some (w : World) (k : Nat) (n : Int) (s : ByteArray) : Calls Tryd.prog 13 #[.int .u8 k, .int .i64 n, .string s] w (MadeSome w) :=
  (make_any w k n s).mono fun _ _ h => ⟨_, _, _, h.1, h.2⟩
theorem callA3 (w : World) (G g1 g2 g3 : Nat) (x y z : V3) (hA : AtA w (some ⟨G, 0, none⟩) [oneArg (some ⟨g1, 0, none⟩) x, oneArg (some ⟨g2, 0, none⟩) y, oneArg (some ⟨g3, 0, none⟩) z]) (hm : mayV x) (kv nv : Int) (sv : ByteArray) (hv : vif3 x y z = (kv, nv, sv)) :
    Calls Tryd.prog 12 #[.string ⟨#[73, 70]⟩, .slice (some ⟨G, 0, none⟩) 3 3] w fun e w' => e = .returned (.agg #[.int .i64 kv, .int .i64 nv, .string sv]) ∧ Below w.heap.size w w' :=
  call_any w (some ⟨G, 0, none⟩) [oneArg (some ⟨g1, 0, none⟩) x, oneArg (some ⟨g2, 0, none⟩) y, oneArg (some ⟨g3, 0, none⟩) z] 3 ⟨#[73, 70]⟩ (by unfold maxLen; decide) 2 3 false false 23 (rule_if _ 3 (.inr rfl)) hA (by simp) (by simp) (fun a ha => by
      simp only [List.mem_cons, List.not_mem_nil, or_false] at ha
      rcases ha with rfl | rfl | rfl <;> exact ⟨fun h => absurd h (by simp [oneArg]), fun _ => rfl⟩) (fun _ _ _ _ h => absurd h (by simp)) kv nv sv (fun us W => run_enter Tryd.func23 (by kernel_rfl) rfl us W)
    (fun W hW => by have := fork3 W (some ⟨G, 0, none⟩) g1 g2 g3 x y z (hA.below hW) hm; rw [hv] at this; exact this)
theorem callA2 (w : World) (G g1 g2 : Nat) (x y : V3) (hA : AtA w (some ⟨G, 0, none⟩) [oneArg (some ⟨g1, 0, none⟩) x, oneArg (some ⟨g2, 0, none⟩) y]) (hm : mayV x) (kv nv : Int) (sv : ByteArray) (hv : vif2 x y = (kv, nv, sv)) :
    Calls Tryd.prog 12 #[.string ⟨#[73, 70]⟩, .slice (some ⟨G, 0, none⟩) 2 2] w fun e w' => e = .returned (.agg #[.int .i64 kv, .int .i64 nv, .string sv]) ∧ Below w.heap.size w w' :=
  call_any w (some ⟨G, 0, none⟩) [oneArg (some ⟨g1, 0, none⟩) x, oneArg (some ⟨g2, 0, none⟩) y] 2 ⟨#[73, 70]⟩ (by unfold maxLen; decide) 2 3 false false 23 (rule_if _ 2 (.inl rfl)) hA (by simp) (by simp) (fun a ha => by
      simp only [List.mem_cons, List.not_mem_nil, or_false] at ha
      rcases ha with rfl | rfl <;> exact ⟨fun h => absurd h (by simp [oneArg]), fun _ => rfl⟩) (fun _ _ _ _ h => absurd h (by simp)) kv nv sv (fun us W => run_enter Tryd.func23 (by kernel_rfl) rfl us W)
    (fun W hW => by have := fork2 W (some ⟨G, 0, none⟩) g1 g2 x y (hA.below hW) hm; rw [hv] at this; exact this)
end Go.Proofs.YtcbaioagcemmnaaDoor
