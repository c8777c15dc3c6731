/- chequerlaw13's DepsRow. -/
import Derived.Test.YtgminjlnnpaefaaGreatDoorDepsRowR0
import Derived.Lib.Hide
import Derived.Test.YtgminjlnnpaefaaGreatDoorDepsRowR1
import Derived.Test.YtgminjlnnpaefaaGreatDoorDepsRowR2
import Derived.Test.YtgminjlnnpaefaaGreatDoorDepsRowR3
import Derived.Test.YtgminjlnnpaefaaGreatDoorDepsRowR4
namespace Go.Proofs.YtgminjlnnpaefaaGreatDoor
open Go.RowKit
set_option maxRecDepth 100000 in
set_option maxHeartbeats 2000000 in
theorem depsRow_of (w : World) (n : Nat) (hn : n < 256) (b : Bool) (k : Nat) (hk : 2 + (n : Int) % 10 = k) (run : ∀ n m : Int, VM.seeS (VM.exec VM.E2 3000 rowRest (VM.st0 n m k b)) = true) :
    Calls Tryz.prog 4 #[.int .u8 n, .bool b] w fun e w' => e = .returned (.bool true) ∧ Below w.heap.size w w' := by
  have hrest := rest_ok run n ((n : Int) % 10) w
  refine calls_of_wp Tryz.func4 rowBody ?_
  simp only [Tryz.ntmps4, List.size_toArray, List.length_cons, List.length_nil, Nat.reduceAdd, Nat.reduceSub, Array.replicate_succ, Array.replicate_zero, List.push_toArray, List.append_toArray, List.nil_append, List.cons_append]
  clear run
  generalize rowRest = c at hrest ⊢
  have hw : IntKind.i64.wrap (n : Int) = n := by simp [IntKind.wrap, IntKind.signed, IntKind.bits]; omega
  have HP := Lib.hid hrest
  clear hrest
  go_wp2
  exact HP.out
theorem depsRow_walk (w : World) (n : Int) (b : Bool) (hwf : (Lit.int .u8 n).wf = true) :
    Calls Tryz.prog 4 #[.int .u8 n, .bool b] w fun e w' => e = .returned (.bool true) ∧ Below w.heap.size w w' := by
  have hb : 0 ≤ n ∧ n < 256 := by
    simp [Lit.wf, IntKind.min, IntKind.max, IntKind.signed, IntKind.bits] at hwf
    omega
  obtain ⟨n, rfl⟩ := Int.eq_ofNat_of_zero_le hb.1
  have hn : n < 256 := by omega
  have h10 : n % 10 = 0 ∨ n % 10 = 1 ∨ n % 10 = 2 ∨ n % 10 = 3 ∨ n % 10 = 4 ∨ n % 10 = 5 ∨ n % 10 = 6 ∨ n % 10 = 7 ∨ n % 10 = 8 ∨ n % 10 = 9 := by omega
  rcases h10 with h | h | h | h | h | h | h | h | h | h <;> cases b
  · exact depsRow_of w n hn false 2 (by omega) rowRun_2_false
  · exact depsRow_of w n hn true 2 (by omega) rowRun_2_true
  · exact depsRow_of w n hn false 3 (by omega) rowRun_3_false
  · exact depsRow_of w n hn true 3 (by omega) rowRun_3_true
  · exact depsRow_of w n hn false 4 (by omega) rowRun_4_false
  · exact depsRow_of w n hn true 4 (by omega) rowRun_4_true
  · exact depsRow_of w n hn false 5 (by omega) rowRun_5_false
  · exact depsRow_of w n hn true 5 (by omega) rowRun_5_true
  · exact depsRow_of w n hn false 6 (by omega) rowRun_6_false
  · exact depsRow_of w n hn true 6 (by omega) rowRun_6_true
  · exact depsRow_of w n hn false 7 (by omega) rowRun_7_false
  · exact depsRow_of w n hn true 7 (by omega) rowRun_7_true
  · exact depsRow_of w n hn false 8 (by omega) rowRun_8_false
  · exact depsRow_of w n hn true 8 (by omega) rowRun_8_true
  · exact depsRow_of w n hn false 9 (by omega) rowRun_9_false
  · exact depsRow_of w n hn true 9 (by omega) rowRun_9_true
  · exact depsRow_of w n hn false 10 (by omega) rowRun_10_false
  · exact depsRow_of w n hn true 10 (by omega) rowRun_10_true
  · exact depsRow_of w n hn false 11 (by omega) rowRun_11_false
  · exact depsRow_of w n hn true 11 (by omega) rowRun_11_true
end Go.Proofs.YtgminjlnnpaefaaGreatDoor
