/- The walk of FunMod. Written by funmodwgen.py. -/
import Derived.Test.YtcbaioagcemmnaaDoorFunModPlain
import Derived.Test.YtcbaioagcemmnaaDoorFunLit
namespace Go.Proofs.YtcbaioagcemmnaaDoor
open Go.RowKit Go.Maps
theorem rule_mod (A : Option Addr) : (ruleTab A 2 2).atKey (.string (⟨#[77, 79, 68]⟩ : ByteArray).data.toList) .nil = .held (.agg #[.int .i64 2, .int .i64 2, .bool false, .bool true, .func (.func 26) #[.agg #[.slice A 2 2]] #[]]) := by kernel_rfl
theorem mod_any (w : World) (A : Option Addr) (args : List FArg) (c : Nat) (hA : AtA w A args) (x0 x1 : FArg) (a b : Int) (s0 s1 : ByteArray) (h0 : args[0]? = some x0) (h1 : args[1]? = some x1) (v0 : x0.vs[0]? = some (1, a, s0)) (v1 : x1.vs[0]? = some (1, b, s1)) (hb : b ≠ 0) (hab : InR (a.tmod b + b)) :
    Calls Tryd.prog 26 #[.agg #[.slice A args.length c]] w fun e w' => e = .returned (.agg #[.int .i64 1, .int .i64 (fmodR a b), .string ⟨#[]⟩]) ∧ Below w.heap.size w w' := by
  by_cases hr : a.tmod b = 0
  · rw [show fmodR a b = 0 by unfold fmodR; rw [if_neg (by simp [hr]), hr]]
    exact mod_r0 w A args c hA x0 x1 a b s0 s1 h0 h1 v0 v1 hb hr
  · by_cases hx : a.tmod b < 0
    · by_cases hy : b < 0
      · rw [show fmodR a b = a.tmod b by unfold fmodR; rw [if_neg (by simp [hx, hy])]]
        exact mod_same_true w A args c hA x0 x1 a b s0 s1 h0 h1 v0 v1 _ hb rfl hr hx hy
      · rw [show fmodR a b = a.tmod b + b by unfold fmodR; rw [if_pos ⟨hr, by simp [hx, hy]⟩]]
        exact mod_diff_true w A args c hA x0 x1 a b s0 s1 h0 h1 v0 v1 _ hb rfl hr hx hy hab
    · by_cases hy : b < 0
      · rw [show fmodR a b = a.tmod b + b by unfold fmodR; rw [if_pos ⟨hr, by simp [hx, hy]⟩]]
        exact mod_diff_false w A args c hA x0 x1 a b s0 s1 h0 h1 v0 v1 _ hb rfl hr hx hy hab
      · rw [show fmodR a b = a.tmod b by unfold fmodR; rw [if_neg (by simp [hx, hy])]]
        exact mod_same_false w A args c hA x0 x1 a b s0 s1 h0 h1 v0 v1 _ hb rfl hr hx hy
set_option maxRecDepth 100000 in
set_option maxHeartbeats 4000000 in
theorem funMod_zero (w : World) (a b : Int) (h1 : (Lit.int .i32 a).wf = true) (h2 : (Lit.int .i32 b).wf = true) (hb0 : b = 0) :
    Calls Tryd.prog 6 #[.int .i32 a, .int .i32 b] w fun e w' => e = .returned (.bool true) ∧ Below w.heap.size w w' := by
  have ha : -2147483648 ≤ a ∧ a ≤ 2147483647 := by simpa [Lit.wf, IntKind.min, IntKind.max, IntKind.signed, IntKind.bits] using h1
  have wa : IntKind.i64.wrap a = a := by simp [IntKind.wrap, IntKind.signed, IntKind.bits]; omega
  have hb : -2147483648 ≤ b ∧ b ≤ 2147483647 := by simpa [Lit.wf, IntKind.min, IntKind.max, IntKind.signed, IntKind.bits] using h2
  have wb : IntKind.i64.wrap b = b := by simp [IntKind.wrap, IntKind.signed, IntKind.bits]; omega
  have HB := Lib.hid hb0
  have hb1 : (b == 0) = true := by simpa using hb0
  have hb1' : decide (b = 0) = true := by simpa using hb0
  clear h1 ha h2 hb hb0
  go_enter Tryd.func6, Tryd.ntmps6
  go_wp2_with fail
  refine (lone_any w 1 a ⟨#[]⟩).mono ?_
  rintro e w1 ⟨g1, rfl, hbA, hv1⟩
  go_wp2_with fail
  refine (lone_any w1 1 b ⟨#[]⟩).mono ?_
  rintro e w2 ⟨g2, rfl, hbB, hv2⟩
  have hv1 := hv1.below hbB
  have hb3 := hbA.trans (hbB.mono hbA.size)
  clear hbA hbB
  go_wp2_with fail
  refine (call2 w2 g1 g2 (1, a, ⟨#[]⟩) (1, b, ⟨#[]⟩) hv1 hv2 ⟨#[77, 79, 68]⟩ (by unfold maxLen; decide) 2 2 false true 26 (rule_mod _) (by decide) (by decide) (fun _ => ⟨by simp, by simp⟩) 4 3 ⟨#[]⟩ (fun us W => run_enter Tryd.func26 (by kernel_rfl) rfl us W)
    (fun W hA => mod_zero W (some ⟨w2.heap.size, 0, none⟩) [oneArg (some ⟨g1, 0, none⟩) (1, a, ⟨#[]⟩), oneArg (some ⟨g2, 0, none⟩) (1, b, ⟨#[]⟩)] 2 hA (oneArg (some ⟨g1, 0, none⟩) (1, a, ⟨#[]⟩)) (oneArg (some ⟨g2, 0, none⟩) (1, b, ⟨#[]⟩)) a b ⟨#[]⟩ ⟨#[]⟩ rfl rfl rfl rfl HB.out)).mono ?_
  rintro e w3 ⟨rfl, hb5⟩
  have hb6 := (hb3.alloc hb3.size (.cells #[.bool false, .int .i64 0, .slice (some ⟨g1, 0, none⟩) 1 1, .bool false, .int .i64 0, .slice (some ⟨g2, 0, none⟩) 1 1] 27)).trans (hb5.mono hb3.size)
  clear hv1 hv2 hb3 hb5
  have hs6 := hb6.size
  go_wp2_with fail
  refine (awake8 _).mono ?_
  rintro e w4 ⟨rfl, hb7⟩
  have hb8 := (hb6.alloc hs6 (.cells #[.int .i64 4, .int .i64 3, .string ⟨#[]⟩] 31)).trans (hb7.mono (by simp; omega))
  go_wp2
  go_ret
  exact ⟨rfl, hb8⟩
set_option maxRecDepth 100000 in
set_option maxHeartbeats 4000000 in
theorem funMod_z (w : World) (a b m : Int) (hm : fmodR a b = m) (hc : m = 0) (h1 : (Lit.int .i32 a).wf = true) (h2 : (Lit.int .i32 b).wf = true) (hb0 : b ≠ 0) :
    Calls Tryd.prog 6 #[.int .i32 a, .int .i32 b] w fun e w' => e = .returned (.bool true) ∧ Below w.heap.size w w' := by
  have ha : -2147483648 ≤ a ∧ a ≤ 2147483647 := by simpa [Lit.wf, IntKind.min, IntKind.max, IntKind.signed, IntKind.bits] using h1
  have hb : -2147483648 ≤ b ∧ b ≤ 2147483647 := by simpa [Lit.wf, IntKind.min, IntKind.max, IntKind.signed, IntKind.bits] using h2
  have wa : IntKind.i64.wrap a = a := by simp [IntKind.wrap, IntKind.signed, IntKind.bits]; omega
  have wb : IntKind.i64.wrap b = b := by simp [IntKind.wrap, IntKind.signed, IntKind.bits]; omega
  have hts := tmod_small a hb0
  have hab : InR (a.tmod b + b) := by unfold InR; omega
  obtain ⟨l1, l2, l3⟩ := fmod_laws a b hb0
  rw [hm] at l1 l2 l3
  have hmax := @run_max2 Tryd.prog
  have e1 : wrap64 (a - m) = a - m := wrap_in (by unfold InR; omega)
  have e2 : wrap64 (-m) = -m := wrap_in (by unfold InR; omega)
  have e3 : wrap64 (-b) = -b := wrap_in (by unfold InR; omega)
  have e4 : ((a - m).tmod b == 0) = true := by simpa using l1
  have e5 : decide (max m (-m) < max b (-b)) = true := decide_eq_true (by omega)
  have k1 : (m == 0) = true := by simp; omega
  have HB := Lib.hid hb0
  have HAB := Lib.hid hab
  have hb1 : (b == 0) = false := by simpa using hb0
  have hb1' : decide (b = 0) = false := by simpa using hb0
  have HM := Lib.hid hm
  clear h1 h2 hb0 hab hts l1 l2 l3 hm ha hb hc
  go_enter Tryd.func6, Tryd.ntmps6
  go_wp2_with fail
  refine (lone_any w 1 a ⟨#[]⟩).mono ?_
  rintro e w1 ⟨g1, rfl, hbA, hv1⟩
  go_wp2_with fail
  refine (lone_any w1 1 b ⟨#[]⟩).mono ?_
  rintro e w2 ⟨g2, rfl, hbB, hv2⟩
  have hv1 := hv1.below hbB
  have hb3 := hbA.trans (hbB.mono hbA.size)
  clear hbA hbB
  go_wp2_with fail
  refine (call2 w2 g1 g2 (1, a, ⟨#[]⟩) (1, b, ⟨#[]⟩) hv1 hv2 ⟨#[77, 79, 68]⟩ (by unfold maxLen; decide) 2 2 false true 26 (rule_mod _) (by decide) (by decide) (fun _ => ⟨by simp, by simp⟩) 1 m ⟨#[]⟩ (fun us W => run_enter Tryd.func26 (by kernel_rfl) rfl us W)
    (fun W hA => HM.out ▸ mod_any W (some ⟨w2.heap.size, 0, none⟩) [oneArg (some ⟨g1, 0, none⟩) (1, a, ⟨#[]⟩), oneArg (some ⟨g2, 0, none⟩) (1, b, ⟨#[]⟩)] 2 hA (oneArg (some ⟨g1, 0, none⟩) (1, a, ⟨#[]⟩)) (oneArg (some ⟨g2, 0, none⟩) (1, b, ⟨#[]⟩)) a b ⟨#[]⟩ ⟨#[]⟩ rfl rfl rfl rfl HB.out HAB.out)).mono ?_
  rintro e w3 ⟨rfl, hb5⟩
  have hb6 := (hb3.alloc hb3.size (.cells #[.bool false, .int .i64 0, .slice (some ⟨g1, 0, none⟩) 1 1, .bool false, .int .i64 0, .slice (some ⟨g2, 0, none⟩) 1 1] 27)).trans (hb5.mono hb3.size)
  clear hv1 hv2 hb3 hb5
  have hs6 := hb6.size
  go_wp2_with fail
  refine (awake8 _).mono ?_
  rintro e w4 ⟨rfl, hb7⟩
  have hb8 := (hb6.alloc hs6 (.cells #[.int .i64 1, .int .i64 m, .string ⟨#[]⟩] 31)).trans (hb7.mono (by simp; omega))
  go_wp2
  go_ret
  exact ⟨rfl, hb8⟩
set_option maxRecDepth 100000 in
set_option maxHeartbeats 4000000 in
theorem funMod_n (w : World) (a b m : Int) (hm : fmodR a b = m) (hc : m < 0 ∧ b < 0) (h1 : (Lit.int .i32 a).wf = true) (h2 : (Lit.int .i32 b).wf = true) (hb0 : b ≠ 0) :
    Calls Tryd.prog 6 #[.int .i32 a, .int .i32 b] w fun e w' => e = .returned (.bool true) ∧ Below w.heap.size w w' := by
  have ha : -2147483648 ≤ a ∧ a ≤ 2147483647 := by simpa [Lit.wf, IntKind.min, IntKind.max, IntKind.signed, IntKind.bits] using h1
  have hb : -2147483648 ≤ b ∧ b ≤ 2147483647 := by simpa [Lit.wf, IntKind.min, IntKind.max, IntKind.signed, IntKind.bits] using h2
  have wa : IntKind.i64.wrap a = a := by simp [IntKind.wrap, IntKind.signed, IntKind.bits]; omega
  have wb : IntKind.i64.wrap b = b := by simp [IntKind.wrap, IntKind.signed, IntKind.bits]; omega
  have hts := tmod_small a hb0
  have hab : InR (a.tmod b + b) := by unfold InR; omega
  obtain ⟨l1, l2, l3⟩ := fmod_laws a b hb0
  rw [hm] at l1 l2 l3
  have hmax := @run_max2 Tryd.prog
  have e1 : wrap64 (a - m) = a - m := wrap_in (by unfold InR; omega)
  have e2 : wrap64 (-m) = -m := wrap_in (by unfold InR; omega)
  have e3 : wrap64 (-b) = -b := wrap_in (by unfold InR; omega)
  have e4 : ((a - m).tmod b == 0) = true := by simpa using l1
  have e5 : decide (max m (-m) < max b (-b)) = true := decide_eq_true (by omega)
  have k1 : (m == 0) = false := by rw [beq_eq_false_iff_ne]; omega
  have k2 : decide (m < 0) = true := decide_eq_true (by omega)
  have k3 : decide (b < 0) = true := decide_eq_true (by omega)
  have HB := Lib.hid hb0
  have HAB := Lib.hid hab
  have hb1 : (b == 0) = false := by simpa using hb0
  have hb1' : decide (b = 0) = false := by simpa using hb0
  have HM := Lib.hid hm
  clear h1 h2 hb0 hab hts l1 l2 l3 hm ha hb hc
  go_enter Tryd.func6, Tryd.ntmps6
  go_wp2_with fail
  refine (lone_any w 1 a ⟨#[]⟩).mono ?_
  rintro e w1 ⟨g1, rfl, hbA, hv1⟩
  go_wp2_with fail
  refine (lone_any w1 1 b ⟨#[]⟩).mono ?_
  rintro e w2 ⟨g2, rfl, hbB, hv2⟩
  have hv1 := hv1.below hbB
  have hb3 := hbA.trans (hbB.mono hbA.size)
  clear hbA hbB
  go_wp2_with fail
  refine (call2 w2 g1 g2 (1, a, ⟨#[]⟩) (1, b, ⟨#[]⟩) hv1 hv2 ⟨#[77, 79, 68]⟩ (by unfold maxLen; decide) 2 2 false true 26 (rule_mod _) (by decide) (by decide) (fun _ => ⟨by simp, by simp⟩) 1 m ⟨#[]⟩ (fun us W => run_enter Tryd.func26 (by kernel_rfl) rfl us W)
    (fun W hA => HM.out ▸ mod_any W (some ⟨w2.heap.size, 0, none⟩) [oneArg (some ⟨g1, 0, none⟩) (1, a, ⟨#[]⟩), oneArg (some ⟨g2, 0, none⟩) (1, b, ⟨#[]⟩)] 2 hA (oneArg (some ⟨g1, 0, none⟩) (1, a, ⟨#[]⟩)) (oneArg (some ⟨g2, 0, none⟩) (1, b, ⟨#[]⟩)) a b ⟨#[]⟩ ⟨#[]⟩ rfl rfl rfl rfl HB.out HAB.out)).mono ?_
  rintro e w3 ⟨rfl, hb5⟩
  have hb6 := (hb3.alloc hb3.size (.cells #[.bool false, .int .i64 0, .slice (some ⟨g1, 0, none⟩) 1 1, .bool false, .int .i64 0, .slice (some ⟨g2, 0, none⟩) 1 1] 27)).trans (hb5.mono hb3.size)
  clear hv1 hv2 hb3 hb5
  have hs6 := hb6.size
  go_wp2_with fail
  refine (awake8 _).mono ?_
  rintro e w4 ⟨rfl, hb7⟩
  have hb8 := (hb6.alloc hs6 (.cells #[.int .i64 1, .int .i64 m, .string ⟨#[]⟩] 31)).trans (hb7.mono (by simp; omega))
  go_wp2
  go_ret
  exact ⟨rfl, hb8⟩
set_option maxRecDepth 100000 in
set_option maxHeartbeats 4000000 in
theorem funMod_p (w : World) (a b m : Int) (hm : fmodR a b = m) (hc : 0 < m ∧ 0 < b) (h1 : (Lit.int .i32 a).wf = true) (h2 : (Lit.int .i32 b).wf = true) (hb0 : b ≠ 0) :
    Calls Tryd.prog 6 #[.int .i32 a, .int .i32 b] w fun e w' => e = .returned (.bool true) ∧ Below w.heap.size w w' := by
  have ha : -2147483648 ≤ a ∧ a ≤ 2147483647 := by simpa [Lit.wf, IntKind.min, IntKind.max, IntKind.signed, IntKind.bits] using h1
  have hb : -2147483648 ≤ b ∧ b ≤ 2147483647 := by simpa [Lit.wf, IntKind.min, IntKind.max, IntKind.signed, IntKind.bits] using h2
  have wa : IntKind.i64.wrap a = a := by simp [IntKind.wrap, IntKind.signed, IntKind.bits]; omega
  have wb : IntKind.i64.wrap b = b := by simp [IntKind.wrap, IntKind.signed, IntKind.bits]; omega
  have hts := tmod_small a hb0
  have hab : InR (a.tmod b + b) := by unfold InR; omega
  obtain ⟨l1, l2, l3⟩ := fmod_laws a b hb0
  rw [hm] at l1 l2 l3
  have hmax := @run_max2 Tryd.prog
  have e1 : wrap64 (a - m) = a - m := wrap_in (by unfold InR; omega)
  have e2 : wrap64 (-m) = -m := wrap_in (by unfold InR; omega)
  have e3 : wrap64 (-b) = -b := wrap_in (by unfold InR; omega)
  have e4 : ((a - m).tmod b == 0) = true := by simpa using l1
  have e5 : decide (max m (-m) < max b (-b)) = true := decide_eq_true (by omega)
  have k1 : (m == 0) = false := by rw [beq_eq_false_iff_ne]; omega
  have k2 : decide (m < 0) = false := decide_eq_false (by omega)
  have k3 : decide (b < 0) = false := decide_eq_false (by omega)
  have HB := Lib.hid hb0
  have HAB := Lib.hid hab
  have hb1 : (b == 0) = false := by simpa using hb0
  have hb1' : decide (b = 0) = false := by simpa using hb0
  have HM := Lib.hid hm
  clear h1 h2 hb0 hab hts l1 l2 l3 hm ha hb hc
  go_enter Tryd.func6, Tryd.ntmps6
  go_wp2_with fail
  refine (lone_any w 1 a ⟨#[]⟩).mono ?_
  rintro e w1 ⟨g1, rfl, hbA, hv1⟩
  go_wp2_with fail
  refine (lone_any w1 1 b ⟨#[]⟩).mono ?_
  rintro e w2 ⟨g2, rfl, hbB, hv2⟩
  have hv1 := hv1.below hbB
  have hb3 := hbA.trans (hbB.mono hbA.size)
  clear hbA hbB
  go_wp2_with fail
  refine (call2 w2 g1 g2 (1, a, ⟨#[]⟩) (1, b, ⟨#[]⟩) hv1 hv2 ⟨#[77, 79, 68]⟩ (by unfold maxLen; decide) 2 2 false true 26 (rule_mod _) (by decide) (by decide) (fun _ => ⟨by simp, by simp⟩) 1 m ⟨#[]⟩ (fun us W => run_enter Tryd.func26 (by kernel_rfl) rfl us W)
    (fun W hA => HM.out ▸ mod_any W (some ⟨w2.heap.size, 0, none⟩) [oneArg (some ⟨g1, 0, none⟩) (1, a, ⟨#[]⟩), oneArg (some ⟨g2, 0, none⟩) (1, b, ⟨#[]⟩)] 2 hA (oneArg (some ⟨g1, 0, none⟩) (1, a, ⟨#[]⟩)) (oneArg (some ⟨g2, 0, none⟩) (1, b, ⟨#[]⟩)) a b ⟨#[]⟩ ⟨#[]⟩ rfl rfl rfl rfl HB.out HAB.out)).mono ?_
  rintro e w3 ⟨rfl, hb5⟩
  have hb6 := (hb3.alloc hb3.size (.cells #[.bool false, .int .i64 0, .slice (some ⟨g1, 0, none⟩) 1 1, .bool false, .int .i64 0, .slice (some ⟨g2, 0, none⟩) 1 1] 27)).trans (hb5.mono hb3.size)
  clear hv1 hv2 hb3 hb5
  have hs6 := hb6.size
  go_wp2_with fail
  refine (awake8 _).mono ?_
  rintro e w4 ⟨rfl, hb7⟩
  have hb8 := (hb6.alloc hs6 (.cells #[.int .i64 1, .int .i64 m, .string ⟨#[]⟩] 31)).trans (hb7.mono (by simp; omega))
  go_wp2
  go_ret
  exact ⟨rfl, hb8⟩
theorem funMod_walk (w : World) (a b : Int) (h1 : (Lit.int .i32 a).wf = true) (h2 : (Lit.int .i32 b).wf = true) :
    Calls Tryd.prog 6 #[.int .i32 a, .int .i32 b] w fun e w' => e = .returned (.bool true) ∧ Below w.heap.size w w' := by
  by_cases hb : b = 0
  · exact funMod_zero w a b h1 h2 hb
  · obtain ⟨_, l2, _⟩ := fmod_laws a b hb
    rcases l2 with h | h | h
    · exact funMod_z w a b _ rfl h h1 h2 hb
    · exact funMod_n w a b _ rfl h h1 h2 hb
    · exact funMod_p w a b _ rfl h h1 h2 hb
end Go.Proofs.YtcbaioagcemmnaaDoor
