/- CalcSums at 4 numbers: the kernel runs it. Written by csgen.py. -/
import Derived.Test.YtehbfpcfbpbllaaGreatDoorMg5
namespace Go.Proofs.YtehbfpcfbpbllaaGreatDoor
namespace VM
open Go Go.RowKit
set_option linter.unusedVariables false
set_option linter.unusedSectionVars false
set_option maxRecDepth 20000
noncomputable section
def csL4x0 : Memo := ⟨[.str [48, 43, 65, 49, 43, 65, 50, 43, 65, 51, 43, 65, 52]], .tup [.slo 0 0 10 10 9, .int .i64 (.ofNat 0)], [.cells [.int .i64 (.ofNat 1), .str [], .int .i64 (.ofNat 0), .str [], .int .i64 (.ofNat 0), .int .i64 (.ofNat 0), .bool false, .bool false, .int .i64 (.ofNat 0), .int .i64 (.ofNat 5), .str [43], .int .i64 (.ofNat 0), .str [], .int .i64 (.ofNat 0), .int .i64 (.ofNat 0), .bool false, .bool false, .int .i64 (.ofNat 1), .int .i64 (.ofNat 4), .str [], .int .i64 (.ofNat 0), .str [], .int .i64 (.ofNat 0), .int .i64 (.ofNat 0), .bool false, .bool false, .int .i64 (.ofNat 2), .int .i64 (.ofNat 5), .str [43], .int .i64 (.ofNat 0), .str [], .int .i64 (.ofNat 0), .int .i64 (.ofNat 0), .bool false, .bool false, .int .i64 (.ofNat 4), .int .i64 (.ofNat 4), .str [], .int .i64 (.ofNat 0), .str [], .int .i64 (.ofNat 0), .int .i64 (.ofNat 1), .bool false, .bool false, .int .i64 (.ofNat 5), .int .i64 (.ofNat 5), .str [43], .int .i64 (.ofNat 0), .str [], .int .i64 (.ofNat 0), .int .i64 (.ofNat 0), .bool false, .bool false, .int .i64 (.ofNat 7), .int .i64 (.ofNat 4), .str [], .int .i64 (.ofNat 0), .str [], .int .i64 (.ofNat 0), .int .i64 (.ofNat 2), .bool false, .bool false, .int .i64 (.ofNat 8), .int .i64 (.ofNat 5), .str [43], .int .i64 (.ofNat 0), .str [], .int .i64 (.ofNat 0), .int .i64 (.ofNat 0), .bool false, .bool false, .int .i64 (.ofNat 10), .int .i64 (.ofNat 4), .str [], .int .i64 (.ofNat 0), .str [], .int .i64 (.ofNat 0), .int .i64 (.ofNat 3), .bool false, .bool false, .int .i64 (.ofNat 11), .int .i64 (.ofNat 0), .str [], .int .i64 (.ofNat 0), .str [], .int .i64 (.ofNat 0), .int .i64 (.ofNat 0), .bool false, .bool false, .int .i64 (.ofNat 13)] 108 false]⟩
theorem csL4x0_run : look [71] 72 (callOf (EcH hk0) (exec (EcH hk0) 3000) 42 csL4x0.al ⟨.leaf, 0⟩) = some (csL4x0.v.ren (rn [71] 72), csL4x0.bs.map (Blk.ren (rn [71] 72))) := by kernel_rfl
theorem csL4x0_ok [Sy] (hg : GlobOK Tryz.prog Sy.tab globs) : MemoOK Tryz.prog 42 csL4x0 :=
  @memoOK_of _ Tryz.prog (EcH hk0) (envCH hg _) (@idleCH _ _) (hooksCH hk0_ok) nameOK 42 3000 72 [71] csL4x0 csL4x0_run rfl rfl (by decide)
def csHkL4x0 : List (Nat × Hook) := (42, memoH [csL4x0]) :: hk0
theorem csHkL4x0_ok [Sy] (hg : GlobOK Tryz.prog Sy.tab globs) : ∀ p ∈ csHkL4x0, HookOK p.1 p.2 := hk1_ok (csL4x0_ok hg) hk0_ok
def csP4x0 : Memo := ⟨[.str [48, 43, 65, 49, 43, 65, 50, 43, 65, 51, 43, 65, 52]], .tup [.slo 0 0 9 9 14, .int .i64 (.ofNat 0)], [.cells [.int .i64 (.ofNat 1), .int .i64 (.ofNat 0), .str [], .str [], .int .i64 (.ofNat 0), .int .i64 (.ofNat 0), .bool false, .bool false, .str [], .int .i64 (.ofNat 0), .int .i64 (.ofNat 0), .bool false, .bool false, .nils, .int .i64 (.ofNat 5), .int .i64 (.ofNat 0), .str [], .str [], .int .i64 (.ofNat 0), .int .i64 (.ofNat 0), .bool false, .bool false, .str [], .int .i64 (.ofNat 0), .int .i64 (.ofNat 0), .bool false, .bool false, .nils, .int .i64 (.ofNat 16), .int .i64 (.ofNat 0), .str [], .str [], .int .i64 (.ofNat 0), .int .i64 (.ofNat 0), .bool false, .bool false, .str [], .int .i64 (.ofNat 0), .int .i64 (.ofNat 0), .bool false, .bool false, .sl 1 0 2 2, .int .i64 (.ofNat 5), .int .i64 (.ofNat 0), .str [], .str [], .int .i64 (.ofNat 0), .int .i64 (.ofNat 1), .bool false, .bool false, .str [], .int .i64 (.ofNat 0), .int .i64 (.ofNat 0), .bool false, .bool false, .nils, .int .i64 (.ofNat 16), .int .i64 (.ofNat 0), .str [], .str [], .int .i64 (.ofNat 0), .int .i64 (.ofNat 0), .bool false, .bool false, .str [], .int .i64 (.ofNat 0), .int .i64 (.ofNat 0), .bool false, .bool false, .sl 2 0 2 2, .int .i64 (.ofNat 5), .int .i64 (.ofNat 0), .str [], .str [], .int .i64 (.ofNat 0), .int .i64 (.ofNat 2), .bool false, .bool false, .str [], .int .i64 (.ofNat 0), .int .i64 (.ofNat 0), .bool false, .bool false, .nils, .int .i64 (.ofNat 16), .int .i64 (.ofNat 0), .str [], .str [], .int .i64 (.ofNat 0), .int .i64 (.ofNat 0), .bool false, .bool false, .str [], .int .i64 (.ofNat 0), .int .i64 (.ofNat 0), .bool false, .bool false, .sl 3 0 2 2, .int .i64 (.ofNat 5), .int .i64 (.ofNat 0), .str [], .str [], .int .i64 (.ofNat 0), .int .i64 (.ofNat 3), .bool false, .bool false, .str [], .int .i64 (.ofNat 0), .int .i64 (.ofNat 0), .bool false, .bool false, .nils, .int .i64 (.ofNat 16), .int .i64 (.ofNat 0), .str [], .str [], .int .i64 (.ofNat 0), .int .i64 (.ofNat 0), .bool false, .bool false, .str [], .int .i64 (.ofNat 0), .int .i64 (.ofNat 0), .bool false, .bool false, .sl 4 0 2 2] 89 false, .cells [.int .i64 (.ofNat 0), .int .i64 (.ofNat 1)] 3 false, .cells [.int .i64 (.ofNat 2), .int .i64 (.ofNat 3)] 3 false, .cells [.int .i64 (.ofNat 4), .int .i64 (.ofNat 5)] 3 false, .cells [.int .i64 (.ofNat 6), .int .i64 (.ofNat 7)] 3 false]⟩
theorem csP4x0_run : look [108, 42, 63, 84, 105] 116 (callOf (EcH csHkL4x0) (exec (EcH csHkL4x0) 3000) 31 csP4x0.al ⟨.leaf, 0⟩) = some (csP4x0.v.ren (rn [108, 42, 63, 84, 105] 116), csP4x0.bs.map (Blk.ren (rn [108, 42, 63, 84, 105] 116))) := by kernel_rfl
theorem csP4x0_ok [Sy] (hg : GlobOK Tryz.prog Sy.tab globs) : MemoOK Tryz.prog 31 csP4x0 :=
  @memoOK_of _ Tryz.prog (EcH csHkL4x0) (envCH hg _) (@idleCH _ _) (hooksCH (csHkL4x0_ok hg)) nameOK 31 3000 116 [108, 42, 63, 84, 105] csP4x0 csP4x0_run rfl rfl (by decide)
def csHkP4x0 : List (Nat × Hook) := (31, memoH [csP4x0]) :: hk0
theorem csHkP4x0_ok [Sy] (hg : GlobOK Tryz.prog Sy.tab globs) : ∀ p ∈ csHkP4x0, HookOK p.1 p.2 := hk1_ok (csP4x0_ok hg) hk0_ok
def csM4x0 : Memo := ⟨[.str [61, 48, 43, 65, 49, 43, 65, 50, 43, 65, 51, 43, 65, 52]], .bool true, []⟩
theorem csM4x0_run : look [] 90 (callOf (EcH csHkP4x0) (exec (EcH csHkP4x0) 3000) 30 csM4x0.al ⟨.leaf, 0⟩) = some (csM4x0.v.ren (rn [] 90), csM4x0.bs.map (Blk.ren (rn [] 90))) := by kernel_rfl
theorem csM4x0_ok [Sy] (hg : GlobOK Tryz.prog Sy.tab globs) : MemoOK Tryz.prog 30 csM4x0 :=
  @memoOK_of _ Tryz.prog (EcH csHkP4x0) (envCH hg _) (@idleCH _ _) (hooksCH (csHkP4x0_ok hg)) nameOK 30 3000 90 [] csM4x0 csM4x0_run rfl rfl (by decide)
def csHkM4x0 : List (Nat × Hook) := (30, memoH [csM4x0]) :: csHkP4x0
theorem csHkM4x0_ok [Sy] (hg : GlobOK Tryz.prog Sy.tab globs) : ∀ p ∈ csHkM4x0, HookOK p.1 p.2 := hk1_ok (csM4x0_ok hg) (csHkP4x0_ok hg)
def csF4x0 : Memo := ⟨[.str [61, 48, 43, 65, 49, 43, 65, 50, 43, 65, 51, 43, 65, 52]], .tup [.slo 0 0 9 9 14, .bool true], [.cells [.int .i64 (.ofNat 1), .int .i64 (.ofNat 0), .str [], .str [], .int .i64 (.ofNat 0), .int .i64 (.ofNat 0), .bool false, .bool false, .str [], .int .i64 (.ofNat 0), .int .i64 (.ofNat 0), .bool false, .bool false, .nils, .int .i64 (.ofNat 5), .int .i64 (.ofNat 0), .str [], .str [], .int .i64 (.ofNat 0), .int .i64 (.ofNat 0), .bool false, .bool false, .str [], .int .i64 (.ofNat 0), .int .i64 (.ofNat 0), .bool false, .bool false, .nils, .int .i64 (.ofNat 16), .int .i64 (.ofNat 0), .str [], .str [], .int .i64 (.ofNat 0), .int .i64 (.ofNat 0), .bool false, .bool false, .str [], .int .i64 (.ofNat 0), .int .i64 (.ofNat 0), .bool false, .bool false, .sl 1 0 2 2, .int .i64 (.ofNat 5), .int .i64 (.ofNat 0), .str [], .str [], .int .i64 (.ofNat 0), .int .i64 (.ofNat 1), .bool false, .bool false, .str [], .int .i64 (.ofNat 0), .int .i64 (.ofNat 0), .bool false, .bool false, .nils, .int .i64 (.ofNat 16), .int .i64 (.ofNat 0), .str [], .str [], .int .i64 (.ofNat 0), .int .i64 (.ofNat 0), .bool false, .bool false, .str [], .int .i64 (.ofNat 0), .int .i64 (.ofNat 0), .bool false, .bool false, .sl 2 0 2 2, .int .i64 (.ofNat 5), .int .i64 (.ofNat 0), .str [], .str [], .int .i64 (.ofNat 0), .int .i64 (.ofNat 2), .bool false, .bool false, .str [], .int .i64 (.ofNat 0), .int .i64 (.ofNat 0), .bool false, .bool false, .nils, .int .i64 (.ofNat 16), .int .i64 (.ofNat 0), .str [], .str [], .int .i64 (.ofNat 0), .int .i64 (.ofNat 0), .bool false, .bool false, .str [], .int .i64 (.ofNat 0), .int .i64 (.ofNat 0), .bool false, .bool false, .sl 3 0 2 2, .int .i64 (.ofNat 5), .int .i64 (.ofNat 0), .str [], .str [], .int .i64 (.ofNat 0), .int .i64 (.ofNat 3), .bool false, .bool false, .str [], .int .i64 (.ofNat 0), .int .i64 (.ofNat 0), .bool false, .bool false, .nils, .int .i64 (.ofNat 16), .int .i64 (.ofNat 0), .str [], .str [], .int .i64 (.ofNat 0), .int .i64 (.ofNat 0), .bool false, .bool false, .str [], .int .i64 (.ofNat 0), .int .i64 (.ofNat 0), .bool false, .bool false, .sl 4 0 2 2] 89 false, .cells [.int .i64 (.ofNat 0), .int .i64 (.ofNat 1)] 3 false, .cells [.int .i64 (.ofNat 2), .int .i64 (.ofNat 3)] 3 false, .cells [.int .i64 (.ofNat 4), .int .i64 (.ofNat 5)] 3 false, .cells [.int .i64 (.ofNat 6), .int .i64 (.ofNat 7)] 3 false]⟩
theorem csF4x0_run : look [0, 1, 2, 3, 4] 5 (callOf (EcH csHkM4x0) (exec (EcH csHkM4x0) 3000) 15 csF4x0.al ⟨.leaf, 0⟩) = some (csF4x0.v.ren (rn [0, 1, 2, 3, 4] 5), csF4x0.bs.map (Blk.ren (rn [0, 1, 2, 3, 4] 5))) := by kernel_rfl
theorem csF4x0_ok [Sy] (hg : GlobOK Tryz.prog Sy.tab globs) : MemoOK Tryz.prog 15 csF4x0 :=
  @memoOK_of _ Tryz.prog (EcH csHkM4x0) (envCH hg _) (@idleCH _ _) (hooksCH (csHkM4x0_ok hg)) nameOK 15 3000 5 [0, 1, 2, 3, 4] csF4x0 csF4x0_run rfl rfl (by decide)
def csPl4x0 : Memo := ⟨[.str [61, 48, 43, 65, 49, 43, 65, 50, 43, 65, 51, 43, 65, 52]], .agg [.int .i64 (.ofNat 4), .int .i64 (.ofNat 1), .str []], []⟩
theorem csPl4x0_run : look [] 2 (callOf (EcH hk0) (exec (EcH hk0) 3000) 11 csPl4x0.al ⟨.leaf, 0⟩) = some (csPl4x0.v.ren (rn [] 2), csPl4x0.bs.map (Blk.ren (rn [] 2))) := by kernel_rfl
theorem csPl4x0_ok [Sy] (hg : GlobOK Tryz.prog Sy.tab globs) : MemoOK Tryz.prog 11 csPl4x0 :=
  @memoOK_of _ Tryz.prog (EcH hk0) (envCH hg _) (@idleCH _ _) (hooksCH hk0_ok) nameOK 11 3000 2 [] csPl4x0 csPl4x0_run rfl rfl (by decide)
def csP4x1 : Memo := ⟨[.str [83, 85, 77, 40, 65, 49, 58, 65, 52, 41]], .tup [.slo 0 0 2 2 14, .int .i64 (.ofNat 0)], [.cells [.int .i64 (.ofNat 6), .int .i64 (.ofNat 0), .str [], .str [], .int .i64 (.ofNat 0), .int .i64 (.ofNat 0), .bool false, .bool false, .str [], .int .i64 (.ofNat 0), .int .i64 (.ofNat 3), .bool false, .bool false, .nils, .int .i64 (.ofNat 7), .int .i64 (.ofNat 0), .str [83, 85, 77], .str [], .int .i64 (.ofNat 0), .int .i64 (.ofNat 0), .bool false, .bool false, .str [], .int .i64 (.ofNat 0), .int .i64 (.ofNat 0), .bool false, .bool false, .slo 1 0 1 1 1] 89 false, .cells [.int .i64 (.ofNat 0)] 3 false]⟩
theorem csP4x1_run : look [116, 109] 126 (callOf (EcH hk0) (exec (EcH hk0) 3000) 31 csP4x1.al ⟨.leaf, 0⟩) = some (csP4x1.v.ren (rn [116, 109] 126), csP4x1.bs.map (Blk.ren (rn [116, 109] 126))) := by kernel_rfl
theorem csP4x1_ok [Sy] (hg : GlobOK Tryz.prog Sy.tab globs) : MemoOK Tryz.prog 31 csP4x1 :=
  @memoOK_of _ Tryz.prog (EcH hk0) (envCH hg _) (@idleCH _ _) (hooksCH hk0_ok) nameOK 31 3000 126 [116, 109] csP4x1 csP4x1_run rfl rfl (by decide)
def csHkP4x1 : List (Nat × Hook) := (31, memoH [csP4x1]) :: hk0
theorem csHkP4x1_ok [Sy] (hg : GlobOK Tryz.prog Sy.tab globs) : ∀ p ∈ csHkP4x1, HookOK p.1 p.2 := hk1_ok (csP4x1_ok hg) hk0_ok
def csM4x1 : Memo := ⟨[.str [61, 83, 85, 77, 40, 65, 49, 58, 65, 52, 41]], .bool true, []⟩
theorem csM4x1_run : look [] 33 (callOf (EcH csHkP4x1) (exec (EcH csHkP4x1) 3000) 30 csM4x1.al ⟨.leaf, 0⟩) = some (csM4x1.v.ren (rn [] 33), csM4x1.bs.map (Blk.ren (rn [] 33))) := by kernel_rfl
theorem csM4x1_ok [Sy] (hg : GlobOK Tryz.prog Sy.tab globs) : MemoOK Tryz.prog 30 csM4x1 :=
  @memoOK_of _ Tryz.prog (EcH csHkP4x1) (envCH hg _) (@idleCH _ _) (hooksCH (csHkP4x1_ok hg)) nameOK 30 3000 33 [] csM4x1 csM4x1_run rfl rfl (by decide)
def csHkM4x1 : List (Nat × Hook) := (30, memoH [csM4x1]) :: csHkP4x1
theorem csHkM4x1_ok [Sy] (hg : GlobOK Tryz.prog Sy.tab globs) : ∀ p ∈ csHkM4x1, HookOK p.1 p.2 := hk1_ok (csM4x1_ok hg) (csHkP4x1_ok hg)
def csF4x1 : Memo := ⟨[.str [61, 83, 85, 77, 40, 65, 49, 58, 65, 52, 41]], .tup [.slo 0 0 2 2 14, .bool true], [.cells [.int .i64 (.ofNat 6), .int .i64 (.ofNat 0), .str [], .str [], .int .i64 (.ofNat 0), .int .i64 (.ofNat 0), .bool false, .bool false, .str [], .int .i64 (.ofNat 0), .int .i64 (.ofNat 3), .bool false, .bool false, .nils, .int .i64 (.ofNat 7), .int .i64 (.ofNat 0), .str [83, 85, 77], .str [], .int .i64 (.ofNat 0), .int .i64 (.ofNat 0), .bool false, .bool false, .str [], .int .i64 (.ofNat 0), .int .i64 (.ofNat 0), .bool false, .bool false, .slo 1 0 1 1 1] 89 false, .cells [.int .i64 (.ofNat 0)] 3 false]⟩
theorem csF4x1_run : look [0, 1] 2 (callOf (EcH csHkM4x1) (exec (EcH csHkM4x1) 3000) 15 csF4x1.al ⟨.leaf, 0⟩) = some (csF4x1.v.ren (rn [0, 1] 2), csF4x1.bs.map (Blk.ren (rn [0, 1] 2))) := by kernel_rfl
theorem csF4x1_ok [Sy] (hg : GlobOK Tryz.prog Sy.tab globs) : MemoOK Tryz.prog 15 csF4x1 :=
  @memoOK_of _ Tryz.prog (EcH csHkM4x1) (envCH hg _) (@idleCH _ _) (hooksCH (csHkM4x1_ok hg)) nameOK 15 3000 2 [0, 1] csF4x1 csF4x1_run rfl rfl (by decide)
def csPl4x1 : Memo := ⟨[.str [61, 83, 85, 77, 40, 65, 49, 58, 65, 52, 41]], .agg [.int .i64 (.ofNat 4), .int .i64 (.ofNat 1), .str []], []⟩
theorem csPl4x1_run : look [] 2 (callOf (EcH hk0) (exec (EcH hk0) 3000) 11 csPl4x1.al ⟨.leaf, 0⟩) = some (csPl4x1.v.ren (rn [] 2), csPl4x1.bs.map (Blk.ren (rn [] 2))) := by kernel_rfl
theorem csPl4x1_ok [Sy] (hg : GlobOK Tryz.prog Sy.tab globs) : MemoOK Tryz.prog 11 csPl4x1 :=
  @memoOK_of _ Tryz.prog (EcH hk0) (envCH hg _) (@idleCH _ _) (hooksCH hk0_ok) nameOK 11 3000 2 [] csPl4x1 csPl4x1_run rfl rfl (by decide)
def csP4x2 : Memo := ⟨[.str [83, 85, 77, 40, 65, 33, 65, 36, 49, 58, 36, 65, 52, 41]], .tup [.slo 0 0 2 2 14, .int .i64 (.ofNat 0)], [.cells [.int .i64 (.ofNat 6), .int .i64 (.ofNat 0), .str [], .str [65], .int .i64 (.ofNat 0), .int .i64 (.ofNat 0), .bool false, .bool true, .str [], .int .i64 (.ofNat 0), .int .i64 (.ofNat 3), .bool true, .bool false, .nils, .int .i64 (.ofNat 7), .int .i64 (.ofNat 0), .str [83, 85, 77], .str [], .int .i64 (.ofNat 0), .int .i64 (.ofNat 0), .bool false, .bool false, .str [], .int .i64 (.ofNat 0), .int .i64 (.ofNat 0), .bool false, .bool false, .slo 1 0 1 1 1] 89 false, .cells [.int .i64 (.ofNat 0)] 3 false]⟩
theorem csP4x2_run : look [116, 109] 126 (callOf (EcH hk0) (exec (EcH hk0) 3000) 31 csP4x2.al ⟨.leaf, 0⟩) = some (csP4x2.v.ren (rn [116, 109] 126), csP4x2.bs.map (Blk.ren (rn [116, 109] 126))) := by kernel_rfl
theorem csP4x2_ok [Sy] (hg : GlobOK Tryz.prog Sy.tab globs) : MemoOK Tryz.prog 31 csP4x2 :=
  @memoOK_of _ Tryz.prog (EcH hk0) (envCH hg _) (@idleCH _ _) (hooksCH hk0_ok) nameOK 31 3000 126 [116, 109] csP4x2 csP4x2_run rfl rfl (by decide)
def csHkP4x2 : List (Nat × Hook) := (31, memoH [csP4x2]) :: hk0
theorem csHkP4x2_ok [Sy] (hg : GlobOK Tryz.prog Sy.tab globs) : ∀ p ∈ csHkP4x2, HookOK p.1 p.2 := hk1_ok (csP4x2_ok hg) hk0_ok
def csM4x2 : Memo := ⟨[.str [61, 83, 85, 77, 40, 65, 33, 65, 36, 49, 58, 36, 65, 52, 41]], .bool true, []⟩
theorem csM4x2_run : look [] 33 (callOf (EcH csHkP4x2) (exec (EcH csHkP4x2) 3000) 30 csM4x2.al ⟨.leaf, 0⟩) = some (csM4x2.v.ren (rn [] 33), csM4x2.bs.map (Blk.ren (rn [] 33))) := by kernel_rfl
theorem csM4x2_ok [Sy] (hg : GlobOK Tryz.prog Sy.tab globs) : MemoOK Tryz.prog 30 csM4x2 :=
  @memoOK_of _ Tryz.prog (EcH csHkP4x2) (envCH hg _) (@idleCH _ _) (hooksCH (csHkP4x2_ok hg)) nameOK 30 3000 33 [] csM4x2 csM4x2_run rfl rfl (by decide)
def csHkM4x2 : List (Nat × Hook) := (30, memoH [csM4x2]) :: csHkP4x2
theorem csHkM4x2_ok [Sy] (hg : GlobOK Tryz.prog Sy.tab globs) : ∀ p ∈ csHkM4x2, HookOK p.1 p.2 := hk1_ok (csM4x2_ok hg) (csHkP4x2_ok hg)
def csF4x2 : Memo := ⟨[.str [61, 83, 85, 77, 40, 65, 33, 65, 36, 49, 58, 36, 65, 52, 41]], .tup [.slo 0 0 2 2 14, .bool true], [.cells [.int .i64 (.ofNat 6), .int .i64 (.ofNat 0), .str [], .str [65], .int .i64 (.ofNat 0), .int .i64 (.ofNat 0), .bool false, .bool true, .str [], .int .i64 (.ofNat 0), .int .i64 (.ofNat 3), .bool true, .bool false, .nils, .int .i64 (.ofNat 7), .int .i64 (.ofNat 0), .str [83, 85, 77], .str [], .int .i64 (.ofNat 0), .int .i64 (.ofNat 0), .bool false, .bool false, .str [], .int .i64 (.ofNat 0), .int .i64 (.ofNat 0), .bool false, .bool false, .slo 1 0 1 1 1] 89 false, .cells [.int .i64 (.ofNat 0)] 3 false]⟩
theorem csF4x2_run : look [0, 1] 2 (callOf (EcH csHkM4x2) (exec (EcH csHkM4x2) 3000) 15 csF4x2.al ⟨.leaf, 0⟩) = some (csF4x2.v.ren (rn [0, 1] 2), csF4x2.bs.map (Blk.ren (rn [0, 1] 2))) := by kernel_rfl
theorem csF4x2_ok [Sy] (hg : GlobOK Tryz.prog Sy.tab globs) : MemoOK Tryz.prog 15 csF4x2 :=
  @memoOK_of _ Tryz.prog (EcH csHkM4x2) (envCH hg _) (@idleCH _ _) (hooksCH (csHkM4x2_ok hg)) nameOK 15 3000 2 [0, 1] csF4x2 csF4x2_run rfl rfl (by decide)
def csPl4x2 : Memo := ⟨[.str [61, 83, 85, 77, 40, 65, 33, 65, 36, 49, 58, 36, 65, 52, 41]], .agg [.int .i64 (.ofNat 4), .int .i64 (.ofNat 1), .str []], []⟩
theorem csPl4x2_run : look [] 2 (callOf (EcH hk0) (exec (EcH hk0) 3000) 11 csPl4x2.al ⟨.leaf, 0⟩) = some (csPl4x2.v.ren (rn [] 2), csPl4x2.bs.map (Blk.ren (rn [] 2))) := by kernel_rfl
theorem csPl4x2_ok [Sy] (hg : GlobOK Tryz.prog Sy.tab globs) : MemoOK Tryz.prog 11 csPl4x2 :=
  @memoOK_of _ Tryz.prog (EcH hk0) (envCH hg _) (@idleCH _ _) (hooksCH hk0_ok) nameOK 11 3000 2 [] csPl4x2 csPl4x2_run rfl rfl (by decide)
def csF4 : List Memo := [csF4x0, csF4x1, csF4x2]
theorem csF4_ok [Sy] (hg : GlobOK Tryz.prog Sy.tab globs) : ∀ m ∈ csF4, MemoOK Tryz.prog 15 m := by
  intro m hm
  simp only [csF4, List.mem_cons, List.not_mem_nil, or_false] at hm
  rcases hm with rfl | rfl | rfl
  · exact csF4x0_ok hg
  · exact csF4x1_ok hg
  · exact csF4x2_ok hg
def csM4 : List Memo := [csM4x0, csM4x1, csM4x2]
theorem csM4_ok [Sy] (hg : GlobOK Tryz.prog Sy.tab globs) : ∀ m ∈ csM4, MemoOK Tryz.prog 30 m := by
  intro m hm
  simp only [csM4, List.mem_cons, List.not_mem_nil, or_false] at hm
  rcases hm with rfl | rfl | rfl
  · exact csM4x0_ok hg
  · exact csM4x1_ok hg
  · exact csM4x2_ok hg
def csPl4 : List Memo := [csPl4x0, csPl4x1, csPl4x2]
theorem csPl4_ok [Sy] (hg : GlobOK Tryz.prog Sy.tab globs) : ∀ m ∈ csPl4, MemoOK Tryz.prog 11 m := by
  intro m hm
  simp only [csPl4, List.mem_cons, List.not_mem_nil, or_false] at hm
  rcases hm with rfl | rfl | rfl
  · exact csPl4x0_ok hg
  · exact csPl4x1_ok hg
  · exact csPl4x2_ok hg
def csB4 : Bs := [(-32768, 32767), (-32768, 32767), (-32768, 32767), (-32768, 32767), (45, 57), (45, 57), (45, 57), (45, 57), (0, 85)]
def csFb4 : List Nat := [883423532391602571858037966535590867168326792077071541054698512348872704, 971334446115514806056899333375156529798206386946973230152256373165634664523410440192, 1067993517963369044535850330114687640157221353317266255281004089178617056054266692355008369786880, 1174271291390120594498622634852707159995054594747013037710412762384493506114783806701274667530477116764192768]
def csHk4 : List (Nat × Hook) := csHk csB4 4 csF4 csM4 csPl4
def csE4 : Env := EsH (csAr 4) csFb4 csB4 csHk4
theorem csRun4x0 (c : Nat) : isV (callOf csE4 (exec csE4 3000) 3 [.asl 0 4 c, .symI .u8 1291124939051674193867669070292637080679991219635027689104687048215633740032631770854673463557435506740086346250146807808] ⟨.leaf, 0⟩) = some (.bool true) := by kernel_rfl
theorem csRun4x1 (c : Nat) : isV (callOf csE4 (exec csE4 3000) 3 [.asl 0 4 c, .symI .u8 1291124939051674193867669070292637080679991219635027689104687048215633740032631770854673463557435506740086346250146807809] ⟨.leaf, 0⟩) = some (.bool true) := by kernel_rfl
theorem csRun4x2 (c : Nat) : isV (callOf csE4 (exec csE4 3000) 3 [.asl 0 4 c, .symI .u8 1291124939051674193867669070292637080679991219635027689104687048215633740032631770854673463557435506740086346250146807810] ⟨.leaf, 0⟩) = some (.bool true) := by kernel_rfl
theorem csCase4 {tab : List (Nat × Obj)} (ht : ∀ w : World, (∀ p ∈ tab, w.heap[p.1]? = some p.2) → Tab w) (hg : GlobOK Tryz.prog tab globs) (W : World) (hW : ∀ p ∈ tab, p.1 < W.heap.size ∧ W.heap[p.1]? = some p.2)
    (A : Option Addr) (l : List Int) (c : Nat) (n : Int) (hl : At1 (Value.int .i16) W A l) (hlen : l.length = 4) (hr : ∀ x ∈ l, -32768 ≤ x ∧ x ≤ 32767) (hn0 : 0 ≤ n) (hn1 : n ≤ 255) :
    Calls Tryz.prog 3 #[.slice A l.length c, .int .u8 n] W fun e W' => e = .returned (.bool true) ∧ Below W.heap.size W W' := by
  rcases (by omega : n % 3 = (0 : Nat) ∨ n % 3 = (1 : Nat) ∨ n % 3 = (2 : Nat)) with h | h | h
  · exact calcSums_of (k := 4) (h := 0) (by decide) (by decide) (by decide) (by kernel_rfl : csB4 = csBk 4) (by kernel_rfl : csFb4 = csFbk 4) (by kernel_rfl : 1291124939051674193867669070292637080679991219635027689104687048215633740032631770854673463557435506740086346250146807808 = encL (csHow 4 0)) csRun4x0 csF4_ok csM4_ok csPl4_ok ht hg W hW A l c n hl hlen hr hn0 hn1 h
  · exact calcSums_of (k := 4) (h := 1) (by decide) (by decide) (by decide) (by kernel_rfl : csB4 = csBk 4) (by kernel_rfl : csFb4 = csFbk 4) (by kernel_rfl : 1291124939051674193867669070292637080679991219635027689104687048215633740032631770854673463557435506740086346250146807809 = encL (csHow 4 1)) csRun4x1 csF4_ok csM4_ok csPl4_ok ht hg W hW A l c n hl hlen hr hn0 hn1 h
  · exact calcSums_of (k := 4) (h := 2) (by decide) (by decide) (by decide) (by kernel_rfl : csB4 = csBk 4) (by kernel_rfl : csFb4 = csFbk 4) (by kernel_rfl : 1291124939051674193867669070292637080679991219635027689104687048215633740032631770854673463557435506740086346250146807810 = encL (csHow 4 2)) csRun4x2 csF4_ok csM4_ok csPl4_ok ht hg W hW A l c n hl hlen hr hn0 hn1 h
end
end VM
end Go.Proofs.YtehbfpcfbpbllaaGreatDoor
