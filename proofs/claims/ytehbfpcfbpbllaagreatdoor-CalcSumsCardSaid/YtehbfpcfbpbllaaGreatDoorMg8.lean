/- CalcSums at 3 numbers: the kernel runs it. Written by csgen.py. -/
import Derived.Test.YtehbfpcfbpbllaaGreatDoorMg5
namespace Go.Proofs.YtehbfpcfbpbllaaGreatDoor
namespace VM
open Go Go.RowKit
set_option linter.unusedVariables false
set_option linter.unusedSectionVars false
set_option maxRecDepth 20000
noncomputable section
def csL3x0 : Memo := ⟨[.str [48, 43, 65, 49, 43, 65, 50, 43, 65, 51]], .tup [.slo 0 0 8 8 9, .int .i64 (.ofNat 0)], [.cells [.int .i64 (.ofNat 1), .str [], .int .i64 (.ofNat 0), .str [], .int .i64 (.ofNat 0), .int .i64 (.ofNat 0), .bool false, .bool false, .int .i64 (.ofNat 0), .int .i64 (.ofNat 5), .str [43], .int .i64 (.ofNat 0), .str [], .int .i64 (.ofNat 0), .int .i64 (.ofNat 0), .bool false, .bool false, .int .i64 (.ofNat 1), .int .i64 (.ofNat 4), .str [], .int .i64 (.ofNat 0), .str [], .int .i64 (.ofNat 0), .int .i64 (.ofNat 0), .bool false, .bool false, .int .i64 (.ofNat 2), .int .i64 (.ofNat 5), .str [43], .int .i64 (.ofNat 0), .str [], .int .i64 (.ofNat 0), .int .i64 (.ofNat 0), .bool false, .bool false, .int .i64 (.ofNat 4), .int .i64 (.ofNat 4), .str [], .int .i64 (.ofNat 0), .str [], .int .i64 (.ofNat 0), .int .i64 (.ofNat 1), .bool false, .bool false, .int .i64 (.ofNat 5), .int .i64 (.ofNat 5), .str [43], .int .i64 (.ofNat 0), .str [], .int .i64 (.ofNat 0), .int .i64 (.ofNat 0), .bool false, .bool false, .int .i64 (.ofNat 7), .int .i64 (.ofNat 4), .str [], .int .i64 (.ofNat 0), .str [], .int .i64 (.ofNat 0), .int .i64 (.ofNat 2), .bool false, .bool false, .int .i64 (.ofNat 8), .int .i64 (.ofNat 0), .str [], .int .i64 (.ofNat 0), .str [], .int .i64 (.ofNat 0), .int .i64 (.ofNat 0), .bool false, .bool false, .int .i64 (.ofNat 10)] 108 false]⟩
theorem csL3x0_run : look [55] 56 (callOf (EcH hk0) (exec (EcH hk0) 3000) 42 csL3x0.al ⟨.leaf, 0⟩) = some (csL3x0.v.ren (rn [55] 56), csL3x0.bs.map (Blk.ren (rn [55] 56))) := by kernel_rfl
theorem csL3x0_ok [Sy] (hg : GlobOK Tryz.prog Sy.tab globs) : MemoOK Tryz.prog 42 csL3x0 :=
  @memoOK_of _ Tryz.prog (EcH hk0) (envCH hg _) (@idleCH _ _) (hooksCH hk0_ok) nameOK 42 3000 56 [55] csL3x0 csL3x0_run rfl rfl (by decide)
def csHkL3x0 : List (Nat × Hook) := (42, memoH [csL3x0]) :: hk0
theorem csHkL3x0_ok [Sy] (hg : GlobOK Tryz.prog Sy.tab globs) : ∀ p ∈ csHkL3x0, HookOK p.1 p.2 := hk1_ok (csL3x0_ok hg) hk0_ok
def csP3x0 : Memo := ⟨[.str [48, 43, 65, 49, 43, 65, 50, 43, 65, 51]], .tup [.slo 0 0 7 7 14, .int .i64 (.ofNat 0)], [.cells [.int .i64 (.ofNat 1), .int .i64 (.ofNat 0), .str [], .str [], .int .i64 (.ofNat 0), .int .i64 (.ofNat 0), .bool false, .bool false, .str [], .int .i64 (.ofNat 0), .int .i64 (.ofNat 0), .bool false, .bool false, .nils, .int .i64 (.ofNat 5), .int .i64 (.ofNat 0), .str [], .str [], .int .i64 (.ofNat 0), .int .i64 (.ofNat 0), .bool false, .bool false, .str [], .int .i64 (.ofNat 0), .int .i64 (.ofNat 0), .bool false, .bool false, .nils, .int .i64 (.ofNat 16), .int .i64 (.ofNat 0), .str [], .str [], .int .i64 (.ofNat 0), .int .i64 (.ofNat 0), .bool false, .bool false, .str [], .int .i64 (.ofNat 0), .int .i64 (.ofNat 0), .bool false, .bool false, .sl 1 0 2 2, .int .i64 (.ofNat 5), .int .i64 (.ofNat 0), .str [], .str [], .int .i64 (.ofNat 0), .int .i64 (.ofNat 1), .bool false, .bool false, .str [], .int .i64 (.ofNat 0), .int .i64 (.ofNat 0), .bool false, .bool false, .nils, .int .i64 (.ofNat 16), .int .i64 (.ofNat 0), .str [], .str [], .int .i64 (.ofNat 0), .int .i64 (.ofNat 0), .bool false, .bool false, .str [], .int .i64 (.ofNat 0), .int .i64 (.ofNat 0), .bool false, .bool false, .sl 2 0 2 2, .int .i64 (.ofNat 5), .int .i64 (.ofNat 0), .str [], .str [], .int .i64 (.ofNat 0), .int .i64 (.ofNat 2), .bool false, .bool false, .str [], .int .i64 (.ofNat 0), .int .i64 (.ofNat 0), .bool false, .bool false, .nils, .int .i64 (.ofNat 16), .int .i64 (.ofNat 0), .str [], .str [], .int .i64 (.ofNat 0), .int .i64 (.ofNat 0), .bool false, .bool false, .str [], .int .i64 (.ofNat 0), .int .i64 (.ofNat 0), .bool false, .bool false, .sl 3 0 2 2] 89 false, .cells [.int .i64 (.ofNat 0), .int .i64 (.ofNat 1)] 3 false, .cells [.int .i64 (.ofNat 2), .int .i64 (.ofNat 3)] 3 false, .cells [.int .i64 (.ofNat 4), .int .i64 (.ofNat 5)] 3 false]⟩
theorem csP3x0_run : look [87, 42, 63, 84] 95 (callOf (EcH csHkL3x0) (exec (EcH csHkL3x0) 3000) 31 csP3x0.al ⟨.leaf, 0⟩) = some (csP3x0.v.ren (rn [87, 42, 63, 84] 95), csP3x0.bs.map (Blk.ren (rn [87, 42, 63, 84] 95))) := by kernel_rfl
theorem csP3x0_ok [Sy] (hg : GlobOK Tryz.prog Sy.tab globs) : MemoOK Tryz.prog 31 csP3x0 :=
  @memoOK_of _ Tryz.prog (EcH csHkL3x0) (envCH hg _) (@idleCH _ _) (hooksCH (csHkL3x0_ok hg)) nameOK 31 3000 95 [87, 42, 63, 84] csP3x0 csP3x0_run rfl rfl (by decide)
def csHkP3x0 : List (Nat × Hook) := (31, memoH [csP3x0]) :: hk0
theorem csHkP3x0_ok [Sy] (hg : GlobOK Tryz.prog Sy.tab globs) : ∀ p ∈ csHkP3x0, HookOK p.1 p.2 := hk1_ok (csP3x0_ok hg) hk0_ok
def csM3x0 : Memo := ⟨[.str [61, 48, 43, 65, 49, 43, 65, 50, 43, 65, 51]], .bool true, []⟩
theorem csM3x0_run : look [] 70 (callOf (EcH csHkP3x0) (exec (EcH csHkP3x0) 3000) 30 csM3x0.al ⟨.leaf, 0⟩) = some (csM3x0.v.ren (rn [] 70), csM3x0.bs.map (Blk.ren (rn [] 70))) := by kernel_rfl
theorem csM3x0_ok [Sy] (hg : GlobOK Tryz.prog Sy.tab globs) : MemoOK Tryz.prog 30 csM3x0 :=
  @memoOK_of _ Tryz.prog (EcH csHkP3x0) (envCH hg _) (@idleCH _ _) (hooksCH (csHkP3x0_ok hg)) nameOK 30 3000 70 [] csM3x0 csM3x0_run rfl rfl (by decide)
def csHkM3x0 : List (Nat × Hook) := (30, memoH [csM3x0]) :: csHkP3x0
theorem csHkM3x0_ok [Sy] (hg : GlobOK Tryz.prog Sy.tab globs) : ∀ p ∈ csHkM3x0, HookOK p.1 p.2 := hk1_ok (csM3x0_ok hg) (csHkP3x0_ok hg)
def csF3x0 : Memo := ⟨[.str [61, 48, 43, 65, 49, 43, 65, 50, 43, 65, 51]], .tup [.slo 0 0 7 7 14, .bool true], [.cells [.int .i64 (.ofNat 1), .int .i64 (.ofNat 0), .str [], .str [], .int .i64 (.ofNat 0), .int .i64 (.ofNat 0), .bool false, .bool false, .str [], .int .i64 (.ofNat 0), .int .i64 (.ofNat 0), .bool false, .bool false, .nils, .int .i64 (.ofNat 5), .int .i64 (.ofNat 0), .str [], .str [], .int .i64 (.ofNat 0), .int .i64 (.ofNat 0), .bool false, .bool false, .str [], .int .i64 (.ofNat 0), .int .i64 (.ofNat 0), .bool false, .bool false, .nils, .int .i64 (.ofNat 16), .int .i64 (.ofNat 0), .str [], .str [], .int .i64 (.ofNat 0), .int .i64 (.ofNat 0), .bool false, .bool false, .str [], .int .i64 (.ofNat 0), .int .i64 (.ofNat 0), .bool false, .bool false, .sl 1 0 2 2, .int .i64 (.ofNat 5), .int .i64 (.ofNat 0), .str [], .str [], .int .i64 (.ofNat 0), .int .i64 (.ofNat 1), .bool false, .bool false, .str [], .int .i64 (.ofNat 0), .int .i64 (.ofNat 0), .bool false, .bool false, .nils, .int .i64 (.ofNat 16), .int .i64 (.ofNat 0), .str [], .str [], .int .i64 (.ofNat 0), .int .i64 (.ofNat 0), .bool false, .bool false, .str [], .int .i64 (.ofNat 0), .int .i64 (.ofNat 0), .bool false, .bool false, .sl 2 0 2 2, .int .i64 (.ofNat 5), .int .i64 (.ofNat 0), .str [], .str [], .int .i64 (.ofNat 0), .int .i64 (.ofNat 2), .bool false, .bool false, .str [], .int .i64 (.ofNat 0), .int .i64 (.ofNat 0), .bool false, .bool false, .nils, .int .i64 (.ofNat 16), .int .i64 (.ofNat 0), .str [], .str [], .int .i64 (.ofNat 0), .int .i64 (.ofNat 0), .bool false, .bool false, .str [], .int .i64 (.ofNat 0), .int .i64 (.ofNat 0), .bool false, .bool false, .sl 3 0 2 2] 89 false, .cells [.int .i64 (.ofNat 0), .int .i64 (.ofNat 1)] 3 false, .cells [.int .i64 (.ofNat 2), .int .i64 (.ofNat 3)] 3 false, .cells [.int .i64 (.ofNat 4), .int .i64 (.ofNat 5)] 3 false]⟩
theorem csF3x0_run : look [0, 1, 2, 3] 4 (callOf (EcH csHkM3x0) (exec (EcH csHkM3x0) 3000) 15 csF3x0.al ⟨.leaf, 0⟩) = some (csF3x0.v.ren (rn [0, 1, 2, 3] 4), csF3x0.bs.map (Blk.ren (rn [0, 1, 2, 3] 4))) := by kernel_rfl
theorem csF3x0_ok [Sy] (hg : GlobOK Tryz.prog Sy.tab globs) : MemoOK Tryz.prog 15 csF3x0 :=
  @memoOK_of _ Tryz.prog (EcH csHkM3x0) (envCH hg _) (@idleCH _ _) (hooksCH (csHkM3x0_ok hg)) nameOK 15 3000 4 [0, 1, 2, 3] csF3x0 csF3x0_run rfl rfl (by decide)
def csPl3x0 : Memo := ⟨[.str [61, 48, 43, 65, 49, 43, 65, 50, 43, 65, 51]], .agg [.int .i64 (.ofNat 4), .int .i64 (.ofNat 1), .str []], []⟩
theorem csPl3x0_run : look [] 2 (callOf (EcH hk0) (exec (EcH hk0) 3000) 11 csPl3x0.al ⟨.leaf, 0⟩) = some (csPl3x0.v.ren (rn [] 2), csPl3x0.bs.map (Blk.ren (rn [] 2))) := by kernel_rfl
theorem csPl3x0_ok [Sy] (hg : GlobOK Tryz.prog Sy.tab globs) : MemoOK Tryz.prog 11 csPl3x0 :=
  @memoOK_of _ Tryz.prog (EcH hk0) (envCH hg _) (@idleCH _ _) (hooksCH hk0_ok) nameOK 11 3000 2 [] csPl3x0 csPl3x0_run rfl rfl (by decide)
def csP3x1 : Memo := ⟨[.str [83, 85, 77, 40, 65, 49, 58, 65, 51, 41]], .tup [.slo 0 0 2 2 14, .int .i64 (.ofNat 0)], [.cells [.int .i64 (.ofNat 6), .int .i64 (.ofNat 0), .str [], .str [], .int .i64 (.ofNat 0), .int .i64 (.ofNat 0), .bool false, .bool false, .str [], .int .i64 (.ofNat 0), .int .i64 (.ofNat 2), .bool false, .bool false, .nils, .int .i64 (.ofNat 7), .int .i64 (.ofNat 0), .str [83, 85, 77], .str [], .int .i64 (.ofNat 0), .int .i64 (.ofNat 0), .bool false, .bool false, .str [], .int .i64 (.ofNat 0), .int .i64 (.ofNat 0), .bool false, .bool false, .slo 1 0 1 1 1] 89 false, .cells [.int .i64 (.ofNat 0)] 3 false]⟩
theorem csP3x1_run : look [116, 109] 126 (callOf (EcH hk0) (exec (EcH hk0) 3000) 31 csP3x1.al ⟨.leaf, 0⟩) = some (csP3x1.v.ren (rn [116, 109] 126), csP3x1.bs.map (Blk.ren (rn [116, 109] 126))) := by kernel_rfl
theorem csP3x1_ok [Sy] (hg : GlobOK Tryz.prog Sy.tab globs) : MemoOK Tryz.prog 31 csP3x1 :=
  @memoOK_of _ Tryz.prog (EcH hk0) (envCH hg _) (@idleCH _ _) (hooksCH hk0_ok) nameOK 31 3000 126 [116, 109] csP3x1 csP3x1_run rfl rfl (by decide)
def csHkP3x1 : List (Nat × Hook) := (31, memoH [csP3x1]) :: hk0
theorem csHkP3x1_ok [Sy] (hg : GlobOK Tryz.prog Sy.tab globs) : ∀ p ∈ csHkP3x1, HookOK p.1 p.2 := hk1_ok (csP3x1_ok hg) hk0_ok
def csM3x1 : Memo := ⟨[.str [61, 83, 85, 77, 40, 65, 49, 58, 65, 51, 41]], .bool true, []⟩
theorem csM3x1_run : look [] 33 (callOf (EcH csHkP3x1) (exec (EcH csHkP3x1) 3000) 30 csM3x1.al ⟨.leaf, 0⟩) = some (csM3x1.v.ren (rn [] 33), csM3x1.bs.map (Blk.ren (rn [] 33))) := by kernel_rfl
theorem csM3x1_ok [Sy] (hg : GlobOK Tryz.prog Sy.tab globs) : MemoOK Tryz.prog 30 csM3x1 :=
  @memoOK_of _ Tryz.prog (EcH csHkP3x1) (envCH hg _) (@idleCH _ _) (hooksCH (csHkP3x1_ok hg)) nameOK 30 3000 33 [] csM3x1 csM3x1_run rfl rfl (by decide)
def csHkM3x1 : List (Nat × Hook) := (30, memoH [csM3x1]) :: csHkP3x1
theorem csHkM3x1_ok [Sy] (hg : GlobOK Tryz.prog Sy.tab globs) : ∀ p ∈ csHkM3x1, HookOK p.1 p.2 := hk1_ok (csM3x1_ok hg) (csHkP3x1_ok hg)
def csF3x1 : Memo := ⟨[.str [61, 83, 85, 77, 40, 65, 49, 58, 65, 51, 41]], .tup [.slo 0 0 2 2 14, .bool true], [.cells [.int .i64 (.ofNat 6), .int .i64 (.ofNat 0), .str [], .str [], .int .i64 (.ofNat 0), .int .i64 (.ofNat 0), .bool false, .bool false, .str [], .int .i64 (.ofNat 0), .int .i64 (.ofNat 2), .bool false, .bool false, .nils, .int .i64 (.ofNat 7), .int .i64 (.ofNat 0), .str [83, 85, 77], .str [], .int .i64 (.ofNat 0), .int .i64 (.ofNat 0), .bool false, .bool false, .str [], .int .i64 (.ofNat 0), .int .i64 (.ofNat 0), .bool false, .bool false, .slo 1 0 1 1 1] 89 false, .cells [.int .i64 (.ofNat 0)] 3 false]⟩
theorem csF3x1_run : look [0, 1] 2 (callOf (EcH csHkM3x1) (exec (EcH csHkM3x1) 3000) 15 csF3x1.al ⟨.leaf, 0⟩) = some (csF3x1.v.ren (rn [0, 1] 2), csF3x1.bs.map (Blk.ren (rn [0, 1] 2))) := by kernel_rfl
theorem csF3x1_ok [Sy] (hg : GlobOK Tryz.prog Sy.tab globs) : MemoOK Tryz.prog 15 csF3x1 :=
  @memoOK_of _ Tryz.prog (EcH csHkM3x1) (envCH hg _) (@idleCH _ _) (hooksCH (csHkM3x1_ok hg)) nameOK 15 3000 2 [0, 1] csF3x1 csF3x1_run rfl rfl (by decide)
def csPl3x1 : Memo := ⟨[.str [61, 83, 85, 77, 40, 65, 49, 58, 65, 51, 41]], .agg [.int .i64 (.ofNat 4), .int .i64 (.ofNat 1), .str []], []⟩
theorem csPl3x1_run : look [] 2 (callOf (EcH hk0) (exec (EcH hk0) 3000) 11 csPl3x1.al ⟨.leaf, 0⟩) = some (csPl3x1.v.ren (rn [] 2), csPl3x1.bs.map (Blk.ren (rn [] 2))) := by kernel_rfl
theorem csPl3x1_ok [Sy] (hg : GlobOK Tryz.prog Sy.tab globs) : MemoOK Tryz.prog 11 csPl3x1 :=
  @memoOK_of _ Tryz.prog (EcH hk0) (envCH hg _) (@idleCH _ _) (hooksCH hk0_ok) nameOK 11 3000 2 [] csPl3x1 csPl3x1_run rfl rfl (by decide)
def csP3x2 : Memo := ⟨[.str [83, 85, 77, 40, 65, 33, 65, 36, 49, 58, 36, 65, 51, 41]], .tup [.slo 0 0 2 2 14, .int .i64 (.ofNat 0)], [.cells [.int .i64 (.ofNat 6), .int .i64 (.ofNat 0), .str [], .str [65], .int .i64 (.ofNat 0), .int .i64 (.ofNat 0), .bool false, .bool true, .str [], .int .i64 (.ofNat 0), .int .i64 (.ofNat 2), .bool true, .bool false, .nils, .int .i64 (.ofNat 7), .int .i64 (.ofNat 0), .str [83, 85, 77], .str [], .int .i64 (.ofNat 0), .int .i64 (.ofNat 0), .bool false, .bool false, .str [], .int .i64 (.ofNat 0), .int .i64 (.ofNat 0), .bool false, .bool false, .slo 1 0 1 1 1] 89 false, .cells [.int .i64 (.ofNat 0)] 3 false]⟩
theorem csP3x2_run : look [116, 109] 126 (callOf (EcH hk0) (exec (EcH hk0) 3000) 31 csP3x2.al ⟨.leaf, 0⟩) = some (csP3x2.v.ren (rn [116, 109] 126), csP3x2.bs.map (Blk.ren (rn [116, 109] 126))) := by kernel_rfl
theorem csP3x2_ok [Sy] (hg : GlobOK Tryz.prog Sy.tab globs) : MemoOK Tryz.prog 31 csP3x2 :=
  @memoOK_of _ Tryz.prog (EcH hk0) (envCH hg _) (@idleCH _ _) (hooksCH hk0_ok) nameOK 31 3000 126 [116, 109] csP3x2 csP3x2_run rfl rfl (by decide)
def csHkP3x2 : List (Nat × Hook) := (31, memoH [csP3x2]) :: hk0
theorem csHkP3x2_ok [Sy] (hg : GlobOK Tryz.prog Sy.tab globs) : ∀ p ∈ csHkP3x2, HookOK p.1 p.2 := hk1_ok (csP3x2_ok hg) hk0_ok
def csM3x2 : Memo := ⟨[.str [61, 83, 85, 77, 40, 65, 33, 65, 36, 49, 58, 36, 65, 51, 41]], .bool true, []⟩
theorem csM3x2_run : look [] 33 (callOf (EcH csHkP3x2) (exec (EcH csHkP3x2) 3000) 30 csM3x2.al ⟨.leaf, 0⟩) = some (csM3x2.v.ren (rn [] 33), csM3x2.bs.map (Blk.ren (rn [] 33))) := by kernel_rfl
theorem csM3x2_ok [Sy] (hg : GlobOK Tryz.prog Sy.tab globs) : MemoOK Tryz.prog 30 csM3x2 :=
  @memoOK_of _ Tryz.prog (EcH csHkP3x2) (envCH hg _) (@idleCH _ _) (hooksCH (csHkP3x2_ok hg)) nameOK 30 3000 33 [] csM3x2 csM3x2_run rfl rfl (by decide)
def csHkM3x2 : List (Nat × Hook) := (30, memoH [csM3x2]) :: csHkP3x2
theorem csHkM3x2_ok [Sy] (hg : GlobOK Tryz.prog Sy.tab globs) : ∀ p ∈ csHkM3x2, HookOK p.1 p.2 := hk1_ok (csM3x2_ok hg) (csHkP3x2_ok hg)
def csF3x2 : Memo := ⟨[.str [61, 83, 85, 77, 40, 65, 33, 65, 36, 49, 58, 36, 65, 51, 41]], .tup [.slo 0 0 2 2 14, .bool true], [.cells [.int .i64 (.ofNat 6), .int .i64 (.ofNat 0), .str [], .str [65], .int .i64 (.ofNat 0), .int .i64 (.ofNat 0), .bool false, .bool true, .str [], .int .i64 (.ofNat 0), .int .i64 (.ofNat 2), .bool true, .bool false, .nils, .int .i64 (.ofNat 7), .int .i64 (.ofNat 0), .str [83, 85, 77], .str [], .int .i64 (.ofNat 0), .int .i64 (.ofNat 0), .bool false, .bool false, .str [], .int .i64 (.ofNat 0), .int .i64 (.ofNat 0), .bool false, .bool false, .slo 1 0 1 1 1] 89 false, .cells [.int .i64 (.ofNat 0)] 3 false]⟩
theorem csF3x2_run : look [0, 1] 2 (callOf (EcH csHkM3x2) (exec (EcH csHkM3x2) 3000) 15 csF3x2.al ⟨.leaf, 0⟩) = some (csF3x2.v.ren (rn [0, 1] 2), csF3x2.bs.map (Blk.ren (rn [0, 1] 2))) := by kernel_rfl
theorem csF3x2_ok [Sy] (hg : GlobOK Tryz.prog Sy.tab globs) : MemoOK Tryz.prog 15 csF3x2 :=
  @memoOK_of _ Tryz.prog (EcH csHkM3x2) (envCH hg _) (@idleCH _ _) (hooksCH (csHkM3x2_ok hg)) nameOK 15 3000 2 [0, 1] csF3x2 csF3x2_run rfl rfl (by decide)
def csPl3x2 : Memo := ⟨[.str [61, 83, 85, 77, 40, 65, 33, 65, 36, 49, 58, 36, 65, 51, 41]], .agg [.int .i64 (.ofNat 4), .int .i64 (.ofNat 1), .str []], []⟩
theorem csPl3x2_run : look [] 2 (callOf (EcH hk0) (exec (EcH hk0) 3000) 11 csPl3x2.al ⟨.leaf, 0⟩) = some (csPl3x2.v.ren (rn [] 2), csPl3x2.bs.map (Blk.ren (rn [] 2))) := by kernel_rfl
theorem csPl3x2_ok [Sy] (hg : GlobOK Tryz.prog Sy.tab globs) : MemoOK Tryz.prog 11 csPl3x2 :=
  @memoOK_of _ Tryz.prog (EcH hk0) (envCH hg _) (@idleCH _ _) (hooksCH hk0_ok) nameOK 11 3000 2 [] csPl3x2 csPl3x2_run rfl rfl (by decide)
def csF3 : List Memo := [csF3x0, csF3x1, csF3x2]
theorem csF3_ok [Sy] (hg : GlobOK Tryz.prog Sy.tab globs) : ∀ m ∈ csF3, MemoOK Tryz.prog 15 m := by
  intro m hm
  simp only [csF3, List.mem_cons, List.not_mem_nil, or_false] at hm
  rcases hm with rfl | rfl | rfl
  · exact csF3x0_ok hg
  · exact csF3x1_ok hg
  · exact csF3x2_ok hg
def csM3 : List Memo := [csM3x0, csM3x1, csM3x2]
theorem csM3_ok [Sy] (hg : GlobOK Tryz.prog Sy.tab globs) : ∀ m ∈ csM3, MemoOK Tryz.prog 30 m := by
  intro m hm
  simp only [csM3, List.mem_cons, List.not_mem_nil, or_false] at hm
  rcases hm with rfl | rfl | rfl
  · exact csM3x0_ok hg
  · exact csM3x1_ok hg
  · exact csM3x2_ok hg
def csPl3 : List Memo := [csPl3x0, csPl3x1, csPl3x2]
theorem csPl3_ok [Sy] (hg : GlobOK Tryz.prog Sy.tab globs) : ∀ m ∈ csPl3, MemoOK Tryz.prog 11 m := by
  intro m hm
  simp only [csPl3, List.mem_cons, List.not_mem_nil, or_false] at hm
  rcases hm with rfl | rfl | rfl
  · exact csPl3x0_ok hg
  · exact csPl3x1_ok hg
  · exact csPl3x2_ok hg
def csB3 : Bs := [(-32768, 32767), (-32768, 32767), (-32768, 32767), (45, 57), (45, 57), (45, 57), (0, 85)]
def csFb3 : List Nat := [803469022131687390226978065161884721572575283132274799804416, 883423532391602571858037966535590867168326792077071541054698512348872704, 971334446115514806056899333375156529798206386946973230152256373165634664523410440192]
def csHk3 : List (Nat × Hook) := csHk csB3 3 csF3 csM3 csPl3
def csE3 : Env := EsH (csAr 3) csFb3 csB3 csHk3
theorem csRun3x0 (c : Nat) : isV (callOf csE3 (exec csE3 3000) 3 [.asl 0 3 c, .symI .u8 1067993517967254382320301788256526563970868391130551068959108368221120680873744500925418786783232] ⟨.leaf, 0⟩) = some (.bool true) := by kernel_rfl
theorem csRun3x1 (c : Nat) : isV (callOf csE3 (exec csE3 3000) 3 [.asl 0 3 c, .symI .u8 1067993517967254382320301788256526563970868391130551068959108368221120680873744500925418786783233] ⟨.leaf, 0⟩) = some (.bool true) := by kernel_rfl
theorem csRun3x2 (c : Nat) : isV (callOf csE3 (exec csE3 3000) 3 [.asl 0 3 c, .symI .u8 1067993517967254382320301788256526563970868391130551068959108368221120680873744500925418786783234] ⟨.leaf, 0⟩) = some (.bool true) := by kernel_rfl
theorem csCase3 {tab : List (Nat × Obj)} (ht : ∀ w : World, (∀ p ∈ tab, w.heap[p.1]? = some p.2) → Tab w) (hg : GlobOK Tryz.prog tab globs) (W : World) (hW : ∀ p ∈ tab, p.1 < W.heap.size ∧ W.heap[p.1]? = some p.2)
    (A : Option Addr) (l : List Int) (c : Nat) (n : Int) (hl : At1 (Value.int .i16) W A l) (hlen : l.length = 3) (hr : ∀ x ∈ l, -32768 ≤ x ∧ x ≤ 32767) (hn0 : 0 ≤ n) (hn1 : n ≤ 255) :
    Calls Tryz.prog 3 #[.slice A l.length c, .int .u8 n] W fun e W' => e = .returned (.bool true) ∧ Below W.heap.size W W' := by
  rcases (by omega : n % 3 = (0 : Nat) ∨ n % 3 = (1 : Nat) ∨ n % 3 = (2 : Nat)) with h | h | h
  · exact calcSums_of (k := 3) (h := 0) (by decide) (by decide) (by decide) (by kernel_rfl : csB3 = csBk 3) (by kernel_rfl : csFb3 = csFbk 3) (by kernel_rfl : 1067993517967254382320301788256526563970868391130551068959108368221120680873744500925418786783232 = encL (csHow 3 0)) csRun3x0 csF3_ok csM3_ok csPl3_ok ht hg W hW A l c n hl hlen hr hn0 hn1 h
  · exact calcSums_of (k := 3) (h := 1) (by decide) (by decide) (by decide) (by kernel_rfl : csB3 = csBk 3) (by kernel_rfl : csFb3 = csFbk 3) (by kernel_rfl : 1067993517967254382320301788256526563970868391130551068959108368221120680873744500925418786783233 = encL (csHow 3 1)) csRun3x1 csF3_ok csM3_ok csPl3_ok ht hg W hW A l c n hl hlen hr hn0 hn1 h
  · exact calcSums_of (k := 3) (h := 2) (by decide) (by decide) (by decide) (by kernel_rfl : csB3 = csBk 3) (by kernel_rfl : csFb3 = csFbk 3) (by kernel_rfl : 1067993517967254382320301788256526563970868391130551068959108368221120680873744500925418786783234 = encL (csHow 3 2)) csRun3x2 csF3_ok csM3_ok csPl3_ok ht hg W hW A l c n hl hlen hr hn0 hn1 h
end
end VM
end Go.Proofs.YtehbfpcfbpbllaaGreatDoor
