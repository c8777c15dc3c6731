/- CalcSums at 2 numbers: the kernel runs it. Written by csgen.py. -/
import Derived.Test.YtehbfpcfbpbllaaGreatDoorMg5
namespace Go.Proofs.YtehbfpcfbpbllaaGreatDoor
namespace VM
open Go Go.RowKit
set_option linter.unusedVariables false
set_option linter.unusedSectionVars false
set_option maxRecDepth 20000
noncomputable section
def csL2x0 : Memo := ⟨[.str [48, 43, 65, 49, 43, 65, 50]], .tup [.slo 0 0 6 6 9, .int .i64 (.ofNat 0)], [.cells [.int .i64 (.ofNat 1), .str [], .int .i64 (.ofNat 0), .str [], .int .i64 (.ofNat 0), .int .i64 (.ofNat 0), .bool false, .bool false, .int .i64 (.ofNat 0), .int .i64 (.ofNat 5), .str [43], .int .i64 (.ofNat 0), .str [], .int .i64 (.ofNat 0), .int .i64 (.ofNat 0), .bool false, .bool false, .int .i64 (.ofNat 1), .int .i64 (.ofNat 4), .str [], .int .i64 (.ofNat 0), .str [], .int .i64 (.ofNat 0), .int .i64 (.ofNat 0), .bool false, .bool false, .int .i64 (.ofNat 2), .int .i64 (.ofNat 5), .str [43], .int .i64 (.ofNat 0), .str [], .int .i64 (.ofNat 0), .int .i64 (.ofNat 0), .bool false, .bool false, .int .i64 (.ofNat 4), .int .i64 (.ofNat 4), .str [], .int .i64 (.ofNat 0), .str [], .int .i64 (.ofNat 0), .int .i64 (.ofNat 1), .bool false, .bool false, .int .i64 (.ofNat 5), .int .i64 (.ofNat 0), .str [], .int .i64 (.ofNat 0), .str [], .int .i64 (.ofNat 0), .int .i64 (.ofNat 0), .bool false, .bool false, .int .i64 (.ofNat 7)] 108 false]⟩
theorem csL2x0_run : look [39] 40 (callOf (EcH hk0) (exec (EcH hk0) 3000) 42 csL2x0.al ⟨.leaf, 0⟩) = some (csL2x0.v.ren (rn [39] 40), csL2x0.bs.map (Blk.ren (rn [39] 40))) := by kernel_rfl
theorem csL2x0_ok [Sy] (hg : GlobOK Tryz.prog Sy.tab globs) : MemoOK Tryz.prog 42 csL2x0 :=
  @memoOK_of _ Tryz.prog (EcH hk0) (envCH hg _) (@idleCH _ _) (hooksCH hk0_ok) nameOK 42 3000 40 [39] csL2x0 csL2x0_run rfl rfl (by decide)
def csHkL2x0 : List (Nat × Hook) := (42, memoH [csL2x0]) :: hk0
theorem csHkL2x0_ok [Sy] (hg : GlobOK Tryz.prog Sy.tab globs) : ∀ p ∈ csHkL2x0, HookOK p.1 p.2 := hk1_ok (csL2x0_ok hg) hk0_ok
def csP2x0 : Memo := ⟨[.str [48, 43, 65, 49, 43, 65, 50]], .tup [.slo 0 0 5 5 14, .int .i64 (.ofNat 0)], [.cells [.int .i64 (.ofNat 1), .int .i64 (.ofNat 0), .str [], .str [], .int .i64 (.ofNat 0), .int .i64 (.ofNat 0), .bool false, .bool false, .str [], .int .i64 (.ofNat 0), .int .i64 (.ofNat 0), .bool false, .bool false, .nils, .int .i64 (.ofNat 5), .int .i64 (.ofNat 0), .str [], .str [], .int .i64 (.ofNat 0), .int .i64 (.ofNat 0), .bool false, .bool false, .str [], .int .i64 (.ofNat 0), .int .i64 (.ofNat 0), .bool false, .bool false, .nils, .int .i64 (.ofNat 16), .int .i64 (.ofNat 0), .str [], .str [], .int .i64 (.ofNat 0), .int .i64 (.ofNat 0), .bool false, .bool false, .str [], .int .i64 (.ofNat 0), .int .i64 (.ofNat 0), .bool false, .bool false, .sl 1 0 2 2, .int .i64 (.ofNat 5), .int .i64 (.ofNat 0), .str [], .str [], .int .i64 (.ofNat 0), .int .i64 (.ofNat 1), .bool false, .bool false, .str [], .int .i64 (.ofNat 0), .int .i64 (.ofNat 0), .bool false, .bool false, .nils, .int .i64 (.ofNat 16), .int .i64 (.ofNat 0), .str [], .str [], .int .i64 (.ofNat 0), .int .i64 (.ofNat 0), .bool false, .bool false, .str [], .int .i64 (.ofNat 0), .int .i64 (.ofNat 0), .bool false, .bool false, .sl 2 0 2 2] 89 false, .cells [.int .i64 (.ofNat 0), .int .i64 (.ofNat 1)] 3 false, .cells [.int .i64 (.ofNat 2), .int .i64 (.ofNat 3)] 3 false]⟩
theorem csP2x0_run : look [66, 42, 63] 74 (callOf (EcH csHkL2x0) (exec (EcH csHkL2x0) 3000) 31 csP2x0.al ⟨.leaf, 0⟩) = some (csP2x0.v.ren (rn [66, 42, 63] 74), csP2x0.bs.map (Blk.ren (rn [66, 42, 63] 74))) := by kernel_rfl
theorem csP2x0_ok [Sy] (hg : GlobOK Tryz.prog Sy.tab globs) : MemoOK Tryz.prog 31 csP2x0 :=
  @memoOK_of _ Tryz.prog (EcH csHkL2x0) (envCH hg _) (@idleCH _ _) (hooksCH (csHkL2x0_ok hg)) nameOK 31 3000 74 [66, 42, 63] csP2x0 csP2x0_run rfl rfl (by decide)
def csHkP2x0 : List (Nat × Hook) := (31, memoH [csP2x0]) :: hk0
theorem csHkP2x0_ok [Sy] (hg : GlobOK Tryz.prog Sy.tab globs) : ∀ p ∈ csHkP2x0, HookOK p.1 p.2 := hk1_ok (csP2x0_ok hg) hk0_ok
def csM2x0 : Memo := ⟨[.str [61, 48, 43, 65, 49, 43, 65, 50]], .bool true, []⟩
theorem csM2x0_run : look [] 50 (callOf (EcH csHkP2x0) (exec (EcH csHkP2x0) 3000) 30 csM2x0.al ⟨.leaf, 0⟩) = some (csM2x0.v.ren (rn [] 50), csM2x0.bs.map (Blk.ren (rn [] 50))) := by kernel_rfl
theorem csM2x0_ok [Sy] (hg : GlobOK Tryz.prog Sy.tab globs) : MemoOK Tryz.prog 30 csM2x0 :=
  @memoOK_of _ Tryz.prog (EcH csHkP2x0) (envCH hg _) (@idleCH _ _) (hooksCH (csHkP2x0_ok hg)) nameOK 30 3000 50 [] csM2x0 csM2x0_run rfl rfl (by decide)
def csHkM2x0 : List (Nat × Hook) := (30, memoH [csM2x0]) :: csHkP2x0
theorem csHkM2x0_ok [Sy] (hg : GlobOK Tryz.prog Sy.tab globs) : ∀ p ∈ csHkM2x0, HookOK p.1 p.2 := hk1_ok (csM2x0_ok hg) (csHkP2x0_ok hg)
def csF2x0 : Memo := ⟨[.str [61, 48, 43, 65, 49, 43, 65, 50]], .tup [.slo 0 0 5 5 14, .bool true], [.cells [.int .i64 (.ofNat 1), .int .i64 (.ofNat 0), .str [], .str [], .int .i64 (.ofNat 0), .int .i64 (.ofNat 0), .bool false, .bool false, .str [], .int .i64 (.ofNat 0), .int .i64 (.ofNat 0), .bool false, .bool false, .nils, .int .i64 (.ofNat 5), .int .i64 (.ofNat 0), .str [], .str [], .int .i64 (.ofNat 0), .int .i64 (.ofNat 0), .bool false, .bool false, .str [], .int .i64 (.ofNat 0), .int .i64 (.ofNat 0), .bool false, .bool false, .nils, .int .i64 (.ofNat 16), .int .i64 (.ofNat 0), .str [], .str [], .int .i64 (.ofNat 0), .int .i64 (.ofNat 0), .bool false, .bool false, .str [], .int .i64 (.ofNat 0), .int .i64 (.ofNat 0), .bool false, .bool false, .sl 1 0 2 2, .int .i64 (.ofNat 5), .int .i64 (.ofNat 0), .str [], .str [], .int .i64 (.ofNat 0), .int .i64 (.ofNat 1), .bool false, .bool false, .str [], .int .i64 (.ofNat 0), .int .i64 (.ofNat 0), .bool false, .bool false, .nils, .int .i64 (.ofNat 16), .int .i64 (.ofNat 0), .str [], .str [], .int .i64 (.ofNat 0), .int .i64 (.ofNat 0), .bool false, .bool false, .str [], .int .i64 (.ofNat 0), .int .i64 (.ofNat 0), .bool false, .bool false, .sl 2 0 2 2] 89 false, .cells [.int .i64 (.ofNat 0), .int .i64 (.ofNat 1)] 3 false, .cells [.int .i64 (.ofNat 2), .int .i64 (.ofNat 3)] 3 false]⟩
theorem csF2x0_run : look [0, 1, 2] 3 (callOf (EcH csHkM2x0) (exec (EcH csHkM2x0) 3000) 15 csF2x0.al ⟨.leaf, 0⟩) = some (csF2x0.v.ren (rn [0, 1, 2] 3), csF2x0.bs.map (Blk.ren (rn [0, 1, 2] 3))) := by kernel_rfl
theorem csF2x0_ok [Sy] (hg : GlobOK Tryz.prog Sy.tab globs) : MemoOK Tryz.prog 15 csF2x0 :=
  @memoOK_of _ Tryz.prog (EcH csHkM2x0) (envCH hg _) (@idleCH _ _) (hooksCH (csHkM2x0_ok hg)) nameOK 15 3000 3 [0, 1, 2] csF2x0 csF2x0_run rfl rfl (by decide)
def csPl2x0 : Memo := ⟨[.str [61, 48, 43, 65, 49, 43, 65, 50]], .agg [.int .i64 (.ofNat 4), .int .i64 (.ofNat 1), .str []], []⟩
theorem csPl2x0_run : look [] 2 (callOf (EcH hk0) (exec (EcH hk0) 3000) 11 csPl2x0.al ⟨.leaf, 0⟩) = some (csPl2x0.v.ren (rn [] 2), csPl2x0.bs.map (Blk.ren (rn [] 2))) := by kernel_rfl
theorem csPl2x0_ok [Sy] (hg : GlobOK Tryz.prog Sy.tab globs) : MemoOK Tryz.prog 11 csPl2x0 :=
  @memoOK_of _ Tryz.prog (EcH hk0) (envCH hg _) (@idleCH _ _) (hooksCH hk0_ok) nameOK 11 3000 2 [] csPl2x0 csPl2x0_run rfl rfl (by decide)
def csP2x1 : Memo := ⟨[.str [83, 85, 77, 40, 65, 49, 58, 65, 50, 41]], .tup [.slo 0 0 2 2 14, .int .i64 (.ofNat 0)], [.cells [.int .i64 (.ofNat 6), .int .i64 (.ofNat 0), .str [], .str [], .int .i64 (.ofNat 0), .int .i64 (.ofNat 0), .bool false, .bool false, .str [], .int .i64 (.ofNat 0), .int .i64 (.ofNat 1), .bool false, .bool false, .nils, .int .i64 (.ofNat 7), .int .i64 (.ofNat 0), .str [83, 85, 77], .str [], .int .i64 (.ofNat 0), .int .i64 (.ofNat 0), .bool false, .bool false, .str [], .int .i64 (.ofNat 0), .int .i64 (.ofNat 0), .bool false, .bool false, .slo 1 0 1 1 1] 89 false, .cells [.int .i64 (.ofNat 0)] 3 false]⟩
theorem csP2x1_run : look [116, 109] 126 (callOf (EcH hk0) (exec (EcH hk0) 3000) 31 csP2x1.al ⟨.leaf, 0⟩) = some (csP2x1.v.ren (rn [116, 109] 126), csP2x1.bs.map (Blk.ren (rn [116, 109] 126))) := by kernel_rfl
theorem csP2x1_ok [Sy] (hg : GlobOK Tryz.prog Sy.tab globs) : MemoOK Tryz.prog 31 csP2x1 :=
  @memoOK_of _ Tryz.prog (EcH hk0) (envCH hg _) (@idleCH _ _) (hooksCH hk0_ok) nameOK 31 3000 126 [116, 109] csP2x1 csP2x1_run rfl rfl (by decide)
def csHkP2x1 : List (Nat × Hook) := (31, memoH [csP2x1]) :: hk0
theorem csHkP2x1_ok [Sy] (hg : GlobOK Tryz.prog Sy.tab globs) : ∀ p ∈ csHkP2x1, HookOK p.1 p.2 := hk1_ok (csP2x1_ok hg) hk0_ok
def csM2x1 : Memo := ⟨[.str [61, 83, 85, 77, 40, 65, 49, 58, 65, 50, 41]], .bool true, []⟩
theorem csM2x1_run : look [] 33 (callOf (EcH csHkP2x1) (exec (EcH csHkP2x1) 3000) 30 csM2x1.al ⟨.leaf, 0⟩) = some (csM2x1.v.ren (rn [] 33), csM2x1.bs.map (Blk.ren (rn [] 33))) := by kernel_rfl
theorem csM2x1_ok [Sy] (hg : GlobOK Tryz.prog Sy.tab globs) : MemoOK Tryz.prog 30 csM2x1 :=
  @memoOK_of _ Tryz.prog (EcH csHkP2x1) (envCH hg _) (@idleCH _ _) (hooksCH (csHkP2x1_ok hg)) nameOK 30 3000 33 [] csM2x1 csM2x1_run rfl rfl (by decide)
def csHkM2x1 : List (Nat × Hook) := (30, memoH [csM2x1]) :: csHkP2x1
theorem csHkM2x1_ok [Sy] (hg : GlobOK Tryz.prog Sy.tab globs) : ∀ p ∈ csHkM2x1, HookOK p.1 p.2 := hk1_ok (csM2x1_ok hg) (csHkP2x1_ok hg)
def csF2x1 : Memo := ⟨[.str [61, 83, 85, 77, 40, 65, 49, 58, 65, 50, 41]], .tup [.slo 0 0 2 2 14, .bool true], [.cells [.int .i64 (.ofNat 6), .int .i64 (.ofNat 0), .str [], .str [], .int .i64 (.ofNat 0), .int .i64 (.ofNat 0), .bool false, .bool false, .str [], .int .i64 (.ofNat 0), .int .i64 (.ofNat 1), .bool false, .bool false, .nils, .int .i64 (.ofNat 7), .int .i64 (.ofNat 0), .str [83, 85, 77], .str [], .int .i64 (.ofNat 0), .int .i64 (.ofNat 0), .bool false, .bool false, .str [], .int .i64 (.ofNat 0), .int .i64 (.ofNat 0), .bool false, .bool false, .slo 1 0 1 1 1] 89 false, .cells [.int .i64 (.ofNat 0)] 3 false]⟩
theorem csF2x1_run : look [0, 1] 2 (callOf (EcH csHkM2x1) (exec (EcH csHkM2x1) 3000) 15 csF2x1.al ⟨.leaf, 0⟩) = some (csF2x1.v.ren (rn [0, 1] 2), csF2x1.bs.map (Blk.ren (rn [0, 1] 2))) := by kernel_rfl
theorem csF2x1_ok [Sy] (hg : GlobOK Tryz.prog Sy.tab globs) : MemoOK Tryz.prog 15 csF2x1 :=
  @memoOK_of _ Tryz.prog (EcH csHkM2x1) (envCH hg _) (@idleCH _ _) (hooksCH (csHkM2x1_ok hg)) nameOK 15 3000 2 [0, 1] csF2x1 csF2x1_run rfl rfl (by decide)
def csPl2x1 : Memo := ⟨[.str [61, 83, 85, 77, 40, 65, 49, 58, 65, 50, 41]], .agg [.int .i64 (.ofNat 4), .int .i64 (.ofNat 1), .str []], []⟩
theorem csPl2x1_run : look [] 2 (callOf (EcH hk0) (exec (EcH hk0) 3000) 11 csPl2x1.al ⟨.leaf, 0⟩) = some (csPl2x1.v.ren (rn [] 2), csPl2x1.bs.map (Blk.ren (rn [] 2))) := by kernel_rfl
theorem csPl2x1_ok [Sy] (hg : GlobOK Tryz.prog Sy.tab globs) : MemoOK Tryz.prog 11 csPl2x1 :=
  @memoOK_of _ Tryz.prog (EcH hk0) (envCH hg _) (@idleCH _ _) (hooksCH hk0_ok) nameOK 11 3000 2 [] csPl2x1 csPl2x1_run rfl rfl (by decide)
def csP2x2 : Memo := ⟨[.str [83, 85, 77, 40, 65, 33, 65, 36, 49, 58, 36, 65, 50, 41]], .tup [.slo 0 0 2 2 14, .int .i64 (.ofNat 0)], [.cells [.int .i64 (.ofNat 6), .int .i64 (.ofNat 0), .str [], .str [65], .int .i64 (.ofNat 0), .int .i64 (.ofNat 0), .bool false, .bool true, .str [], .int .i64 (.ofNat 0), .int .i64 (.ofNat 1), .bool true, .bool false, .nils, .int .i64 (.ofNat 7), .int .i64 (.ofNat 0), .str [83, 85, 77], .str [], .int .i64 (.ofNat 0), .int .i64 (.ofNat 0), .bool false, .bool false, .str [], .int .i64 (.ofNat 0), .int .i64 (.ofNat 0), .bool false, .bool false, .slo 1 0 1 1 1] 89 false, .cells [.int .i64 (.ofNat 0)] 3 false]⟩
theorem csP2x2_run : look [116, 109] 126 (callOf (EcH hk0) (exec (EcH hk0) 3000) 31 csP2x2.al ⟨.leaf, 0⟩) = some (csP2x2.v.ren (rn [116, 109] 126), csP2x2.bs.map (Blk.ren (rn [116, 109] 126))) := by kernel_rfl
theorem csP2x2_ok [Sy] (hg : GlobOK Tryz.prog Sy.tab globs) : MemoOK Tryz.prog 31 csP2x2 :=
  @memoOK_of _ Tryz.prog (EcH hk0) (envCH hg _) (@idleCH _ _) (hooksCH hk0_ok) nameOK 31 3000 126 [116, 109] csP2x2 csP2x2_run rfl rfl (by decide)
def csHkP2x2 : List (Nat × Hook) := (31, memoH [csP2x2]) :: hk0
theorem csHkP2x2_ok [Sy] (hg : GlobOK Tryz.prog Sy.tab globs) : ∀ p ∈ csHkP2x2, HookOK p.1 p.2 := hk1_ok (csP2x2_ok hg) hk0_ok
def csM2x2 : Memo := ⟨[.str [61, 83, 85, 77, 40, 65, 33, 65, 36, 49, 58, 36, 65, 50, 41]], .bool true, []⟩
theorem csM2x2_run : look [] 33 (callOf (EcH csHkP2x2) (exec (EcH csHkP2x2) 3000) 30 csM2x2.al ⟨.leaf, 0⟩) = some (csM2x2.v.ren (rn [] 33), csM2x2.bs.map (Blk.ren (rn [] 33))) := by kernel_rfl
theorem csM2x2_ok [Sy] (hg : GlobOK Tryz.prog Sy.tab globs) : MemoOK Tryz.prog 30 csM2x2 :=
  @memoOK_of _ Tryz.prog (EcH csHkP2x2) (envCH hg _) (@idleCH _ _) (hooksCH (csHkP2x2_ok hg)) nameOK 30 3000 33 [] csM2x2 csM2x2_run rfl rfl (by decide)
def csHkM2x2 : List (Nat × Hook) := (30, memoH [csM2x2]) :: csHkP2x2
theorem csHkM2x2_ok [Sy] (hg : GlobOK Tryz.prog Sy.tab globs) : ∀ p ∈ csHkM2x2, HookOK p.1 p.2 := hk1_ok (csM2x2_ok hg) (csHkP2x2_ok hg)
def csF2x2 : Memo := ⟨[.str [61, 83, 85, 77, 40, 65, 33, 65, 36, 49, 58, 36, 65, 50, 41]], .tup [.slo 0 0 2 2 14, .bool true], [.cells [.int .i64 (.ofNat 6), .int .i64 (.ofNat 0), .str [], .str [65], .int .i64 (.ofNat 0), .int .i64 (.ofNat 0), .bool false, .bool true, .str [], .int .i64 (.ofNat 0), .int .i64 (.ofNat 1), .bool true, .bool false, .nils, .int .i64 (.ofNat 7), .int .i64 (.ofNat 0), .str [83, 85, 77], .str [], .int .i64 (.ofNat 0), .int .i64 (.ofNat 0), .bool false, .bool false, .str [], .int .i64 (.ofNat 0), .int .i64 (.ofNat 0), .bool false, .bool false, .slo 1 0 1 1 1] 89 false, .cells [.int .i64 (.ofNat 0)] 3 false]⟩
theorem csF2x2_run : look [0, 1] 2 (callOf (EcH csHkM2x2) (exec (EcH csHkM2x2) 3000) 15 csF2x2.al ⟨.leaf, 0⟩) = some (csF2x2.v.ren (rn [0, 1] 2), csF2x2.bs.map (Blk.ren (rn [0, 1] 2))) := by kernel_rfl
theorem csF2x2_ok [Sy] (hg : GlobOK Tryz.prog Sy.tab globs) : MemoOK Tryz.prog 15 csF2x2 :=
  @memoOK_of _ Tryz.prog (EcH csHkM2x2) (envCH hg _) (@idleCH _ _) (hooksCH (csHkM2x2_ok hg)) nameOK 15 3000 2 [0, 1] csF2x2 csF2x2_run rfl rfl (by decide)
def csPl2x2 : Memo := ⟨[.str [61, 83, 85, 77, 40, 65, 33, 65, 36, 49, 58, 36, 65, 50, 41]], .agg [.int .i64 (.ofNat 4), .int .i64 (.ofNat 1), .str []], []⟩
theorem csPl2x2_run : look [] 2 (callOf (EcH hk0) (exec (EcH hk0) 3000) 11 csPl2x2.al ⟨.leaf, 0⟩) = some (csPl2x2.v.ren (rn [] 2), csPl2x2.bs.map (Blk.ren (rn [] 2))) := by kernel_rfl
theorem csPl2x2_ok [Sy] (hg : GlobOK Tryz.prog Sy.tab globs) : MemoOK Tryz.prog 11 csPl2x2 :=
  @memoOK_of _ Tryz.prog (EcH hk0) (envCH hg _) (@idleCH _ _) (hooksCH hk0_ok) nameOK 11 3000 2 [] csPl2x2 csPl2x2_run rfl rfl (by decide)
def csF2 : List Memo := [csF2x0, csF2x1, csF2x2]
theorem csF2_ok [Sy] (hg : GlobOK Tryz.prog Sy.tab globs) : ∀ m ∈ csF2, MemoOK Tryz.prog 15 m := by
  intro m hm
  simp only [csF2, List.mem_cons, List.not_mem_nil, or_false] at hm
  rcases hm with rfl | rfl | rfl
  · exact csF2x0_ok hg
  · exact csF2x1_ok hg
  · exact csF2x2_ok hg
def csM2 : List Memo := [csM2x0, csM2x1, csM2x2]
theorem csM2_ok [Sy] (hg : GlobOK Tryz.prog Sy.tab globs) : ∀ m ∈ csM2, MemoOK Tryz.prog 30 m := by
  intro m hm
  simp only [csM2, List.mem_cons, List.not_mem_nil, or_false] at hm
  rcases hm with rfl | rfl | rfl
  · exact csM2x0_ok hg
  · exact csM2x1_ok hg
  · exact csM2x2_ok hg
def csPl2 : List Memo := [csPl2x0, csPl2x1, csPl2x2]
theorem csPl2_ok [Sy] (hg : GlobOK Tryz.prog Sy.tab globs) : ∀ m ∈ csPl2, MemoOK Tryz.prog 11 m := by
  intro m hm
  simp only [csPl2, List.mem_cons, List.not_mem_nil, or_false] at hm
  rcases hm with rfl | rfl | rfl
  · exact csPl2x0_ok hg
  · exact csPl2x1_ok hg
  · exact csPl2x2_ok hg
def csB2 : Bs := [(-32768, 32767), (-32768, 32767), (45, 57), (45, 57), (0, 85)]
def csFb2 : List Nat := [730750818667445301095520394630407028282729955328, 803469022131687390226978065161884721572575283132274799804416]
def csHk2 : List (Nat × Hook) := csHk csB2 2 csF2 csM2 csPl2
def csE2 : Env := EsH (csAr 2) csFb2 csB2 csHk2
theorem csRun2x0 (c : Nat) : isV (callOf csE2 (exec csE2 3000) 3 [.asl 0 2 c, .symI .u8 883423532394816447946555947086674791353009117282115947042264098019475456] ⟨.leaf, 0⟩) = some (.bool true) := by kernel_rfl
theorem csRun2x1 (c : Nat) : isV (callOf csE2 (exec csE2 3000) 3 [.asl 0 2 c, .symI .u8 883423532394816447946555947086674791353009117282115947042264098019475457] ⟨.leaf, 0⟩) = some (.bool true) := by kernel_rfl
theorem csRun2x2 (c : Nat) : isV (callOf csE2 (exec csE2 3000) 3 [.asl 0 2 c, .symI .u8 883423532394816447946555947086674791353009117282115947042264098019475458] ⟨.leaf, 0⟩) = some (.bool true) := by kernel_rfl
theorem csCase2 {tab : List (Nat × Obj)} (ht : ∀ w : World, (∀ p ∈ tab, w.heap[p.1]? = some p.2) → Tab w) (hg : GlobOK Tryz.prog tab globs) (W : World) (hW : ∀ p ∈ tab, p.1 < W.heap.size ∧ W.heap[p.1]? = some p.2)
    (A : Option Addr) (l : List Int) (c : Nat) (n : Int) (hl : At1 (Value.int .i16) W A l) (hlen : l.length = 2) (hr : ∀ x ∈ l, -32768 ≤ x ∧ x ≤ 32767) (hn0 : 0 ≤ n) (hn1 : n ≤ 255) :
    Calls Tryz.prog 3 #[.slice A l.length c, .int .u8 n] W fun e W' => e = .returned (.bool true) ∧ Below W.heap.size W W' := by
  rcases (by omega : n % 3 = (0 : Nat) ∨ n % 3 = (1 : Nat) ∨ n % 3 = (2 : Nat)) with h | h | h
  · exact calcSums_of (k := 2) (h := 0) (by decide) (by decide) (by decide) (by kernel_rfl : csB2 = csBk 2) (by kernel_rfl : csFb2 = csFbk 2) (by kernel_rfl : 883423532394816447946555947086674791353009117282115947042264098019475456 = encL (csHow 2 0)) csRun2x0 csF2_ok csM2_ok csPl2_ok ht hg W hW A l c n hl hlen hr hn0 hn1 h
  · exact calcSums_of (k := 2) (h := 1) (by decide) (by decide) (by decide) (by kernel_rfl : csB2 = csBk 2) (by kernel_rfl : csFb2 = csFbk 2) (by kernel_rfl : 883423532394816447946555947086674791353009117282115947042264098019475457 = encL (csHow 2 1)) csRun2x1 csF2_ok csM2_ok csPl2_ok ht hg W hW A l c n hl hlen hr hn0 hn1 h
  · exact calcSums_of (k := 2) (h := 2) (by decide) (by decide) (by decide) (by kernel_rfl : csB2 = csBk 2) (by kernel_rfl : csFb2 = csFbk 2) (by kernel_rfl : 883423532394816447946555947086674791353009117282115947042264098019475458 = encL (csHow 2 2)) csRun2x2 csF2_ok csM2_ok csPl2_ok ht hg W hW A l c n hl hlen hr hn0 hn1 h
end
end VM
end Go.Proofs.YtehbfpcfbpbllaaGreatDoor
