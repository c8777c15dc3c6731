/- CalcSums at 1 numbers: the kernel runs it. Written by csgen.py. -/
import Derived.Test.YtehbfpcfbpbllaaGreatDoorMg5
namespace Go.Proofs.YtehbfpcfbpbllaaGreatDoor
namespace VM
open Go Go.RowKit
set_option linter.unusedVariables false
set_option linter.unusedSectionVars false
set_option maxRecDepth 20000
noncomputable section
def csL1x0 : Memo := ⟨[.str [48, 43, 65, 49]], .tup [.slo 0 0 4 4 9, .int .i64 (.ofNat 0)], [.cells [.int .i64 (.ofNat 1), .str [], .int .i64 (.ofNat 0), .str [], .int .i64 (.ofNat 0), .int .i64 (.ofNat 0), .bool false, .bool false, .int .i64 (.ofNat 0), .int .i64 (.ofNat 5), .str [43], .int .i64 (.ofNat 0), .str [], .int .i64 (.ofNat 0), .int .i64 (.ofNat 0), .bool false, .bool false, .int .i64 (.ofNat 1), .int .i64 (.ofNat 4), .str [], .int .i64 (.ofNat 0), .str [], .int .i64 (.ofNat 0), .int .i64 (.ofNat 0), .bool false, .bool false, .int .i64 (.ofNat 2), .int .i64 (.ofNat 0), .str [], .int .i64 (.ofNat 0), .str [], .int .i64 (.ofNat 0), .int .i64 (.ofNat 0), .bool false, .bool false, .int .i64 (.ofNat 4)] 108 false]⟩
theorem csL1x0_run : look [23] 24 (callOf (EcH hk0) (exec (EcH hk0) 3000) 42 csL1x0.al ⟨.leaf, 0⟩) = some (csL1x0.v.ren (rn [23] 24), csL1x0.bs.map (Blk.ren (rn [23] 24))) := by kernel_rfl
theorem csL1x0_ok [Sy] (hg : GlobOK Tryz.prog Sy.tab globs) : MemoOK Tryz.prog 42 csL1x0 :=
  @memoOK_of _ Tryz.prog (EcH hk0) (envCH hg _) (@idleCH _ _) (hooksCH hk0_ok) nameOK 42 3000 24 [23] csL1x0 csL1x0_run rfl rfl (by decide)
def csHkL1x0 : List (Nat × Hook) := (42, memoH [csL1x0]) :: hk0
theorem csHkL1x0_ok [Sy] (hg : GlobOK Tryz.prog Sy.tab globs) : ∀ p ∈ csHkL1x0, HookOK p.1 p.2 := hk1_ok (csL1x0_ok hg) hk0_ok
def csP1x0 : Memo := ⟨[.str [48, 43, 65, 49]], .tup [.slo 0 0 3 3 14, .int .i64 (.ofNat 0)], [.cells [.int .i64 (.ofNat 1), .int .i64 (.ofNat 0), .str [], .str [], .int .i64 (.ofNat 0), .int .i64 (.ofNat 0), .bool false, .bool false, .str [], .int .i64 (.ofNat 0), .int .i64 (.ofNat 0), .bool false, .bool false, .nils, .int .i64 (.ofNat 5), .int .i64 (.ofNat 0), .str [], .str [], .int .i64 (.ofNat 0), .int .i64 (.ofNat 0), .bool false, .bool false, .str [], .int .i64 (.ofNat 0), .int .i64 (.ofNat 0), .bool false, .bool false, .nils, .int .i64 (.ofNat 16), .int .i64 (.ofNat 0), .str [], .str [], .int .i64 (.ofNat 0), .int .i64 (.ofNat 0), .bool false, .bool false, .str [], .int .i64 (.ofNat 0), .int .i64 (.ofNat 0), .bool false, .bool false, .sl 1 0 2 2] 89 false, .cells [.int .i64 (.ofNat 0), .int .i64 (.ofNat 1)] 3 false]⟩
theorem csP1x0_run : look [45, 42] 53 (callOf (EcH csHkL1x0) (exec (EcH csHkL1x0) 3000) 31 csP1x0.al ⟨.leaf, 0⟩) = some (csP1x0.v.ren (rn [45, 42] 53), csP1x0.bs.map (Blk.ren (rn [45, 42] 53))) := by kernel_rfl
theorem csP1x0_ok [Sy] (hg : GlobOK Tryz.prog Sy.tab globs) : MemoOK Tryz.prog 31 csP1x0 :=
  @memoOK_of _ Tryz.prog (EcH csHkL1x0) (envCH hg _) (@idleCH _ _) (hooksCH (csHkL1x0_ok hg)) nameOK 31 3000 53 [45, 42] csP1x0 csP1x0_run rfl rfl (by decide)
def csHkP1x0 : List (Nat × Hook) := (31, memoH [csP1x0]) :: hk0
theorem csHkP1x0_ok [Sy] (hg : GlobOK Tryz.prog Sy.tab globs) : ∀ p ∈ csHkP1x0, HookOK p.1 p.2 := hk1_ok (csP1x0_ok hg) hk0_ok
def csM1x0 : Memo := ⟨[.str [61, 48, 43, 65, 49]], .bool true, []⟩
theorem csM1x0_run : look [] 30 (callOf (EcH csHkP1x0) (exec (EcH csHkP1x0) 3000) 30 csM1x0.al ⟨.leaf, 0⟩) = some (csM1x0.v.ren (rn [] 30), csM1x0.bs.map (Blk.ren (rn [] 30))) := by kernel_rfl
theorem csM1x0_ok [Sy] (hg : GlobOK Tryz.prog Sy.tab globs) : MemoOK Tryz.prog 30 csM1x0 :=
  @memoOK_of _ Tryz.prog (EcH csHkP1x0) (envCH hg _) (@idleCH _ _) (hooksCH (csHkP1x0_ok hg)) nameOK 30 3000 30 [] csM1x0 csM1x0_run rfl rfl (by decide)
def csHkM1x0 : List (Nat × Hook) := (30, memoH [csM1x0]) :: csHkP1x0
theorem csHkM1x0_ok [Sy] (hg : GlobOK Tryz.prog Sy.tab globs) : ∀ p ∈ csHkM1x0, HookOK p.1 p.2 := hk1_ok (csM1x0_ok hg) (csHkP1x0_ok hg)
def csF1x0 : Memo := ⟨[.str [61, 48, 43, 65, 49]], .tup [.slo 0 0 3 3 14, .bool true], [.cells [.int .i64 (.ofNat 1), .int .i64 (.ofNat 0), .str [], .str [], .int .i64 (.ofNat 0), .int .i64 (.ofNat 0), .bool false, .bool false, .str [], .int .i64 (.ofNat 0), .int .i64 (.ofNat 0), .bool false, .bool false, .nils, .int .i64 (.ofNat 5), .int .i64 (.ofNat 0), .str [], .str [], .int .i64 (.ofNat 0), .int .i64 (.ofNat 0), .bool false, .bool false, .str [], .int .i64 (.ofNat 0), .int .i64 (.ofNat 0), .bool false, .bool false, .nils, .int .i64 (.ofNat 16), .int .i64 (.ofNat 0), .str [], .str [], .int .i64 (.ofNat 0), .int .i64 (.ofNat 0), .bool false, .bool false, .str [], .int .i64 (.ofNat 0), .int .i64 (.ofNat 0), .bool false, .bool false, .sl 1 0 2 2] 89 false, .cells [.int .i64 (.ofNat 0), .int .i64 (.ofNat 1)] 3 false]⟩
theorem csF1x0_run : look [0, 1] 2 (callOf (EcH csHkM1x0) (exec (EcH csHkM1x0) 3000) 15 csF1x0.al ⟨.leaf, 0⟩) = some (csF1x0.v.ren (rn [0, 1] 2), csF1x0.bs.map (Blk.ren (rn [0, 1] 2))) := by kernel_rfl
theorem csF1x0_ok [Sy] (hg : GlobOK Tryz.prog Sy.tab globs) : MemoOK Tryz.prog 15 csF1x0 :=
  @memoOK_of _ Tryz.prog (EcH csHkM1x0) (envCH hg _) (@idleCH _ _) (hooksCH (csHkM1x0_ok hg)) nameOK 15 3000 2 [0, 1] csF1x0 csF1x0_run rfl rfl (by decide)
def csPl1x0 : Memo := ⟨[.str [61, 48, 43, 65, 49]], .agg [.int .i64 (.ofNat 4), .int .i64 (.ofNat 1), .str []], []⟩
theorem csPl1x0_run : look [] 2 (callOf (EcH hk0) (exec (EcH hk0) 3000) 11 csPl1x0.al ⟨.leaf, 0⟩) = some (csPl1x0.v.ren (rn [] 2), csPl1x0.bs.map (Blk.ren (rn [] 2))) := by kernel_rfl
theorem csPl1x0_ok [Sy] (hg : GlobOK Tryz.prog Sy.tab globs) : MemoOK Tryz.prog 11 csPl1x0 :=
  @memoOK_of _ Tryz.prog (EcH hk0) (envCH hg _) (@idleCH _ _) (hooksCH hk0_ok) nameOK 11 3000 2 [] csPl1x0 csPl1x0_run rfl rfl (by decide)
def csP1x1 : Memo := ⟨[.str [83, 85, 77, 40, 65, 49, 58, 65, 49, 41]], .tup [.slo 0 0 2 2 14, .int .i64 (.ofNat 0)], [.cells [.int .i64 (.ofNat 6), .int .i64 (.ofNat 0), .str [], .str [], .int .i64 (.ofNat 0), .int .i64 (.ofNat 0), .bool false, .bool false, .str [], .int .i64 (.ofNat 0), .int .i64 (.ofNat 0), .bool false, .bool false, .nils, .int .i64 (.ofNat 7), .int .i64 (.ofNat 0), .str [83, 85, 77], .str [], .int .i64 (.ofNat 0), .int .i64 (.ofNat 0), .bool false, .bool false, .str [], .int .i64 (.ofNat 0), .int .i64 (.ofNat 0), .bool false, .bool false, .slo 1 0 1 1 1] 89 false, .cells [.int .i64 (.ofNat 0)] 3 false]⟩
theorem csP1x1_run : look [116, 109] 126 (callOf (EcH hk0) (exec (EcH hk0) 3000) 31 csP1x1.al ⟨.leaf, 0⟩) = some (csP1x1.v.ren (rn [116, 109] 126), csP1x1.bs.map (Blk.ren (rn [116, 109] 126))) := by kernel_rfl
theorem csP1x1_ok [Sy] (hg : GlobOK Tryz.prog Sy.tab globs) : MemoOK Tryz.prog 31 csP1x1 :=
  @memoOK_of _ Tryz.prog (EcH hk0) (envCH hg _) (@idleCH _ _) (hooksCH hk0_ok) nameOK 31 3000 126 [116, 109] csP1x1 csP1x1_run rfl rfl (by decide)
def csHkP1x1 : List (Nat × Hook) := (31, memoH [csP1x1]) :: hk0
theorem csHkP1x1_ok [Sy] (hg : GlobOK Tryz.prog Sy.tab globs) : ∀ p ∈ csHkP1x1, HookOK p.1 p.2 := hk1_ok (csP1x1_ok hg) hk0_ok
def csM1x1 : Memo := ⟨[.str [61, 83, 85, 77, 40, 65, 49, 58, 65, 49, 41]], .bool true, []⟩
theorem csM1x1_run : look [] 33 (callOf (EcH csHkP1x1) (exec (EcH csHkP1x1) 3000) 30 csM1x1.al ⟨.leaf, 0⟩) = some (csM1x1.v.ren (rn [] 33), csM1x1.bs.map (Blk.ren (rn [] 33))) := by kernel_rfl
theorem csM1x1_ok [Sy] (hg : GlobOK Tryz.prog Sy.tab globs) : MemoOK Tryz.prog 30 csM1x1 :=
  @memoOK_of _ Tryz.prog (EcH csHkP1x1) (envCH hg _) (@idleCH _ _) (hooksCH (csHkP1x1_ok hg)) nameOK 30 3000 33 [] csM1x1 csM1x1_run rfl rfl (by decide)
def csHkM1x1 : List (Nat × Hook) := (30, memoH [csM1x1]) :: csHkP1x1
theorem csHkM1x1_ok [Sy] (hg : GlobOK Tryz.prog Sy.tab globs) : ∀ p ∈ csHkM1x1, HookOK p.1 p.2 := hk1_ok (csM1x1_ok hg) (csHkP1x1_ok hg)
def csF1x1 : Memo := ⟨[.str [61, 83, 85, 77, 40, 65, 49, 58, 65, 49, 41]], .tup [.slo 0 0 2 2 14, .bool true], [.cells [.int .i64 (.ofNat 6), .int .i64 (.ofNat 0), .str [], .str [], .int .i64 (.ofNat 0), .int .i64 (.ofNat 0), .bool false, .bool false, .str [], .int .i64 (.ofNat 0), .int .i64 (.ofNat 0), .bool false, .bool false, .nils, .int .i64 (.ofNat 7), .int .i64 (.ofNat 0), .str [83, 85, 77], .str [], .int .i64 (.ofNat 0), .int .i64 (.ofNat 0), .bool false, .bool false, .str [], .int .i64 (.ofNat 0), .int .i64 (.ofNat 0), .bool false, .bool false, .slo 1 0 1 1 1] 89 false, .cells [.int .i64 (.ofNat 0)] 3 false]⟩
theorem csF1x1_run : look [0, 1] 2 (callOf (EcH csHkM1x1) (exec (EcH csHkM1x1) 3000) 15 csF1x1.al ⟨.leaf, 0⟩) = some (csF1x1.v.ren (rn [0, 1] 2), csF1x1.bs.map (Blk.ren (rn [0, 1] 2))) := by kernel_rfl
theorem csF1x1_ok [Sy] (hg : GlobOK Tryz.prog Sy.tab globs) : MemoOK Tryz.prog 15 csF1x1 :=
  @memoOK_of _ Tryz.prog (EcH csHkM1x1) (envCH hg _) (@idleCH _ _) (hooksCH (csHkM1x1_ok hg)) nameOK 15 3000 2 [0, 1] csF1x1 csF1x1_run rfl rfl (by decide)
def csPl1x1 : Memo := ⟨[.str [61, 83, 85, 77, 40, 65, 49, 58, 65, 49, 41]], .agg [.int .i64 (.ofNat 4), .int .i64 (.ofNat 1), .str []], []⟩
theorem csPl1x1_run : look [] 2 (callOf (EcH hk0) (exec (EcH hk0) 3000) 11 csPl1x1.al ⟨.leaf, 0⟩) = some (csPl1x1.v.ren (rn [] 2), csPl1x1.bs.map (Blk.ren (rn [] 2))) := by kernel_rfl
theorem csPl1x1_ok [Sy] (hg : GlobOK Tryz.prog Sy.tab globs) : MemoOK Tryz.prog 11 csPl1x1 :=
  @memoOK_of _ Tryz.prog (EcH hk0) (envCH hg _) (@idleCH _ _) (hooksCH hk0_ok) nameOK 11 3000 2 [] csPl1x1 csPl1x1_run rfl rfl (by decide)
def csP1x2 : Memo := ⟨[.str [83, 85, 77, 40, 65, 33, 65, 36, 49, 58, 36, 65, 49, 41]], .tup [.slo 0 0 2 2 14, .int .i64 (.ofNat 0)], [.cells [.int .i64 (.ofNat 6), .int .i64 (.ofNat 0), .str [], .str [65], .int .i64 (.ofNat 0), .int .i64 (.ofNat 0), .bool false, .bool true, .str [], .int .i64 (.ofNat 0), .int .i64 (.ofNat 0), .bool true, .bool false, .nils, .int .i64 (.ofNat 7), .int .i64 (.ofNat 0), .str [83, 85, 77], .str [], .int .i64 (.ofNat 0), .int .i64 (.ofNat 0), .bool false, .bool false, .str [], .int .i64 (.ofNat 0), .int .i64 (.ofNat 0), .bool false, .bool false, .slo 1 0 1 1 1] 89 false, .cells [.int .i64 (.ofNat 0)] 3 false]⟩
theorem csP1x2_run : look [116, 109] 126 (callOf (EcH hk0) (exec (EcH hk0) 3000) 31 csP1x2.al ⟨.leaf, 0⟩) = some (csP1x2.v.ren (rn [116, 109] 126), csP1x2.bs.map (Blk.ren (rn [116, 109] 126))) := by kernel_rfl
theorem csP1x2_ok [Sy] (hg : GlobOK Tryz.prog Sy.tab globs) : MemoOK Tryz.prog 31 csP1x2 :=
  @memoOK_of _ Tryz.prog (EcH hk0) (envCH hg _) (@idleCH _ _) (hooksCH hk0_ok) nameOK 31 3000 126 [116, 109] csP1x2 csP1x2_run rfl rfl (by decide)
def csHkP1x2 : List (Nat × Hook) := (31, memoH [csP1x2]) :: hk0
theorem csHkP1x2_ok [Sy] (hg : GlobOK Tryz.prog Sy.tab globs) : ∀ p ∈ csHkP1x2, HookOK p.1 p.2 := hk1_ok (csP1x2_ok hg) hk0_ok
def csM1x2 : Memo := ⟨[.str [61, 83, 85, 77, 40, 65, 33, 65, 36, 49, 58, 36, 65, 49, 41]], .bool true, []⟩
theorem csM1x2_run : look [] 33 (callOf (EcH csHkP1x2) (exec (EcH csHkP1x2) 3000) 30 csM1x2.al ⟨.leaf, 0⟩) = some (csM1x2.v.ren (rn [] 33), csM1x2.bs.map (Blk.ren (rn [] 33))) := by kernel_rfl
theorem csM1x2_ok [Sy] (hg : GlobOK Tryz.prog Sy.tab globs) : MemoOK Tryz.prog 30 csM1x2 :=
  @memoOK_of _ Tryz.prog (EcH csHkP1x2) (envCH hg _) (@idleCH _ _) (hooksCH (csHkP1x2_ok hg)) nameOK 30 3000 33 [] csM1x2 csM1x2_run rfl rfl (by decide)
def csHkM1x2 : List (Nat × Hook) := (30, memoH [csM1x2]) :: csHkP1x2
theorem csHkM1x2_ok [Sy] (hg : GlobOK Tryz.prog Sy.tab globs) : ∀ p ∈ csHkM1x2, HookOK p.1 p.2 := hk1_ok (csM1x2_ok hg) (csHkP1x2_ok hg)
def csF1x2 : Memo := ⟨[.str [61, 83, 85, 77, 40, 65, 33, 65, 36, 49, 58, 36, 65, 49, 41]], .tup [.slo 0 0 2 2 14, .bool true], [.cells [.int .i64 (.ofNat 6), .int .i64 (.ofNat 0), .str [], .str [65], .int .i64 (.ofNat 0), .int .i64 (.ofNat 0), .bool false, .bool true, .str [], .int .i64 (.ofNat 0), .int .i64 (.ofNat 0), .bool true, .bool false, .nils, .int .i64 (.ofNat 7), .int .i64 (.ofNat 0), .str [83, 85, 77], .str [], .int .i64 (.ofNat 0), .int .i64 (.ofNat 0), .bool false, .bool false, .str [], .int .i64 (.ofNat 0), .int .i64 (.ofNat 0), .bool false, .bool false, .slo 1 0 1 1 1] 89 false, .cells [.int .i64 (.ofNat 0)] 3 false]⟩
theorem csF1x2_run : look [0, 1] 2 (callOf (EcH csHkM1x2) (exec (EcH csHkM1x2) 3000) 15 csF1x2.al ⟨.leaf, 0⟩) = some (csF1x2.v.ren (rn [0, 1] 2), csF1x2.bs.map (Blk.ren (rn [0, 1] 2))) := by kernel_rfl
theorem csF1x2_ok [Sy] (hg : GlobOK Tryz.prog Sy.tab globs) : MemoOK Tryz.prog 15 csF1x2 :=
  @memoOK_of _ Tryz.prog (EcH csHkM1x2) (envCH hg _) (@idleCH _ _) (hooksCH (csHkM1x2_ok hg)) nameOK 15 3000 2 [0, 1] csF1x2 csF1x2_run rfl rfl (by decide)
def csPl1x2 : Memo := ⟨[.str [61, 83, 85, 77, 40, 65, 33, 65, 36, 49, 58, 36, 65, 49, 41]], .agg [.int .i64 (.ofNat 4), .int .i64 (.ofNat 1), .str []], []⟩
theorem csPl1x2_run : look [] 2 (callOf (EcH hk0) (exec (EcH hk0) 3000) 11 csPl1x2.al ⟨.leaf, 0⟩) = some (csPl1x2.v.ren (rn [] 2), csPl1x2.bs.map (Blk.ren (rn [] 2))) := by kernel_rfl
theorem csPl1x2_ok [Sy] (hg : GlobOK Tryz.prog Sy.tab globs) : MemoOK Tryz.prog 11 csPl1x2 :=
  @memoOK_of _ Tryz.prog (EcH hk0) (envCH hg _) (@idleCH _ _) (hooksCH hk0_ok) nameOK 11 3000 2 [] csPl1x2 csPl1x2_run rfl rfl (by decide)
def csF1 : List Memo := [csF1x0, csF1x1, csF1x2]
theorem csF1_ok [Sy] (hg : GlobOK Tryz.prog Sy.tab globs) : ∀ m ∈ csF1, MemoOK Tryz.prog 15 m := by
  intro m hm
  simp only [csF1, List.mem_cons, List.not_mem_nil, or_false] at hm
  rcases hm with rfl | rfl | rfl
  · exact csF1x0_ok hg
  · exact csF1x1_ok hg
  · exact csF1x2_ok hg
def csM1 : List Memo := [csM1x0, csM1x1, csM1x2]
theorem csM1_ok [Sy] (hg : GlobOK Tryz.prog Sy.tab globs) : ∀ m ∈ csM1, MemoOK Tryz.prog 30 m := by
  intro m hm
  simp only [csM1, List.mem_cons, List.not_mem_nil, or_false] at hm
  rcases hm with rfl | rfl | rfl
  · exact csM1x0_ok hg
  · exact csM1x1_ok hg
  · exact csM1x2_ok hg
def csPl1 : List Memo := [csPl1x0, csPl1x1, csPl1x2]
theorem csPl1_ok [Sy] (hg : GlobOK Tryz.prog Sy.tab globs) : ∀ m ∈ csPl1, MemoOK Tryz.prog 11 m := by
  intro m hm
  simp only [csPl1, List.mem_cons, List.not_mem_nil, or_false] at hm
  rcases hm with rfl | rfl | rfl
  · exact csPl1x0_ok hg
  · exact csPl1x1_ok hg
  · exact csPl1x2_ok hg
def csB1 : Bs := [(-32768, 32767), (45, 57), (0, 85)]
def csFb1 : List Nat := [664613997894271325181326023658045440]
def csHk1 : List (Nat × Hook) := csHk csB1 1 csF1 csM1 csPl1
def csE1 : Env := EsH (csAr 1) csFb1 csB1 csHk1
theorem csRun1x0 (c : Nat) : isV (callOf csE1 (exec csE1 3000) 3 [.asl 0 1 c, .symI .u8 730750818670103757087090226376214642403290644480] ⟨.leaf, 0⟩) = some (.bool true) := by kernel_rfl
theorem csRun1x1 (c : Nat) : isV (callOf csE1 (exec csE1 3000) 3 [.asl 0 1 c, .symI .u8 730750818670103757087090226376214642403290644481] ⟨.leaf, 0⟩) = some (.bool true) := by kernel_rfl
theorem csRun1x2 (c : Nat) : isV (callOf csE1 (exec csE1 3000) 3 [.asl 0 1 c, .symI .u8 730750818670103757087090226376214642403290644482] ⟨.leaf, 0⟩) = some (.bool true) := by kernel_rfl
theorem csCase1 {tab : List (Nat × Obj)} (ht : ∀ w : World, (∀ p ∈ tab, w.heap[p.1]? = some p.2) → Tab w) (hg : GlobOK Tryz.prog tab globs) (W : World) (hW : ∀ p ∈ tab, p.1 < W.heap.size ∧ W.heap[p.1]? = some p.2)
    (A : Option Addr) (l : List Int) (c : Nat) (n : Int) (hl : At1 (Value.int .i16) W A l) (hlen : l.length = 1) (hr : ∀ x ∈ l, -32768 ≤ x ∧ x ≤ 32767) (hn0 : 0 ≤ n) (hn1 : n ≤ 255) :
    Calls Tryz.prog 3 #[.slice A l.length c, .int .u8 n] W fun e W' => e = .returned (.bool true) ∧ Below W.heap.size W W' := by
  rcases (by omega : n % 3 = (0 : Nat) ∨ n % 3 = (1 : Nat) ∨ n % 3 = (2 : Nat)) with h | h | h
  · exact calcSums_of (k := 1) (h := 0) (by decide) (by decide) (by decide) (by kernel_rfl : csB1 = csBk 1) (by kernel_rfl : csFb1 = csFbk 1) (by kernel_rfl : 730750818670103757087090226376214642403290644480 = encL (csHow 1 0)) csRun1x0 csF1_ok csM1_ok csPl1_ok ht hg W hW A l c n hl hlen hr hn0 hn1 h
  · exact calcSums_of (k := 1) (h := 1) (by decide) (by decide) (by decide) (by kernel_rfl : csB1 = csBk 1) (by kernel_rfl : csFb1 = csFbk 1) (by kernel_rfl : 730750818670103757087090226376214642403290644481 = encL (csHow 1 1)) csRun1x1 csF1_ok csM1_ok csPl1_ok ht hg W hW A l c n hl hlen hr hn0 hn1 h
  · exact calcSums_of (k := 1) (h := 2) (by decide) (by decide) (by decide) (by kernel_rfl : csB1 = csBk 1) (by kernel_rfl : csFb1 = csFbk 1) (by kernel_rfl : 730750818670103757087090226376214642403290644482 = encL (csHow 1 2)) csRun1x2 csF1_ok csM1_ok csPl1_ok ht hg W hW A l c n hl hlen hr hn0 hn1 h
end
end VM
end Go.Proofs.YtehbfpcfbpbllaaGreatDoor
