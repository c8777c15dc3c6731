/- What functions answer at the texts of cells by numbers: the kernel ran them. Written by dpmemo.py. · What functions answer at the texts of cells by numbers: the kernel ran them. Written by dpmemo.py. · law13.awake: the kernel runs it. · The machine of plain data without a bound on its steps: what some number of steps tells. No program in sight. · The machine of plain data, read as a condition: what a function's code asks for, label by label. No program in sight. · The conditions are enough: what a label asks for, given, the function answers. No program in sight. -/
import Derived.Test.YtlllhhjlfmhmlaaGreatDoorMg4
namespace Go.Proofs.YtlllhhjlfmhmlaaGreatDoor
namespace VM
open Go Go.RowKit
set_option linter.unusedVariables false
set_option linter.unusedSectionVars false
set_option maxRecDepth 20000
noncomputable section
def dpF0 : Memo := ⟨[.str []], .tup [.nils, .bool false], []⟩
theorem dpF0_run : look [] 0 (callOf (Ed) (exec (Ed) 3000) 29 dpF0.al ⟨.leaf, 0⟩) = some (dpF0.v.ren (rn [] 0), dpF0.bs.map (Blk.ren (rn [] 0))) := by kernel_rfl
theorem dpF0_ok [Sy] (hg : GlobOK Tryz.prog Sy.tab globs) : MemoOK Tryz.prog 29 dpF0 :=
  @memoOK_of _ Tryz.prog (Ed) (envD hg) (@idleD _) (@hooksD _) nameOK 29 3000 0 [] dpF0 dpF0_run rfl rfl (by decide)
def dpF1 : Memo := ⟨[.str [48]], .tup [.nils, .bool false], []⟩
theorem dpF1_run : look [] 0 (callOf (Ed) (exec (Ed) 3000) 29 dpF1.al ⟨.leaf, 0⟩) = some (dpF1.v.ren (rn [] 0), dpF1.bs.map (Blk.ren (rn [] 0))) := by kernel_rfl
theorem dpF1_ok [Sy] (hg : GlobOK Tryz.prog Sy.tab globs) : MemoOK Tryz.prog 29 dpF1 :=
  @memoOK_of _ Tryz.prog (Ed) (envD hg) (@idleD _) (@hooksD _) nameOK 29 3000 0 [] dpF1 dpF1_run rfl rfl (by decide)
def dpF2 : Memo := ⟨[.str [39, 97]], .tup [.nils, .bool false], []⟩
theorem dpF2_run : look [] 0 (callOf (Ed) (exec (Ed) 3000) 29 dpF2.al ⟨.leaf, 0⟩) = some (dpF2.v.ren (rn [] 0), dpF2.bs.map (Blk.ren (rn [] 0))) := by kernel_rfl
theorem dpF2_ok [Sy] (hg : GlobOK Tryz.prog Sy.tab globs) : MemoOK Tryz.prog 29 dpF2 :=
  @memoOK_of _ Tryz.prog (Ed) (envD hg) (@idleD _) (@hooksD _) nameOK 29 3000 0 [] dpF2 dpF2_run rfl rfl (by decide)
def dpF3 : Memo := ⟨[.str [61, 65, 49]], .tup [.slo 0 0 1 1 14, .bool true], [.cells [.int .i64 (.ofNat 5), .int .i64 (.ofNat 0), .str [], .str [], .int .i64 (.ofNat 0), .int .i64 (.ofNat 0), .bool false, .bool false, .str [], .int .i64 (.ofNat 0), .int .i64 (.ofNat 0), .bool false, .bool false, .nils] 66 false]⟩
theorem dpF3_run : look [98] 108 (callOf (Ed) (exec (Ed) 3000) 29 dpF3.al ⟨.leaf, 0⟩) = some (dpF3.v.ren (rn [98] 108), dpF3.bs.map (Blk.ren (rn [98] 108))) := by kernel_rfl
theorem dpF3_ok [Sy] (hg : GlobOK Tryz.prog Sy.tab globs) : MemoOK Tryz.prog 29 dpF3 :=
  @memoOK_of _ Tryz.prog (Ed) (envD hg) (@idleD _) (@hooksD _) nameOK 29 3000 108 [98] dpF3 dpF3_run rfl rfl (by decide)
def dpF4 : Memo := ⟨[.str [61, 66, 49, 43, 49]], .tup [.slo 0 0 3 3 14, .bool true], [.cells [.int .i64 (.ofNat 5), .int .i64 (.ofNat 0), .str [], .str [], .int .i64 (.ofNat 1), .int .i64 (.ofNat 0), .bool false, .bool false, .str [], .int .i64 (.ofNat 0), .int .i64 (.ofNat 0), .bool false, .bool false, .nils, .int .i64 (.ofNat 1), .int .i64 (.ofNat 1), .str [], .str [], .int .i64 (.ofNat 0), .int .i64 (.ofNat 0), .bool false, .bool false, .str [], .int .i64 (.ofNat 0), .int .i64 (.ofNat 0), .bool false, .bool false, .nils, .int .i64 (.ofNat 16), .int .i64 (.ofNat 0), .str [], .str [], .int .i64 (.ofNat 0), .int .i64 (.ofNat 0), .bool false, .bool false, .str [], .int .i64 (.ofNat 0), .int .i64 (.ofNat 0), .bool false, .bool false, .sl 1 0 2 2] 66 false, .cells [.int .i64 (.ofNat 0), .int .i64 (.ofNat 1)] 3 false]⟩
theorem dpF4_run : look [172, 169] 180 (callOf (Ed) (exec (Ed) 3000) 29 dpF4.al ⟨.leaf, 0⟩) = some (dpF4.v.ren (rn [172, 169] 180), dpF4.bs.map (Blk.ren (rn [172, 169] 180))) := by kernel_rfl
theorem dpF4_ok [Sy] (hg : GlobOK Tryz.prog Sy.tab globs) : MemoOK Tryz.prog 29 dpF4 :=
  @memoOK_of _ Tryz.prog (Ed) (envD hg) (@idleD _) (@hooksD _) nameOK 29 3000 180 [172, 169] dpF4 dpF4_run rfl rfl (by decide)
def dpF5 : Memo := ⟨[.str [61, 83, 85, 77, 40, 65, 49, 58, 66, 49, 41]], .tup [.slo 0 0 2 2 14, .bool true], [.cells [.int .i64 (.ofNat 6), .int .i64 (.ofNat 0), .str [], .str [], .int .i64 (.ofNat 0), .int .i64 (.ofNat 0), .bool false, .bool false, .str [], .int .i64 (.ofNat 1), .int .i64 (.ofNat 0), .bool false, .bool false, .nils, .int .i64 (.ofNat 7), .int .i64 (.ofNat 0), .str [83, 85, 77], .str [], .int .i64 (.ofNat 0), .int .i64 (.ofNat 0), .bool false, .bool false, .str [], .int .i64 (.ofNat 0), .int .i64 (.ofNat 0), .bool false, .bool false, .slo 1 0 1 1 1] 66 false, .cells [.int .i64 (.ofNat 0)] 3 false]⟩
theorem dpF5_run : look [273, 266] 283 (callOf (Ed) (exec (Ed) 3000) 29 dpF5.al ⟨.leaf, 0⟩) = some (dpF5.v.ren (rn [273, 266] 283), dpF5.bs.map (Blk.ren (rn [273, 266] 283))) := by kernel_rfl
theorem dpF5_ok [Sy] (hg : GlobOK Tryz.prog Sy.tab globs) : MemoOK Tryz.prog 29 dpF5 :=
  @memoOK_of _ Tryz.prog (Ed) (envD hg) (@idleD _) (@hooksD _) nameOK 29 3000 283 [273, 266] dpF5 dpF5_run rfl rfl (by decide)
def dpF6 : Memo := ⟨[.str [61, 66, 33, 65, 50, 42, 50]], .tup [.slo 0 0 3 3 14, .bool true], [.cells [.int .i64 (.ofNat 5), .int .i64 (.ofNat 0), .str [], .str [66], .int .i64 (.ofNat 0), .int .i64 (.ofNat 1), .bool false, .bool false, .str [], .int .i64 (.ofNat 0), .int .i64 (.ofNat 0), .bool false, .bool false, .nils, .int .i64 (.ofNat 1), .int .i64 (.ofNat 2), .str [], .str [], .int .i64 (.ofNat 0), .int .i64 (.ofNat 0), .bool false, .bool false, .str [], .int .i64 (.ofNat 0), .int .i64 (.ofNat 0), .bool false, .bool false, .nils, .int .i64 (.ofNat 18), .int .i64 (.ofNat 0), .str [], .str [], .int .i64 (.ofNat 0), .int .i64 (.ofNat 0), .bool false, .bool false, .str [], .int .i64 (.ofNat 0), .int .i64 (.ofNat 0), .bool false, .bool false, .sl 1 0 2 2] 66 false, .cells [.int .i64 (.ofNat 0), .int .i64 (.ofNat 1)] 3 false]⟩
theorem dpF6_run : look [160, 157] 170 (callOf (Ed) (exec (Ed) 3000) 29 dpF6.al ⟨.leaf, 0⟩) = some (dpF6.v.ren (rn [160, 157] 170), dpF6.bs.map (Blk.ren (rn [160, 157] 170))) := by kernel_rfl
theorem dpF6_ok [Sy] (hg : GlobOK Tryz.prog Sy.tab globs) : MemoOK Tryz.prog 29 dpF6 :=
  @memoOK_of _ Tryz.prog (Ed) (envD hg) (@idleD _) (@hooksD _) nameOK 29 3000 170 [160, 157] dpF6 dpF6_run rfl rfl (by decide)
def dpF7 : Memo := ⟨[.str [61, 73, 70, 40, 36, 65, 36, 49, 62, 50, 44, 67, 49, 44, 34, 120, 34, 41]], .tup [.slo 0 0 6 6 14, .bool true], [.cells [.int .i64 (.ofNat 5), .int .i64 (.ofNat 0), .str [], .str [], .int .i64 (.ofNat 0), .int .i64 (.ofNat 0), .bool true, .bool true, .str [], .int .i64 (.ofNat 0), .int .i64 (.ofNat 0), .bool false, .bool false, .nils, .int .i64 (.ofNat 1), .int .i64 (.ofNat 2), .str [], .str [], .int .i64 (.ofNat 0), .int .i64 (.ofNat 0), .bool false, .bool false, .str [], .int .i64 (.ofNat 0), .int .i64 (.ofNat 0), .bool false, .bool false, .nils, .int .i64 (.ofNat 13), .int .i64 (.ofNat 0), .str [], .str [], .int .i64 (.ofNat 0), .int .i64 (.ofNat 0), .bool false, .bool false, .str [], .int .i64 (.ofNat 0), .int .i64 (.ofNat 0), .bool false, .bool false, .sl 1 0 2 2, .int .i64 (.ofNat 5), .int .i64 (.ofNat 0), .str [], .str [], .int .i64 (.ofNat 2), .int .i64 (.ofNat 0), .bool false, .bool false, .str [], .int .i64 (.ofNat 0), .int .i64 (.ofNat 0), .bool false, .bool false, .nils, .int .i64 (.ofNat 2), .int .i64 (.ofNat 0), .str [120], .str [], .int .i64 (.ofNat 0), .int .i64 (.ofNat 0), .bool false, .bool false, .str [], .int .i64 (.ofNat 0), .int .i64 (.ofNat 0), .bool false, .bool false, .nils, .int .i64 (.ofNat 7), .int .i64 (.ofNat 0), .str [73, 70], .str [], .int .i64 (.ofNat 0), .int .i64 (.ofNat 0), .bool false, .bool false, .str [], .int .i64 (.ofNat 0), .int .i64 (.ofNat 0), .bool false, .bool false, .slo 2 0 3 3 1] 66 false, .cells [.int .i64 (.ofNat 0), .int .i64 (.ofNat 1)] 3 false, .cells [.int .i64 (.ofNat 2), .int .i64 (.ofNat 3), .int .i64 (.ofNat 4)] 3 false]⟩
theorem dpF7_run : look [525, 446, 518] 535 (callOf (Ed) (exec (Ed) 3000) 29 dpF7.al ⟨.leaf, 0⟩) = some (dpF7.v.ren (rn [525, 446, 518] 535), dpF7.bs.map (Blk.ren (rn [525, 446, 518] 535))) := by kernel_rfl
theorem dpF7_ok [Sy] (hg : GlobOK Tryz.prog Sy.tab globs) : MemoOK Tryz.prog 29 dpF7 :=
  @memoOK_of _ Tryz.prog (Ed) (envD hg) (@idleD _) (@hooksD _) nameOK 29 3000 535 [525, 446, 518] dpF7 dpF7_run rfl rfl (by decide)
def dpF8 : Memo := ⟨[.str [61, 67, 33, 65, 49, 38, 34, 121, 34]], .tup [.slo 0 0 3 3 14, .bool true], [.cells [.int .i64 (.ofNat 5), .int .i64 (.ofNat 0), .str [], .str [67], .int .i64 (.ofNat 0), .int .i64 (.ofNat 0), .bool false, .bool false, .str [], .int .i64 (.ofNat 0), .int .i64 (.ofNat 0), .bool false, .bool false, .nils, .int .i64 (.ofNat 2), .int .i64 (.ofNat 0), .str [121], .str [], .int .i64 (.ofNat 0), .int .i64 (.ofNat 0), .bool false, .bool false, .str [], .int .i64 (.ofNat 0), .int .i64 (.ofNat 0), .bool false, .bool false, .nils, .int .i64 (.ofNat 15), .int .i64 (.ofNat 0), .str [], .str [], .int .i64 (.ofNat 0), .int .i64 (.ofNat 0), .bool false, .bool false, .str [], .int .i64 (.ofNat 0), .int .i64 (.ofNat 0), .bool false, .bool false, .sl 1 0 2 2] 66 false, .cells [.int .i64 (.ofNat 0), .int .i64 (.ofNat 1)] 3 false]⟩
theorem dpF8_run : look [186, 183] 192 (callOf (Ed) (exec (Ed) 3000) 29 dpF8.al ⟨.leaf, 0⟩) = some (dpF8.v.ren (rn [186, 183] 192), dpF8.bs.map (Blk.ren (rn [186, 183] 192))) := by kernel_rfl
theorem dpF8_ok [Sy] (hg : GlobOK Tryz.prog Sy.tab globs) : MemoOK Tryz.prog 29 dpF8 :=
  @memoOK_of _ Tryz.prog (Ed) (envD hg) (@idleD _) (@hooksD _) nameOK 29 3000 192 [186, 183] dpF8 dpF8_run rfl rfl (by decide)
def dpF9 : Memo := ⟨[.str [61, 49, 47, 48]], .tup [.slo 0 0 3 3 14, .bool true], [.cells [.int .i64 (.ofNat 1), .int .i64 (.ofNat 1), .str [], .str [], .int .i64 (.ofNat 0), .int .i64 (.ofNat 0), .bool false, .bool false, .str [], .int .i64 (.ofNat 0), .int .i64 (.ofNat 0), .bool false, .bool false, .nils, .int .i64 (.ofNat 1), .int .i64 (.ofNat 0), .str [], .str [], .int .i64 (.ofNat 0), .int .i64 (.ofNat 0), .bool false, .bool false, .str [], .int .i64 (.ofNat 0), .int .i64 (.ofNat 0), .bool false, .bool false, .nils, .int .i64 (.ofNat 19), .int .i64 (.ofNat 0), .str [], .str [], .int .i64 (.ofNat 0), .int .i64 (.ofNat 0), .bool false, .bool false, .str [], .int .i64 (.ofNat 0), .int .i64 (.ofNat 0), .bool false, .bool false, .sl 1 0 2 2] 66 false, .cells [.int .i64 (.ofNat 0), .int .i64 (.ofNat 1)] 3 false]⟩
theorem dpF9_run : look [139, 136] 149 (callOf (Ed) (exec (Ed) 3000) 29 dpF9.al ⟨.leaf, 0⟩) = some (dpF9.v.ren (rn [139, 136] 149), dpF9.bs.map (Blk.ren (rn [139, 136] 149))) := by kernel_rfl
theorem dpF9_ok [Sy] (hg : GlobOK Tryz.prog Sy.tab globs) : MemoOK Tryz.prog 29 dpF9 :=
  @memoOK_of _ Tryz.prog (Ed) (envD hg) (@idleD _) (@hooksD _) nameOK 29 3000 149 [139, 136] dpF9 dpF9_run rfl rfl (by decide)
def dpF10 : Memo := ⟨[.str [49]], .tup [.nils, .bool false], []⟩
theorem dpF10_run : look [] 0 (callOf (Ed) (exec (Ed) 3000) 29 dpF10.al ⟨.leaf, 0⟩) = some (dpF10.v.ren (rn [] 0), dpF10.bs.map (Blk.ren (rn [] 0))) := by kernel_rfl
theorem dpF10_ok [Sy] (hg : GlobOK Tryz.prog Sy.tab globs) : MemoOK Tryz.prog 29 dpF10 :=
  @memoOK_of _ Tryz.prog (Ed) (envD hg) (@idleD _) (@hooksD _) nameOK 29 3000 0 [] dpF10 dpF10_run rfl rfl (by decide)
def dpF11 : Memo := ⟨[.str [39, 98]], .tup [.nils, .bool false], []⟩
theorem dpF11_run : look [] 0 (callOf (Ed) (exec (Ed) 3000) 29 dpF11.al ⟨.leaf, 0⟩) = some (dpF11.v.ren (rn [] 0), dpF11.bs.map (Blk.ren (rn [] 0))) := by kernel_rfl
theorem dpF11_ok [Sy] (hg : GlobOK Tryz.prog Sy.tab globs) : MemoOK Tryz.prog 29 dpF11 :=
  @memoOK_of _ Tryz.prog (Ed) (envD hg) (@idleD _) (@hooksD _) nameOK 29 3000 0 [] dpF11 dpF11_run rfl rfl (by decide)
def dpF12 : Memo := ⟨[.str [61, 65, 50]], .tup [.slo 0 0 1 1 14, .bool true], [.cells [.int .i64 (.ofNat 5), .int .i64 (.ofNat 0), .str [], .str [], .int .i64 (.ofNat 0), .int .i64 (.ofNat 1), .bool false, .bool false, .str [], .int .i64 (.ofNat 0), .int .i64 (.ofNat 0), .bool false, .bool false, .nils] 66 false]⟩
theorem dpF12_run : look [98] 108 (callOf (Ed) (exec (Ed) 3000) 29 dpF12.al ⟨.leaf, 0⟩) = some (dpF12.v.ren (rn [98] 108), dpF12.bs.map (Blk.ren (rn [98] 108))) := by kernel_rfl
theorem dpF12_ok [Sy] (hg : GlobOK Tryz.prog Sy.tab globs) : MemoOK Tryz.prog 29 dpF12 :=
  @memoOK_of _ Tryz.prog (Ed) (envD hg) (@idleD _) (@hooksD _) nameOK 29 3000 108 [98] dpF12 dpF12_run rfl rfl (by decide)
def dpF13 : Memo := ⟨[.str [61, 66, 50, 43, 49]], .tup [.slo 0 0 3 3 14, .bool true], [.cells [.int .i64 (.ofNat 5), .int .i64 (.ofNat 0), .str [], .str [], .int .i64 (.ofNat 1), .int .i64 (.ofNat 1), .bool false, .bool false, .str [], .int .i64 (.ofNat 0), .int .i64 (.ofNat 0), .bool false, .bool false, .nils, .int .i64 (.ofNat 1), .int .i64 (.ofNat 1), .str [], .str [], .int .i64 (.ofNat 0), .int .i64 (.ofNat 0), .bool false, .bool false, .str [], .int .i64 (.ofNat 0), .int .i64 (.ofNat 0), .bool false, .bool false, .nils, .int .i64 (.ofNat 16), .int .i64 (.ofNat 0), .str [], .str [], .int .i64 (.ofNat 0), .int .i64 (.ofNat 0), .bool false, .bool false, .str [], .int .i64 (.ofNat 0), .int .i64 (.ofNat 0), .bool false, .bool false, .sl 1 0 2 2] 66 false, .cells [.int .i64 (.ofNat 0), .int .i64 (.ofNat 1)] 3 false]⟩
theorem dpF13_run : look [172, 169] 180 (callOf (Ed) (exec (Ed) 3000) 29 dpF13.al ⟨.leaf, 0⟩) = some (dpF13.v.ren (rn [172, 169] 180), dpF13.bs.map (Blk.ren (rn [172, 169] 180))) := by kernel_rfl
theorem dpF13_ok [Sy] (hg : GlobOK Tryz.prog Sy.tab globs) : MemoOK Tryz.prog 29 dpF13 :=
  @memoOK_of _ Tryz.prog (Ed) (envD hg) (@idleD _) (@hooksD _) nameOK 29 3000 180 [172, 169] dpF13 dpF13_run rfl rfl (by decide)
def dpF14 : Memo := ⟨[.str [61, 83, 85, 77, 40, 65, 49, 58, 66, 50, 41]], .tup [.slo 0 0 2 2 14, .bool true], [.cells [.int .i64 (.ofNat 6), .int .i64 (.ofNat 0), .str [], .str [], .int .i64 (.ofNat 0), .int .i64 (.ofNat 0), .bool false, .bool false, .str [], .int .i64 (.ofNat 1), .int .i64 (.ofNat 1), .bool false, .bool false, .nils, .int .i64 (.ofNat 7), .int .i64 (.ofNat 0), .str [83, 85, 77], .str [], .int .i64 (.ofNat 0), .int .i64 (.ofNat 0), .bool false, .bool false, .str [], .int .i64 (.ofNat 0), .int .i64 (.ofNat 0), .bool false, .bool false, .slo 1 0 1 1 1] 66 false, .cells [.int .i64 (.ofNat 0)] 3 false]⟩
theorem dpF14_run : look [273, 266] 283 (callOf (Ed) (exec (Ed) 3000) 29 dpF14.al ⟨.leaf, 0⟩) = some (dpF14.v.ren (rn [273, 266] 283), dpF14.bs.map (Blk.ren (rn [273, 266] 283))) := by kernel_rfl
theorem dpF14_ok [Sy] (hg : GlobOK Tryz.prog Sy.tab globs) : MemoOK Tryz.prog 29 dpF14 :=
  @memoOK_of _ Tryz.prog (Ed) (envD hg) (@idleD _) (@hooksD _) nameOK 29 3000 283 [273, 266] dpF14 dpF14_run rfl rfl (by decide)
def dpF15 : Memo := ⟨[.str [61, 66, 33, 66, 50, 42, 50]], .tup [.slo 0 0 3 3 14, .bool true], [.cells [.int .i64 (.ofNat 5), .int .i64 (.ofNat 0), .str [], .str [66], .int .i64 (.ofNat 1), .int .i64 (.ofNat 1), .bool false, .bool false, .str [], .int .i64 (.ofNat 0), .int .i64 (.ofNat 0), .bool false, .bool false, .nils, .int .i64 (.ofNat 1), .int .i64 (.ofNat 2), .str [], .str [], .int .i64 (.ofNat 0), .int .i64 (.ofNat 0), .bool false, .bool false, .str [], .int .i64 (.ofNat 0), .int .i64 (.ofNat 0), .bool false, .bool false, .nils, .int .i64 (.ofNat 18), .int .i64 (.ofNat 0), .str [], .str [], .int .i64 (.ofNat 0), .int .i64 (.ofNat 0), .bool false, .bool false, .str [], .int .i64 (.ofNat 0), .int .i64 (.ofNat 0), .bool false, .bool false, .sl 1 0 2 2] 66 false, .cells [.int .i64 (.ofNat 0), .int .i64 (.ofNat 1)] 3 false]⟩
theorem dpF15_run : look [160, 157] 170 (callOf (Ed) (exec (Ed) 3000) 29 dpF15.al ⟨.leaf, 0⟩) = some (dpF15.v.ren (rn [160, 157] 170), dpF15.bs.map (Blk.ren (rn [160, 157] 170))) := by kernel_rfl
theorem dpF15_ok [Sy] (hg : GlobOK Tryz.prog Sy.tab globs) : MemoOK Tryz.prog 29 dpF15 :=
  @memoOK_of _ Tryz.prog (Ed) (envD hg) (@idleD _) (@hooksD _) nameOK 29 3000 170 [160, 157] dpF15 dpF15_run rfl rfl (by decide)
def dpF16 : Memo := ⟨[.str [61, 73, 70, 40, 36, 65, 36, 49, 62, 50, 44, 67, 50, 44, 34, 120, 34, 41]], .tup [.slo 0 0 6 6 14, .bool true], [.cells [.int .i64 (.ofNat 5), .int .i64 (.ofNat 0), .str [], .str [], .int .i64 (.ofNat 0), .int .i64 (.ofNat 0), .bool true, .bool true, .str [], .int .i64 (.ofNat 0), .int .i64 (.ofNat 0), .bool false, .bool false, .nils, .int .i64 (.ofNat 1), .int .i64 (.ofNat 2), .str [], .str [], .int .i64 (.ofNat 0), .int .i64 (.ofNat 0), .bool false, .bool false, .str [], .int .i64 (.ofNat 0), .int .i64 (.ofNat 0), .bool false, .bool false, .nils, .int .i64 (.ofNat 13), .int .i64 (.ofNat 0), .str [], .str [], .int .i64 (.ofNat 0), .int .i64 (.ofNat 0), .bool false, .bool false, .str [], .int .i64 (.ofNat 0), .int .i64 (.ofNat 0), .bool false, .bool false, .sl 1 0 2 2, .int .i64 (.ofNat 5), .int .i64 (.ofNat 0), .str [], .str [], .int .i64 (.ofNat 2), .int .i64 (.ofNat 1), .bool false, .bool false, .str [], .int .i64 (.ofNat 0), .int .i64 (.ofNat 0), .bool false, .bool false, .nils, .int .i64 (.ofNat 2), .int .i64 (.ofNat 0), .str [120], .str [], .int .i64 (.ofNat 0), .int .i64 (.ofNat 0), .bool false, .bool false, .str [], .int .i64 (.ofNat 0), .int .i64 (.ofNat 0), .bool false, .bool false, .nils, .int .i64 (.ofNat 7), .int .i64 (.ofNat 0), .str [73, 70], .str [], .int .i64 (.ofNat 0), .int .i64 (.ofNat 0), .bool false, .bool false, .str [], .int .i64 (.ofNat 0), .int .i64 (.ofNat 0), .bool false, .bool false, .slo 2 0 3 3 1] 66 false, .cells [.int .i64 (.ofNat 0), .int .i64 (.ofNat 1)] 3 false, .cells [.int .i64 (.ofNat 2), .int .i64 (.ofNat 3), .int .i64 (.ofNat 4)] 3 false]⟩
theorem dpF16_run : look [525, 446, 518] 535 (callOf (Ed) (exec (Ed) 3000) 29 dpF16.al ⟨.leaf, 0⟩) = some (dpF16.v.ren (rn [525, 446, 518] 535), dpF16.bs.map (Blk.ren (rn [525, 446, 518] 535))) := by kernel_rfl
theorem dpF16_ok [Sy] (hg : GlobOK Tryz.prog Sy.tab globs) : MemoOK Tryz.prog 29 dpF16 :=
  @memoOK_of _ Tryz.prog (Ed) (envD hg) (@idleD _) (@hooksD _) nameOK 29 3000 535 [525, 446, 518] dpF16 dpF16_run rfl rfl (by decide)
def dpF17 : Memo := ⟨[.str [61, 49, 47, 49]], .tup [.slo 0 0 3 3 14, .bool true], [.cells [.int .i64 (.ofNat 1), .int .i64 (.ofNat 1), .str [], .str [], .int .i64 (.ofNat 0), .int .i64 (.ofNat 0), .bool false, .bool false, .str [], .int .i64 (.ofNat 0), .int .i64 (.ofNat 0), .bool false, .bool false, .nils, .int .i64 (.ofNat 1), .int .i64 (.ofNat 1), .str [], .str [], .int .i64 (.ofNat 0), .int .i64 (.ofNat 0), .bool false, .bool false, .str [], .int .i64 (.ofNat 0), .int .i64 (.ofNat 0), .bool false, .bool false, .nils, .int .i64 (.ofNat 19), .int .i64 (.ofNat 0), .str [], .str [], .int .i64 (.ofNat 0), .int .i64 (.ofNat 0), .bool false, .bool false, .str [], .int .i64 (.ofNat 0), .int .i64 (.ofNat 0), .bool false, .bool false, .sl 1 0 2 2] 66 false, .cells [.int .i64 (.ofNat 0), .int .i64 (.ofNat 1)] 3 false]⟩
theorem dpF17_run : look [139, 136] 149 (callOf (Ed) (exec (Ed) 3000) 29 dpF17.al ⟨.leaf, 0⟩) = some (dpF17.v.ren (rn [139, 136] 149), dpF17.bs.map (Blk.ren (rn [139, 136] 149))) := by kernel_rfl
theorem dpF17_ok [Sy] (hg : GlobOK Tryz.prog Sy.tab globs) : MemoOK Tryz.prog 29 dpF17 :=
  @memoOK_of _ Tryz.prog (Ed) (envD hg) (@idleD _) (@hooksD _) nameOK 29 3000 149 [139, 136] dpF17 dpF17_run rfl rfl (by decide)
def dpF18 : Memo := ⟨[.str [50]], .tup [.nils, .bool false], []⟩
theorem dpF18_run : look [] 0 (callOf (Ed) (exec (Ed) 3000) 29 dpF18.al ⟨.leaf, 0⟩) = some (dpF18.v.ren (rn [] 0), dpF18.bs.map (Blk.ren (rn [] 0))) := by kernel_rfl
theorem dpF18_ok [Sy] (hg : GlobOK Tryz.prog Sy.tab globs) : MemoOK Tryz.prog 29 dpF18 :=
  @memoOK_of _ Tryz.prog (Ed) (envD hg) (@idleD _) (@hooksD _) nameOK 29 3000 0 [] dpF18 dpF18_run rfl rfl (by decide)
def dpF19 : Memo := ⟨[.str [39, 99]], .tup [.nils, .bool false], []⟩
theorem dpF19_run : look [] 0 (callOf (Ed) (exec (Ed) 3000) 29 dpF19.al ⟨.leaf, 0⟩) = some (dpF19.v.ren (rn [] 0), dpF19.bs.map (Blk.ren (rn [] 0))) := by kernel_rfl
theorem dpF19_ok [Sy] (hg : GlobOK Tryz.prog Sy.tab globs) : MemoOK Tryz.prog 29 dpF19 :=
  @memoOK_of _ Tryz.prog (Ed) (envD hg) (@idleD _) (@hooksD _) nameOK 29 3000 0 [] dpF19 dpF19_run rfl rfl (by decide)
def dpF20 : Memo := ⟨[.str [61, 65, 51]], .tup [.slo 0 0 1 1 14, .bool true], [.cells [.int .i64 (.ofNat 5), .int .i64 (.ofNat 0), .str [], .str [], .int .i64 (.ofNat 0), .int .i64 (.ofNat 2), .bool false, .bool false, .str [], .int .i64 (.ofNat 0), .int .i64 (.ofNat 0), .bool false, .bool false, .nils] 66 false]⟩
theorem dpF20_run : look [98] 108 (callOf (Ed) (exec (Ed) 3000) 29 dpF20.al ⟨.leaf, 0⟩) = some (dpF20.v.ren (rn [98] 108), dpF20.bs.map (Blk.ren (rn [98] 108))) := by kernel_rfl
theorem dpF20_ok [Sy] (hg : GlobOK Tryz.prog Sy.tab globs) : MemoOK Tryz.prog 29 dpF20 :=
  @memoOK_of _ Tryz.prog (Ed) (envD hg) (@idleD _) (@hooksD _) nameOK 29 3000 108 [98] dpF20 dpF20_run rfl rfl (by decide)
def dpF21 : Memo := ⟨[.str [61, 66, 51, 43, 49]], .tup [.slo 0 0 3 3 14, .bool true], [.cells [.int .i64 (.ofNat 5), .int .i64 (.ofNat 0), .str [], .str [], .int .i64 (.ofNat 1), .int .i64 (.ofNat 2), .bool false, .bool false, .str [], .int .i64 (.ofNat 0), .int .i64 (.ofNat 0), .bool false, .bool false, .nils, .int .i64 (.ofNat 1), .int .i64 (.ofNat 1), .str [], .str [], .int .i64 (.ofNat 0), .int .i64 (.ofNat 0), .bool false, .bool false, .str [], .int .i64 (.ofNat 0), .int .i64 (.ofNat 0), .bool false, .bool false, .nils, .int .i64 (.ofNat 16), .int .i64 (.ofNat 0), .str [], .str [], .int .i64 (.ofNat 0), .int .i64 (.ofNat 0), .bool false, .bool false, .str [], .int .i64 (.ofNat 0), .int .i64 (.ofNat 0), .bool false, .bool false, .sl 1 0 2 2] 66 false, .cells [.int .i64 (.ofNat 0), .int .i64 (.ofNat 1)] 3 false]⟩
theorem dpF21_run : look [172, 169] 180 (callOf (Ed) (exec (Ed) 3000) 29 dpF21.al ⟨.leaf, 0⟩) = some (dpF21.v.ren (rn [172, 169] 180), dpF21.bs.map (Blk.ren (rn [172, 169] 180))) := by kernel_rfl
theorem dpF21_ok [Sy] (hg : GlobOK Tryz.prog Sy.tab globs) : MemoOK Tryz.prog 29 dpF21 :=
  @memoOK_of _ Tryz.prog (Ed) (envD hg) (@idleD _) (@hooksD _) nameOK 29 3000 180 [172, 169] dpF21 dpF21_run rfl rfl (by decide)
def dpF22 : Memo := ⟨[.str [61, 83, 85, 77, 40, 65, 49, 58, 66, 51, 41]], .tup [.slo 0 0 2 2 14, .bool true], [.cells [.int .i64 (.ofNat 6), .int .i64 (.ofNat 0), .str [], .str [], .int .i64 (.ofNat 0), .int .i64 (.ofNat 0), .bool false, .bool false, .str [], .int .i64 (.ofNat 1), .int .i64 (.ofNat 2), .bool false, .bool false, .nils, .int .i64 (.ofNat 7), .int .i64 (.ofNat 0), .str [83, 85, 77], .str [], .int .i64 (.ofNat 0), .int .i64 (.ofNat 0), .bool false, .bool false, .str [], .int .i64 (.ofNat 0), .int .i64 (.ofNat 0), .bool false, .bool false, .slo 1 0 1 1 1] 66 false, .cells [.int .i64 (.ofNat 0)] 3 false]⟩
theorem dpF22_run : look [273, 266] 283 (callOf (Ed) (exec (Ed) 3000) 29 dpF22.al ⟨.leaf, 0⟩) = some (dpF22.v.ren (rn [273, 266] 283), dpF22.bs.map (Blk.ren (rn [273, 266] 283))) := by kernel_rfl
theorem dpF22_ok [Sy] (hg : GlobOK Tryz.prog Sy.tab globs) : MemoOK Tryz.prog 29 dpF22 :=
  @memoOK_of _ Tryz.prog (Ed) (envD hg) (@idleD _) (@hooksD _) nameOK 29 3000 283 [273, 266] dpF22 dpF22_run rfl rfl (by decide)
def dpF23 : Memo := ⟨[.str [61, 66, 33, 67, 50, 42, 50]], .tup [.slo 0 0 3 3 14, .bool true], [.cells [.int .i64 (.ofNat 5), .int .i64 (.ofNat 0), .str [], .str [66], .int .i64 (.ofNat 2), .int .i64 (.ofNat 1), .bool false, .bool false, .str [], .int .i64 (.ofNat 0), .int .i64 (.ofNat 0), .bool false, .bool false, .nils, .int .i64 (.ofNat 1), .int .i64 (.ofNat 2), .str [], .str [], .int .i64 (.ofNat 0), .int .i64 (.ofNat 0), .bool false, .bool false, .str [], .int .i64 (.ofNat 0), .int .i64 (.ofNat 0), .bool false, .bool false, .nils, .int .i64 (.ofNat 18), .int .i64 (.ofNat 0), .str [], .str [], .int .i64 (.ofNat 0), .int .i64 (.ofNat 0), .bool false, .bool false, .str [], .int .i64 (.ofNat 0), .int .i64 (.ofNat 0), .bool false, .bool false, .sl 1 0 2 2] 66 false, .cells [.int .i64 (.ofNat 0), .int .i64 (.ofNat 1)] 3 false]⟩
theorem dpF23_run : look [160, 157] 170 (callOf (Ed) (exec (Ed) 3000) 29 dpF23.al ⟨.leaf, 0⟩) = some (dpF23.v.ren (rn [160, 157] 170), dpF23.bs.map (Blk.ren (rn [160, 157] 170))) := by kernel_rfl
theorem dpF23_ok [Sy] (hg : GlobOK Tryz.prog Sy.tab globs) : MemoOK Tryz.prog 29 dpF23 :=
  @memoOK_of _ Tryz.prog (Ed) (envD hg) (@idleD _) (@hooksD _) nameOK 29 3000 170 [160, 157] dpF23 dpF23_run rfl rfl (by decide)
def dpF24 : Memo := ⟨[.str [61, 73, 70, 40, 36, 65, 36, 49, 62, 50, 44, 67, 51, 44, 34, 120, 34, 41]], .tup [.slo 0 0 6 6 14, .bool true], [.cells [.int .i64 (.ofNat 5), .int .i64 (.ofNat 0), .str [], .str [], .int .i64 (.ofNat 0), .int .i64 (.ofNat 0), .bool true, .bool true, .str [], .int .i64 (.ofNat 0), .int .i64 (.ofNat 0), .bool false, .bool false, .nils, .int .i64 (.ofNat 1), .int .i64 (.ofNat 2), .str [], .str [], .int .i64 (.ofNat 0), .int .i64 (.ofNat 0), .bool false, .bool false, .str [], .int .i64 (.ofNat 0), .int .i64 (.ofNat 0), .bool false, .bool false, .nils, .int .i64 (.ofNat 13), .int .i64 (.ofNat 0), .str [], .str [], .int .i64 (.ofNat 0), .int .i64 (.ofNat 0), .bool false, .bool false, .str [], .int .i64 (.ofNat 0), .int .i64 (.ofNat 0), .bool false, .bool false, .sl 1 0 2 2, .int .i64 (.ofNat 5), .int .i64 (.ofNat 0), .str [], .str [], .int .i64 (.ofNat 2), .int .i64 (.ofNat 2), .bool false, .bool false, .str [], .int .i64 (.ofNat 0), .int .i64 (.ofNat 0), .bool false, .bool false, .nils, .int .i64 (.ofNat 2), .int .i64 (.ofNat 0), .str [120], .str [], .int .i64 (.ofNat 0), .int .i64 (.ofNat 0), .bool false, .bool false, .str [], .int .i64 (.ofNat 0), .int .i64 (.ofNat 0), .bool false, .bool false, .nils, .int .i64 (.ofNat 7), .int .i64 (.ofNat 0), .str [73, 70], .str [], .int .i64 (.ofNat 0), .int .i64 (.ofNat 0), .bool false, .bool false, .str [], .int .i64 (.ofNat 0), .int .i64 (.ofNat 0), .bool false, .bool false, .slo 2 0 3 3 1] 66 false, .cells [.int .i64 (.ofNat 0), .int .i64 (.ofNat 1)] 3 false, .cells [.int .i64 (.ofNat 2), .int .i64 (.ofNat 3), .int .i64 (.ofNat 4)] 3 false]⟩
theorem dpF24_run : look [525, 446, 518] 535 (callOf (Ed) (exec (Ed) 3000) 29 dpF24.al ⟨.leaf, 0⟩) = some (dpF24.v.ren (rn [525, 446, 518] 535), dpF24.bs.map (Blk.ren (rn [525, 446, 518] 535))) := by kernel_rfl
theorem dpF24_ok [Sy] (hg : GlobOK Tryz.prog Sy.tab globs) : MemoOK Tryz.prog 29 dpF24 :=
  @memoOK_of _ Tryz.prog (Ed) (envD hg) (@idleD _) (@hooksD _) nameOK 29 3000 535 [525, 446, 518] dpF24 dpF24_run rfl rfl (by decide)
def dpF25 : Memo := ⟨[.str [51]], .tup [.nils, .bool false], []⟩
theorem dpF25_run : look [] 0 (callOf (Ed) (exec (Ed) 3000) 29 dpF25.al ⟨.leaf, 0⟩) = some (dpF25.v.ren (rn [] 0), dpF25.bs.map (Blk.ren (rn [] 0))) := by kernel_rfl
theorem dpF25_ok [Sy] (hg : GlobOK Tryz.prog Sy.tab globs) : MemoOK Tryz.prog 29 dpF25 :=
  @memoOK_of _ Tryz.prog (Ed) (envD hg) (@idleD _) (@hooksD _) nameOK 29 3000 0 [] dpF25 dpF25_run rfl rfl (by decide)
def dpF26 : Memo := ⟨[.str [39, 100]], .tup [.nils, .bool false], []⟩
theorem dpF26_run : look [] 0 (callOf (Ed) (exec (Ed) 3000) 29 dpF26.al ⟨.leaf, 0⟩) = some (dpF26.v.ren (rn [] 0), dpF26.bs.map (Blk.ren (rn [] 0))) := by kernel_rfl
theorem dpF26_ok [Sy] (hg : GlobOK Tryz.prog Sy.tab globs) : MemoOK Tryz.prog 29 dpF26 :=
  @memoOK_of _ Tryz.prog (Ed) (envD hg) (@idleD _) (@hooksD _) nameOK 29 3000 0 [] dpF26 dpF26_run rfl rfl (by decide)
def dpF27 : Memo := ⟨[.str [61, 65, 52]], .tup [.slo 0 0 1 1 14, .bool true], [.cells [.int .i64 (.ofNat 5), .int .i64 (.ofNat 0), .str [], .str [], .int .i64 (.ofNat 0), .int .i64 (.ofNat 3), .bool false, .bool false, .str [], .int .i64 (.ofNat 0), .int .i64 (.ofNat 0), .bool false, .bool false, .nils] 66 false]⟩
theorem dpF27_run : look [98] 108 (callOf (Ed) (exec (Ed) 3000) 29 dpF27.al ⟨.leaf, 0⟩) = some (dpF27.v.ren (rn [98] 108), dpF27.bs.map (Blk.ren (rn [98] 108))) := by kernel_rfl
theorem dpF27_ok [Sy] (hg : GlobOK Tryz.prog Sy.tab globs) : MemoOK Tryz.prog 29 dpF27 :=
  @memoOK_of _ Tryz.prog (Ed) (envD hg) (@idleD _) (@hooksD _) nameOK 29 3000 108 [98] dpF27 dpF27_run rfl rfl (by decide)
def dpF28 : Memo := ⟨[.str [61, 66, 52, 43, 49]], .tup [.slo 0 0 3 3 14, .bool true], [.cells [.int .i64 (.ofNat 5), .int .i64 (.ofNat 0), .str [], .str [], .int .i64 (.ofNat 1), .int .i64 (.ofNat 3), .bool false, .bool false, .str [], .int .i64 (.ofNat 0), .int .i64 (.ofNat 0), .bool false, .bool false, .nils, .int .i64 (.ofNat 1), .int .i64 (.ofNat 1), .str [], .str [], .int .i64 (.ofNat 0), .int .i64 (.ofNat 0), .bool false, .bool false, .str [], .int .i64 (.ofNat 0), .int .i64 (.ofNat 0), .bool false, .bool false, .nils, .int .i64 (.ofNat 16), .int .i64 (.ofNat 0), .str [], .str [], .int .i64 (.ofNat 0), .int .i64 (.ofNat 0), .bool false, .bool false, .str [], .int .i64 (.ofNat 0), .int .i64 (.ofNat 0), .bool false, .bool false, .sl 1 0 2 2] 66 false, .cells [.int .i64 (.ofNat 0), .int .i64 (.ofNat 1)] 3 false]⟩
theorem dpF28_run : look [172, 169] 180 (callOf (Ed) (exec (Ed) 3000) 29 dpF28.al ⟨.leaf, 0⟩) = some (dpF28.v.ren (rn [172, 169] 180), dpF28.bs.map (Blk.ren (rn [172, 169] 180))) := by kernel_rfl
theorem dpF28_ok [Sy] (hg : GlobOK Tryz.prog Sy.tab globs) : MemoOK Tryz.prog 29 dpF28 :=
  @memoOK_of _ Tryz.prog (Ed) (envD hg) (@idleD _) (@hooksD _) nameOK 29 3000 180 [172, 169] dpF28 dpF28_run rfl rfl (by decide)
def dpF29 : Memo := ⟨[.str [61, 83, 85, 77, 40, 65, 49, 58, 66, 52, 41]], .tup [.slo 0 0 2 2 14, .bool true], [.cells [.int .i64 (.ofNat 6), .int .i64 (.ofNat 0), .str [], .str [], .int .i64 (.ofNat 0), .int .i64 (.ofNat 0), .bool false, .bool false, .str [], .int .i64 (.ofNat 1), .int .i64 (.ofNat 3), .bool false, .bool false, .nils, .int .i64 (.ofNat 7), .int .i64 (.ofNat 0), .str [83, 85, 77], .str [], .int .i64 (.ofNat 0), .int .i64 (.ofNat 0), .bool false, .bool false, .str [], .int .i64 (.ofNat 0), .int .i64 (.ofNat 0), .bool false, .bool false, .slo 1 0 1 1 1] 66 false, .cells [.int .i64 (.ofNat 0)] 3 false]⟩
theorem dpF29_run : look [273, 266] 283 (callOf (Ed) (exec (Ed) 3000) 29 dpF29.al ⟨.leaf, 0⟩) = some (dpF29.v.ren (rn [273, 266] 283), dpF29.bs.map (Blk.ren (rn [273, 266] 283))) := by kernel_rfl
theorem dpF29_ok [Sy] (hg : GlobOK Tryz.prog Sy.tab globs) : MemoOK Tryz.prog 29 dpF29 :=
  @memoOK_of _ Tryz.prog (Ed) (envD hg) (@idleD _) (@hooksD _) nameOK 29 3000 283 [273, 266] dpF29 dpF29_run rfl rfl (by decide)
def dpF30 : Memo := ⟨[.str [61, 66, 33, 68, 50, 42, 50]], .tup [.slo 0 0 3 3 14, .bool true], [.cells [.int .i64 (.ofNat 5), .int .i64 (.ofNat 0), .str [], .str [66], .int .i64 (.ofNat 3), .int .i64 (.ofNat 1), .bool false, .bool false, .str [], .int .i64 (.ofNat 0), .int .i64 (.ofNat 0), .bool false, .bool false, .nils, .int .i64 (.ofNat 1), .int .i64 (.ofNat 2), .str [], .str [], .int .i64 (.ofNat 0), .int .i64 (.ofNat 0), .bool false, .bool false, .str [], .int .i64 (.ofNat 0), .int .i64 (.ofNat 0), .bool false, .bool false, .nils, .int .i64 (.ofNat 18), .int .i64 (.ofNat 0), .str [], .str [], .int .i64 (.ofNat 0), .int .i64 (.ofNat 0), .bool false, .bool false, .str [], .int .i64 (.ofNat 0), .int .i64 (.ofNat 0), .bool false, .bool false, .sl 1 0 2 2] 66 false, .cells [.int .i64 (.ofNat 0), .int .i64 (.ofNat 1)] 3 false]⟩
theorem dpF30_run : look [160, 157] 170 (callOf (Ed) (exec (Ed) 3000) 29 dpF30.al ⟨.leaf, 0⟩) = some (dpF30.v.ren (rn [160, 157] 170), dpF30.bs.map (Blk.ren (rn [160, 157] 170))) := by kernel_rfl
theorem dpF30_ok [Sy] (hg : GlobOK Tryz.prog Sy.tab globs) : MemoOK Tryz.prog 29 dpF30 :=
  @memoOK_of _ Tryz.prog (Ed) (envD hg) (@idleD _) (@hooksD _) nameOK 29 3000 170 [160, 157] dpF30 dpF30_run rfl rfl (by decide)
def dpF31 : Memo := ⟨[.str [61, 73, 70, 40, 36, 65, 36, 49, 62, 50, 44, 67, 52, 44, 34, 120, 34, 41]], .tup [.slo 0 0 6 6 14, .bool true], [.cells [.int .i64 (.ofNat 5), .int .i64 (.ofNat 0), .str [], .str [], .int .i64 (.ofNat 0), .int .i64 (.ofNat 0), .bool true, .bool true, .str [], .int .i64 (.ofNat 0), .int .i64 (.ofNat 0), .bool false, .bool false, .nils, .int .i64 (.ofNat 1), .int .i64 (.ofNat 2), .str [], .str [], .int .i64 (.ofNat 0), .int .i64 (.ofNat 0), .bool false, .bool false, .str [], .int .i64 (.ofNat 0), .int .i64 (.ofNat 0), .bool false, .bool false, .nils, .int .i64 (.ofNat 13), .int .i64 (.ofNat 0), .str [], .str [], .int .i64 (.ofNat 0), .int .i64 (.ofNat 0), .bool false, .bool false, .str [], .int .i64 (.ofNat 0), .int .i64 (.ofNat 0), .bool false, .bool false, .sl 1 0 2 2, .int .i64 (.ofNat 5), .int .i64 (.ofNat 0), .str [], .str [], .int .i64 (.ofNat 2), .int .i64 (.ofNat 3), .bool false, .bool false, .str [], .int .i64 (.ofNat 0), .int .i64 (.ofNat 0), .bool false, .bool false, .nils, .int .i64 (.ofNat 2), .int .i64 (.ofNat 0), .str [120], .str [], .int .i64 (.ofNat 0), .int .i64 (.ofNat 0), .bool false, .bool false, .str [], .int .i64 (.ofNat 0), .int .i64 (.ofNat 0), .bool false, .bool false, .nils, .int .i64 (.ofNat 7), .int .i64 (.ofNat 0), .str [73, 70], .str [], .int .i64 (.ofNat 0), .int .i64 (.ofNat 0), .bool false, .bool false, .str [], .int .i64 (.ofNat 0), .int .i64 (.ofNat 0), .bool false, .bool false, .slo 2 0 3 3 1] 66 false, .cells [.int .i64 (.ofNat 0), .int .i64 (.ofNat 1)] 3 false, .cells [.int .i64 (.ofNat 2), .int .i64 (.ofNat 3), .int .i64 (.ofNat 4)] 3 false]⟩
theorem dpF31_run : look [525, 446, 518] 535 (callOf (Ed) (exec (Ed) 3000) 29 dpF31.al ⟨.leaf, 0⟩) = some (dpF31.v.ren (rn [525, 446, 518] 535), dpF31.bs.map (Blk.ren (rn [525, 446, 518] 535))) := by kernel_rfl
theorem dpF31_ok [Sy] (hg : GlobOK Tryz.prog Sy.tab globs) : MemoOK Tryz.prog 29 dpF31 :=
  @memoOK_of _ Tryz.prog (Ed) (envD hg) (@idleD _) (@hooksD _) nameOK 29 3000 535 [525, 446, 518] dpF31 dpF31_run rfl rfl (by decide)
def dpF32 : Memo := ⟨[.str [52]], .tup [.nils, .bool false], []⟩
theorem dpF32_run : look [] 0 (callOf (Ed) (exec (Ed) 3000) 29 dpF32.al ⟨.leaf, 0⟩) = some (dpF32.v.ren (rn [] 0), dpF32.bs.map (Blk.ren (rn [] 0))) := by kernel_rfl
theorem dpF32_ok [Sy] (hg : GlobOK Tryz.prog Sy.tab globs) : MemoOK Tryz.prog 29 dpF32 :=
  @memoOK_of _ Tryz.prog (Ed) (envD hg) (@idleD _) (@hooksD _) nameOK 29 3000 0 [] dpF32 dpF32_run rfl rfl (by decide)
def dpF33 : Memo := ⟨[.str [39, 101]], .tup [.nils, .bool false], []⟩
theorem dpF33_run : look [] 0 (callOf (Ed) (exec (Ed) 3000) 29 dpF33.al ⟨.leaf, 0⟩) = some (dpF33.v.ren (rn [] 0), dpF33.bs.map (Blk.ren (rn [] 0))) := by kernel_rfl
theorem dpF33_ok [Sy] (hg : GlobOK Tryz.prog Sy.tab globs) : MemoOK Tryz.prog 29 dpF33 :=
  @memoOK_of _ Tryz.prog (Ed) (envD hg) (@idleD _) (@hooksD _) nameOK 29 3000 0 [] dpF33 dpF33_run rfl rfl (by decide)
def dpF34 : Memo := ⟨[.str [61, 65, 53]], .tup [.slo 0 0 1 1 14, .bool true], [.cells [.int .i64 (.ofNat 5), .int .i64 (.ofNat 0), .str [], .str [], .int .i64 (.ofNat 0), .int .i64 (.ofNat 4), .bool false, .bool false, .str [], .int .i64 (.ofNat 0), .int .i64 (.ofNat 0), .bool false, .bool false, .nils] 66 false]⟩
theorem dpF34_run : look [98] 108 (callOf (Ed) (exec (Ed) 3000) 29 dpF34.al ⟨.leaf, 0⟩) = some (dpF34.v.ren (rn [98] 108), dpF34.bs.map (Blk.ren (rn [98] 108))) := by kernel_rfl
theorem dpF34_ok [Sy] (hg : GlobOK Tryz.prog Sy.tab globs) : MemoOK Tryz.prog 29 dpF34 :=
  @memoOK_of _ Tryz.prog (Ed) (envD hg) (@idleD _) (@hooksD _) nameOK 29 3000 108 [98] dpF34 dpF34_run rfl rfl (by decide)
def dpF35 : Memo := ⟨[.str [61, 83, 85, 77, 40, 65, 49, 58, 66, 53, 41]], .tup [.slo 0 0 2 2 14, .bool true], [.cells [.int .i64 (.ofNat 6), .int .i64 (.ofNat 0), .str [], .str [], .int .i64 (.ofNat 0), .int .i64 (.ofNat 0), .bool false, .bool false, .str [], .int .i64 (.ofNat 1), .int .i64 (.ofNat 4), .bool false, .bool false, .nils, .int .i64 (.ofNat 7), .int .i64 (.ofNat 0), .str [83, 85, 77], .str [], .int .i64 (.ofNat 0), .int .i64 (.ofNat 0), .bool false, .bool false, .str [], .int .i64 (.ofNat 0), .int .i64 (.ofNat 0), .bool false, .bool false, .slo 1 0 1 1 1] 66 false, .cells [.int .i64 (.ofNat 0)] 3 false]⟩
theorem dpF35_run : look [273, 266] 283 (callOf (Ed) (exec (Ed) 3000) 29 dpF35.al ⟨.leaf, 0⟩) = some (dpF35.v.ren (rn [273, 266] 283), dpF35.bs.map (Blk.ren (rn [273, 266] 283))) := by kernel_rfl
theorem dpF35_ok [Sy] (hg : GlobOK Tryz.prog Sy.tab globs) : MemoOK Tryz.prog 29 dpF35 :=
  @memoOK_of _ Tryz.prog (Ed) (envD hg) (@idleD _) (@hooksD _) nameOK 29 3000 283 [273, 266] dpF35 dpF35_run rfl rfl (by decide)
def dpF36 : Memo := ⟨[.str [53]], .tup [.nils, .bool false], []⟩
theorem dpF36_run : look [] 0 (callOf (Ed) (exec (Ed) 3000) 29 dpF36.al ⟨.leaf, 0⟩) = some (dpF36.v.ren (rn [] 0), dpF36.bs.map (Blk.ren (rn [] 0))) := by kernel_rfl
theorem dpF36_ok [Sy] (hg : GlobOK Tryz.prog Sy.tab globs) : MemoOK Tryz.prog 29 dpF36 :=
  @memoOK_of _ Tryz.prog (Ed) (envD hg) (@idleD _) (@hooksD _) nameOK 29 3000 0 [] dpF36 dpF36_run rfl rfl (by decide)
def dpF37 : Memo := ⟨[.str [54]], .tup [.nils, .bool false], []⟩
theorem dpF37_run : look [] 0 (callOf (Ed) (exec (Ed) 3000) 29 dpF37.al ⟨.leaf, 0⟩) = some (dpF37.v.ren (rn [] 0), dpF37.bs.map (Blk.ren (rn [] 0))) := by kernel_rfl
theorem dpF37_ok [Sy] (hg : GlobOK Tryz.prog Sy.tab globs) : MemoOK Tryz.prog 29 dpF37 :=
  @memoOK_of _ Tryz.prog (Ed) (envD hg) (@idleD _) (@hooksD _) nameOK 29 3000 0 [] dpF37 dpF37_run rfl rfl (by decide)
def dpF38 : Memo := ⟨[.str [55]], .tup [.nils, .bool false], []⟩
theorem dpF38_run : look [] 0 (callOf (Ed) (exec (Ed) 3000) 29 dpF38.al ⟨.leaf, 0⟩) = some (dpF38.v.ren (rn [] 0), dpF38.bs.map (Blk.ren (rn [] 0))) := by kernel_rfl
theorem dpF38_ok [Sy] (hg : GlobOK Tryz.prog Sy.tab globs) : MemoOK Tryz.prog 29 dpF38 :=
  @memoOK_of _ Tryz.prog (Ed) (envD hg) (@idleD _) (@hooksD _) nameOK 29 3000 0 [] dpF38 dpF38_run rfl rfl (by decide)
def dpF39 : Memo := ⟨[.str [56]], .tup [.nils, .bool false], []⟩
theorem dpF39_run : look [] 0 (callOf (Ed) (exec (Ed) 3000) 29 dpF39.al ⟨.leaf, 0⟩) = some (dpF39.v.ren (rn [] 0), dpF39.bs.map (Blk.ren (rn [] 0))) := by kernel_rfl
theorem dpF39_ok [Sy] (hg : GlobOK Tryz.prog Sy.tab globs) : MemoOK Tryz.prog 29 dpF39 :=
  @memoOK_of _ Tryz.prog (Ed) (envD hg) (@idleD _) (@hooksD _) nameOK 29 3000 0 [] dpF39 dpF39_run rfl rfl (by decide)
def dpF : List Memo := [dpF0, dpF1, dpF2, dpF3, dpF4, dpF5, dpF6, dpF7, dpF8, dpF9, dpF10, dpF11, dpF12, dpF13, dpF14, dpF15, dpF16, dpF17, dpF18, dpF19, dpF20, dpF21, dpF22, dpF23, dpF24, dpF25, dpF26, dpF27, dpF28, dpF29, dpF30, dpF31, dpF32, dpF33, dpF34, dpF35, dpF36, dpF37, dpF38, dpF39]
theorem dpF_ok [Sy] (hg : GlobOK Tryz.prog Sy.tab globs) : ∀ m ∈ dpF, MemoOK Tryz.prog 29 m := by
  intro m hm
  simp only [dpF, List.mem_cons, List.not_mem_nil, or_false] at hm
  rcases hm with rfl | rfl | rfl | rfl | rfl | rfl | rfl | rfl | rfl | rfl | rfl | rfl | rfl | rfl | rfl | rfl | rfl | rfl | rfl | rfl | rfl | rfl | rfl | rfl | rfl | rfl | rfl | rfl | rfl | rfl | rfl | rfl | rfl | rfl | rfl | rfl | rfl | rfl | rfl | rfl
  · exact dpF0_ok hg
  · exact dpF1_ok hg
  · exact dpF2_ok hg
  · exact dpF3_ok hg
  · exact dpF4_ok hg
  · exact dpF5_ok hg
  · exact dpF6_ok hg
  · exact dpF7_ok hg
  · exact dpF8_ok hg
  · exact dpF9_ok hg
  · exact dpF10_ok hg
  · exact dpF11_ok hg
  · exact dpF12_ok hg
  · exact dpF13_ok hg
  · exact dpF14_ok hg
  · exact dpF15_ok hg
  · exact dpF16_ok hg
  · exact dpF17_ok hg
  · exact dpF18_ok hg
  · exact dpF19_ok hg
  · exact dpF20_ok hg
  · exact dpF21_ok hg
  · exact dpF22_ok hg
  · exact dpF23_ok hg
  · exact dpF24_ok hg
  · exact dpF25_ok hg
  · exact dpF26_ok hg
  · exact dpF27_ok hg
  · exact dpF28_ok hg
  · exact dpF29_ok hg
  · exact dpF30_ok hg
  · exact dpF31_ok hg
  · exact dpF32_ok hg
  · exact dpF33_ok hg
  · exact dpF34_ok hg
  · exact dpF35_ok hg
  · exact dpF36_ok hg
  · exact dpF37_ok hg
  · exact dpF38_ok hg
  · exact dpF39_ok hg
end
end VM
end Go.Proofs.YtlllhhjlfmhmlaaGreatDoor
namespace Go.Proofs.YtlllhhjlfmhmlaaGreatDoor
namespace VM
open Go Go.RowKit
set_option linter.unusedVariables false
set_option linter.unusedSectionVars false
set_option maxRecDepth 20000
noncomputable section
def dpR0 : Memo := ⟨[.str []], .tup [.nils, .bool false], []⟩
theorem dpR0_run : look [] 0 (callOf (Ed) (exec (Ed) 3000) 16 dpR0.al ⟨.leaf, 0⟩) = some (dpR0.v.ren (rn [] 0), dpR0.bs.map (Blk.ren (rn [] 0))) := by kernel_rfl
theorem dpR0_ok [Sy] (hg : GlobOK Tryz.prog Sy.tab globs) : MemoOK Tryz.prog 16 dpR0 :=
  @memoOK_of _ Tryz.prog (Ed) (envD hg) (@idleD _) (@hooksD _) nameOK 16 3000 0 [] dpR0 dpR0_run rfl rfl (by decide)
def dpR1 : Memo := ⟨[.str [48]], .tup [.nils, .bool false], []⟩
theorem dpR1_run : look [] 0 (callOf (Ed) (exec (Ed) 3000) 16 dpR1.al ⟨.leaf, 0⟩) = some (dpR1.v.ren (rn [] 0), dpR1.bs.map (Blk.ren (rn [] 0))) := by kernel_rfl
theorem dpR1_ok [Sy] (hg : GlobOK Tryz.prog Sy.tab globs) : MemoOK Tryz.prog 16 dpR1 :=
  @memoOK_of _ Tryz.prog (Ed) (envD hg) (@idleD _) (@hooksD _) nameOK 16 3000 0 [] dpR1 dpR1_run rfl rfl (by decide)
def dpR2 : Memo := ⟨[.str [39, 97]], .tup [.nils, .bool false], []⟩
theorem dpR2_run : look [] 0 (callOf (Ed) (exec (Ed) 3000) 16 dpR2.al ⟨.leaf, 0⟩) = some (dpR2.v.ren (rn [] 0), dpR2.bs.map (Blk.ren (rn [] 0))) := by kernel_rfl
theorem dpR2_ok [Sy] (hg : GlobOK Tryz.prog Sy.tab globs) : MemoOK Tryz.prog 16 dpR2 :=
  @memoOK_of _ Tryz.prog (Ed) (envD hg) (@idleD _) (@hooksD _) nameOK 16 3000 0 [] dpR2 dpR2_run rfl rfl (by decide)
def dpR3 : Memo := ⟨[.str [61, 65, 49]], .tup [.slo 0 0 1 1 14, .bool true], [.cells [.int .i64 (.ofNat 5), .int .i64 (.ofNat 0), .str [], .str [], .int .i64 (.ofNat 0), .int .i64 (.ofNat 0), .bool false, .bool false, .str [], .int .i64 (.ofNat 0), .int .i64 (.ofNat 0), .bool false, .bool false, .nils] 66 false]⟩
theorem dpR3_run : look [67] 76 (callOf (Ed) (exec (Ed) 3000) 16 dpR3.al ⟨.leaf, 0⟩) = some (dpR3.v.ren (rn [67] 76), dpR3.bs.map (Blk.ren (rn [67] 76))) := by kernel_rfl
theorem dpR3_ok [Sy] (hg : GlobOK Tryz.prog Sy.tab globs) : MemoOK Tryz.prog 16 dpR3 :=
  @memoOK_of _ Tryz.prog (Ed) (envD hg) (@idleD _) (@hooksD _) nameOK 16 3000 76 [67] dpR3 dpR3_run rfl rfl (by decide)
def dpR4 : Memo := ⟨[.str [61, 66, 49, 43, 49]], .tup [.slo 0 0 3 3 14, .bool true], [.cells [.int .i64 (.ofNat 5), .int .i64 (.ofNat 0), .str [], .str [], .int .i64 (.ofNat 1), .int .i64 (.ofNat 0), .bool false, .bool false, .str [], .int .i64 (.ofNat 0), .int .i64 (.ofNat 0), .bool false, .bool false, .nils, .int .i64 (.ofNat 1), .int .i64 (.ofNat 1), .str [], .str [], .int .i64 (.ofNat 0), .int .i64 (.ofNat 0), .bool false, .bool false, .str [], .int .i64 (.ofNat 0), .int .i64 (.ofNat 0), .bool false, .bool false, .nils, .int .i64 (.ofNat 16), .int .i64 (.ofNat 0), .str [], .str [], .int .i64 (.ofNat 0), .int .i64 (.ofNat 0), .bool false, .bool false, .str [], .int .i64 (.ofNat 0), .int .i64 (.ofNat 0), .bool false, .bool false, .sl 1 0 2 2] 66 false, .cells [.int .i64 (.ofNat 0), .int .i64 (.ofNat 1)] 3 false]⟩
theorem dpR4_run : look [125, 122] 130 (callOf (Ed) (exec (Ed) 3000) 16 dpR4.al ⟨.leaf, 0⟩) = some (dpR4.v.ren (rn [125, 122] 130), dpR4.bs.map (Blk.ren (rn [125, 122] 130))) := by kernel_rfl
theorem dpR4_ok [Sy] (hg : GlobOK Tryz.prog Sy.tab globs) : MemoOK Tryz.prog 16 dpR4 :=
  @memoOK_of _ Tryz.prog (Ed) (envD hg) (@idleD _) (@hooksD _) nameOK 16 3000 130 [125, 122] dpR4 dpR4_run rfl rfl (by decide)
def dpR5 : Memo := ⟨[.str [61, 83, 85, 77, 40, 65, 49, 58, 66, 49, 41]], .tup [.slo 0 0 2 2 14, .bool true], [.cells [.int .i64 (.ofNat 6), .int .i64 (.ofNat 0), .str [], .str [], .int .i64 (.ofNat 0), .int .i64 (.ofNat 0), .bool false, .bool false, .str [], .int .i64 (.ofNat 1), .int .i64 (.ofNat 0), .bool false, .bool false, .nils, .int .i64 (.ofNat 7), .int .i64 (.ofNat 0), .str [83, 85, 77], .str [], .int .i64 (.ofNat 0), .int .i64 (.ofNat 0), .bool false, .bool false, .str [], .int .i64 (.ofNat 0), .int .i64 (.ofNat 0), .bool false, .bool false, .slo 1 0 1 1 1] 66 false, .cells [.int .i64 (.ofNat 0)] 3 false]⟩
theorem dpR5_run : look [183, 180] 192 (callOf (Ed) (exec (Ed) 3000) 16 dpR5.al ⟨.leaf, 0⟩) = some (dpR5.v.ren (rn [183, 180] 192), dpR5.bs.map (Blk.ren (rn [183, 180] 192))) := by kernel_rfl
theorem dpR5_ok [Sy] (hg : GlobOK Tryz.prog Sy.tab globs) : MemoOK Tryz.prog 16 dpR5 :=
  @memoOK_of _ Tryz.prog (Ed) (envD hg) (@idleD _) (@hooksD _) nameOK 16 3000 192 [183, 180] dpR5 dpR5_run rfl rfl (by decide)
def dpR6 : Memo := ⟨[.str [61, 66, 33, 65, 50, 42, 50]], .tup [.slo 0 0 3 3 14, .bool true], [.cells [.int .i64 (.ofNat 5), .int .i64 (.ofNat 0), .str [], .str [66], .int .i64 (.ofNat 0), .int .i64 (.ofNat 1), .bool false, .bool false, .str [], .int .i64 (.ofNat 0), .int .i64 (.ofNat 0), .bool false, .bool false, .nils, .int .i64 (.ofNat 1), .int .i64 (.ofNat 2), .str [], .str [], .int .i64 (.ofNat 0), .int .i64 (.ofNat 0), .bool false, .bool false, .str [], .int .i64 (.ofNat 0), .int .i64 (.ofNat 0), .bool false, .bool false, .nils, .int .i64 (.ofNat 18), .int .i64 (.ofNat 0), .str [], .str [], .int .i64 (.ofNat 0), .int .i64 (.ofNat 0), .bool false, .bool false, .str [], .int .i64 (.ofNat 0), .int .i64 (.ofNat 0), .bool false, .bool false, .sl 1 0 2 2] 66 false, .cells [.int .i64 (.ofNat 0), .int .i64 (.ofNat 1)] 3 false]⟩
theorem dpR6_run : look [119, 116] 126 (callOf (Ed) (exec (Ed) 3000) 16 dpR6.al ⟨.leaf, 0⟩) = some (dpR6.v.ren (rn [119, 116] 126), dpR6.bs.map (Blk.ren (rn [119, 116] 126))) := by kernel_rfl
theorem dpR6_ok [Sy] (hg : GlobOK Tryz.prog Sy.tab globs) : MemoOK Tryz.prog 16 dpR6 :=
  @memoOK_of _ Tryz.prog (Ed) (envD hg) (@idleD _) (@hooksD _) nameOK 16 3000 126 [119, 116] dpR6 dpR6_run rfl rfl (by decide)
def dpR7 : Memo := ⟨[.str [61, 73, 70, 40, 36, 65, 36, 49, 62, 50, 44, 67, 49, 44, 34, 120, 34, 41]], .tup [.slo 0 0 6 6 14, .bool true], [.cells [.int .i64 (.ofNat 5), .int .i64 (.ofNat 0), .str [], .str [], .int .i64 (.ofNat 0), .int .i64 (.ofNat 0), .bool true, .bool true, .str [], .int .i64 (.ofNat 0), .int .i64 (.ofNat 0), .bool false, .bool false, .nils, .int .i64 (.ofNat 1), .int .i64 (.ofNat 2), .str [], .str [], .int .i64 (.ofNat 0), .int .i64 (.ofNat 0), .bool false, .bool false, .str [], .int .i64 (.ofNat 0), .int .i64 (.ofNat 0), .bool false, .bool false, .nils, .int .i64 (.ofNat 13), .int .i64 (.ofNat 0), .str [], .str [], .int .i64 (.ofNat 0), .int .i64 (.ofNat 0), .bool false, .bool false, .str [], .int .i64 (.ofNat 0), .int .i64 (.ofNat 0), .bool false, .bool false, .sl 1 0 2 2, .int .i64 (.ofNat 5), .int .i64 (.ofNat 0), .str [], .str [], .int .i64 (.ofNat 2), .int .i64 (.ofNat 0), .bool false, .bool false, .str [], .int .i64 (.ofNat 0), .int .i64 (.ofNat 0), .bool false, .bool false, .nils, .int .i64 (.ofNat 2), .int .i64 (.ofNat 0), .str [120], .str [], .int .i64 (.ofNat 0), .int .i64 (.ofNat 0), .bool false, .bool false, .str [], .int .i64 (.ofNat 0), .int .i64 (.ofNat 0), .bool false, .bool false, .nils, .int .i64 (.ofNat 7), .int .i64 (.ofNat 0), .str [73, 70], .str [], .int .i64 (.ofNat 0), .int .i64 (.ofNat 0), .bool false, .bool false, .str [], .int .i64 (.ofNat 0), .int .i64 (.ofNat 0), .bool false, .bool false, .slo 2 0 3 3 1] 66 false, .cells [.int .i64 (.ofNat 0), .int .i64 (.ofNat 1)] 3 false, .cells [.int .i64 (.ofNat 2), .int .i64 (.ofNat 3), .int .i64 (.ofNat 4)] 3 false]⟩
theorem dpR7_run : look [339, 302, 336] 348 (callOf (Ed) (exec (Ed) 3000) 16 dpR7.al ⟨.leaf, 0⟩) = some (dpR7.v.ren (rn [339, 302, 336] 348), dpR7.bs.map (Blk.ren (rn [339, 302, 336] 348))) := by kernel_rfl
theorem dpR7_ok [Sy] (hg : GlobOK Tryz.prog Sy.tab globs) : MemoOK Tryz.prog 16 dpR7 :=
  @memoOK_of _ Tryz.prog (Ed) (envD hg) (@idleD _) (@hooksD _) nameOK 16 3000 348 [339, 302, 336] dpR7 dpR7_run rfl rfl (by decide)
def dpR8 : Memo := ⟨[.str [61, 67, 33, 65, 49, 38, 34, 121, 34]], .tup [.slo 0 0 3 3 14, .bool true], [.cells [.int .i64 (.ofNat 5), .int .i64 (.ofNat 0), .str [], .str [67], .int .i64 (.ofNat 0), .int .i64 (.ofNat 0), .bool false, .bool false, .str [], .int .i64 (.ofNat 0), .int .i64 (.ofNat 0), .bool false, .bool false, .nils, .int .i64 (.ofNat 2), .int .i64 (.ofNat 0), .str [121], .str [], .int .i64 (.ofNat 0), .int .i64 (.ofNat 0), .bool false, .bool false, .str [], .int .i64 (.ofNat 0), .int .i64 (.ofNat 0), .bool false, .bool false, .nils, .int .i64 (.ofNat 15), .int .i64 (.ofNat 0), .str [], .str [], .int .i64 (.ofNat 0), .int .i64 (.ofNat 0), .bool false, .bool false, .str [], .int .i64 (.ofNat 0), .int .i64 (.ofNat 0), .bool false, .bool false, .sl 1 0 2 2] 66 false, .cells [.int .i64 (.ofNat 0), .int .i64 (.ofNat 1)] 3 false]⟩
theorem dpR8_run : look [139, 136] 142 (callOf (Ed) (exec (Ed) 3000) 16 dpR8.al ⟨.leaf, 0⟩) = some (dpR8.v.ren (rn [139, 136] 142), dpR8.bs.map (Blk.ren (rn [139, 136] 142))) := by kernel_rfl
theorem dpR8_ok [Sy] (hg : GlobOK Tryz.prog Sy.tab globs) : MemoOK Tryz.prog 16 dpR8 :=
  @memoOK_of _ Tryz.prog (Ed) (envD hg) (@idleD _) (@hooksD _) nameOK 16 3000 142 [139, 136] dpR8 dpR8_run rfl rfl (by decide)
def dpR9 : Memo := ⟨[.str [61, 49, 47, 48]], .tup [.slo 0 0 3 3 14, .bool true], [.cells [.int .i64 (.ofNat 1), .int .i64 (.ofNat 1), .str [], .str [], .int .i64 (.ofNat 0), .int .i64 (.ofNat 0), .bool false, .bool false, .str [], .int .i64 (.ofNat 0), .int .i64 (.ofNat 0), .bool false, .bool false, .nils, .int .i64 (.ofNat 1), .int .i64 (.ofNat 0), .str [], .str [], .int .i64 (.ofNat 0), .int .i64 (.ofNat 0), .bool false, .bool false, .str [], .int .i64 (.ofNat 0), .int .i64 (.ofNat 0), .bool false, .bool false, .nils, .int .i64 (.ofNat 19), .int .i64 (.ofNat 0), .str [], .str [], .int .i64 (.ofNat 0), .int .i64 (.ofNat 0), .bool false, .bool false, .str [], .int .i64 (.ofNat 0), .int .i64 (.ofNat 0), .bool false, .bool false, .sl 1 0 2 2] 66 false, .cells [.int .i64 (.ofNat 0), .int .i64 (.ofNat 1)] 3 false]⟩
theorem dpR9_run : look [98, 95] 105 (callOf (Ed) (exec (Ed) 3000) 16 dpR9.al ⟨.leaf, 0⟩) = some (dpR9.v.ren (rn [98, 95] 105), dpR9.bs.map (Blk.ren (rn [98, 95] 105))) := by kernel_rfl
theorem dpR9_ok [Sy] (hg : GlobOK Tryz.prog Sy.tab globs) : MemoOK Tryz.prog 16 dpR9 :=
  @memoOK_of _ Tryz.prog (Ed) (envD hg) (@idleD _) (@hooksD _) nameOK 16 3000 105 [98, 95] dpR9 dpR9_run rfl rfl (by decide)
def dpR10 : Memo := ⟨[.str [49]], .tup [.nils, .bool false], []⟩
theorem dpR10_run : look [] 0 (callOf (Ed) (exec (Ed) 3000) 16 dpR10.al ⟨.leaf, 0⟩) = some (dpR10.v.ren (rn [] 0), dpR10.bs.map (Blk.ren (rn [] 0))) := by kernel_rfl
theorem dpR10_ok [Sy] (hg : GlobOK Tryz.prog Sy.tab globs) : MemoOK Tryz.prog 16 dpR10 :=
  @memoOK_of _ Tryz.prog (Ed) (envD hg) (@idleD _) (@hooksD _) nameOK 16 3000 0 [] dpR10 dpR10_run rfl rfl (by decide)
def dpR11 : Memo := ⟨[.str [39, 98]], .tup [.nils, .bool false], []⟩
theorem dpR11_run : look [] 0 (callOf (Ed) (exec (Ed) 3000) 16 dpR11.al ⟨.leaf, 0⟩) = some (dpR11.v.ren (rn [] 0), dpR11.bs.map (Blk.ren (rn [] 0))) := by kernel_rfl
theorem dpR11_ok [Sy] (hg : GlobOK Tryz.prog Sy.tab globs) : MemoOK Tryz.prog 16 dpR11 :=
  @memoOK_of _ Tryz.prog (Ed) (envD hg) (@idleD _) (@hooksD _) nameOK 16 3000 0 [] dpR11 dpR11_run rfl rfl (by decide)
def dpR12 : Memo := ⟨[.str [61, 65, 50]], .tup [.slo 0 0 1 1 14, .bool true], [.cells [.int .i64 (.ofNat 5), .int .i64 (.ofNat 0), .str [], .str [], .int .i64 (.ofNat 0), .int .i64 (.ofNat 1), .bool false, .bool false, .str [], .int .i64 (.ofNat 0), .int .i64 (.ofNat 0), .bool false, .bool false, .nils] 66 false]⟩
theorem dpR12_run : look [67] 76 (callOf (Ed) (exec (Ed) 3000) 16 dpR12.al ⟨.leaf, 0⟩) = some (dpR12.v.ren (rn [67] 76), dpR12.bs.map (Blk.ren (rn [67] 76))) := by kernel_rfl
theorem dpR12_ok [Sy] (hg : GlobOK Tryz.prog Sy.tab globs) : MemoOK Tryz.prog 16 dpR12 :=
  @memoOK_of _ Tryz.prog (Ed) (envD hg) (@idleD _) (@hooksD _) nameOK 16 3000 76 [67] dpR12 dpR12_run rfl rfl (by decide)
def dpR13 : Memo := ⟨[.str [61, 66, 50, 43, 49]], .tup [.slo 0 0 3 3 14, .bool true], [.cells [.int .i64 (.ofNat 5), .int .i64 (.ofNat 0), .str [], .str [], .int .i64 (.ofNat 1), .int .i64 (.ofNat 1), .bool false, .bool false, .str [], .int .i64 (.ofNat 0), .int .i64 (.ofNat 0), .bool false, .bool false, .nils, .int .i64 (.ofNat 1), .int .i64 (.ofNat 1), .str [], .str [], .int .i64 (.ofNat 0), .int .i64 (.ofNat 0), .bool false, .bool false, .str [], .int .i64 (.ofNat 0), .int .i64 (.ofNat 0), .bool false, .bool false, .nils, .int .i64 (.ofNat 16), .int .i64 (.ofNat 0), .str [], .str [], .int .i64 (.ofNat 0), .int .i64 (.ofNat 0), .bool false, .bool false, .str [], .int .i64 (.ofNat 0), .int .i64 (.ofNat 0), .bool false, .bool false, .sl 1 0 2 2] 66 false, .cells [.int .i64 (.ofNat 0), .int .i64 (.ofNat 1)] 3 false]⟩
theorem dpR13_run : look [125, 122] 130 (callOf (Ed) (exec (Ed) 3000) 16 dpR13.al ⟨.leaf, 0⟩) = some (dpR13.v.ren (rn [125, 122] 130), dpR13.bs.map (Blk.ren (rn [125, 122] 130))) := by kernel_rfl
theorem dpR13_ok [Sy] (hg : GlobOK Tryz.prog Sy.tab globs) : MemoOK Tryz.prog 16 dpR13 :=
  @memoOK_of _ Tryz.prog (Ed) (envD hg) (@idleD _) (@hooksD _) nameOK 16 3000 130 [125, 122] dpR13 dpR13_run rfl rfl (by decide)
def dpR14 : Memo := ⟨[.str [61, 83, 85, 77, 40, 65, 49, 58, 66, 50, 41]], .tup [.slo 0 0 2 2 14, .bool true], [.cells [.int .i64 (.ofNat 6), .int .i64 (.ofNat 0), .str [], .str [], .int .i64 (.ofNat 0), .int .i64 (.ofNat 0), .bool false, .bool false, .str [], .int .i64 (.ofNat 1), .int .i64 (.ofNat 1), .bool false, .bool false, .nils, .int .i64 (.ofNat 7), .int .i64 (.ofNat 0), .str [83, 85, 77], .str [], .int .i64 (.ofNat 0), .int .i64 (.ofNat 0), .bool false, .bool false, .str [], .int .i64 (.ofNat 0), .int .i64 (.ofNat 0), .bool false, .bool false, .slo 1 0 1 1 1] 66 false, .cells [.int .i64 (.ofNat 0)] 3 false]⟩
theorem dpR14_run : look [183, 180] 192 (callOf (Ed) (exec (Ed) 3000) 16 dpR14.al ⟨.leaf, 0⟩) = some (dpR14.v.ren (rn [183, 180] 192), dpR14.bs.map (Blk.ren (rn [183, 180] 192))) := by kernel_rfl
theorem dpR14_ok [Sy] (hg : GlobOK Tryz.prog Sy.tab globs) : MemoOK Tryz.prog 16 dpR14 :=
  @memoOK_of _ Tryz.prog (Ed) (envD hg) (@idleD _) (@hooksD _) nameOK 16 3000 192 [183, 180] dpR14 dpR14_run rfl rfl (by decide)
def dpR15 : Memo := ⟨[.str [61, 66, 33, 66, 50, 42, 50]], .tup [.slo 0 0 3 3 14, .bool true], [.cells [.int .i64 (.ofNat 5), .int .i64 (.ofNat 0), .str [], .str [66], .int .i64 (.ofNat 1), .int .i64 (.ofNat 1), .bool false, .bool false, .str [], .int .i64 (.ofNat 0), .int .i64 (.ofNat 0), .bool false, .bool false, .nils, .int .i64 (.ofNat 1), .int .i64 (.ofNat 2), .str [], .str [], .int .i64 (.ofNat 0), .int .i64 (.ofNat 0), .bool false, .bool false, .str [], .int .i64 (.ofNat 0), .int .i64 (.ofNat 0), .bool false, .bool false, .nils, .int .i64 (.ofNat 18), .int .i64 (.ofNat 0), .str [], .str [], .int .i64 (.ofNat 0), .int .i64 (.ofNat 0), .bool false, .bool false, .str [], .int .i64 (.ofNat 0), .int .i64 (.ofNat 0), .bool false, .bool false, .sl 1 0 2 2] 66 false, .cells [.int .i64 (.ofNat 0), .int .i64 (.ofNat 1)] 3 false]⟩
theorem dpR15_run : look [119, 116] 126 (callOf (Ed) (exec (Ed) 3000) 16 dpR15.al ⟨.leaf, 0⟩) = some (dpR15.v.ren (rn [119, 116] 126), dpR15.bs.map (Blk.ren (rn [119, 116] 126))) := by kernel_rfl
theorem dpR15_ok [Sy] (hg : GlobOK Tryz.prog Sy.tab globs) : MemoOK Tryz.prog 16 dpR15 :=
  @memoOK_of _ Tryz.prog (Ed) (envD hg) (@idleD _) (@hooksD _) nameOK 16 3000 126 [119, 116] dpR15 dpR15_run rfl rfl (by decide)
def dpR16 : Memo := ⟨[.str [61, 73, 70, 40, 36, 65, 36, 49, 62, 50, 44, 67, 50, 44, 34, 120, 34, 41]], .tup [.slo 0 0 6 6 14, .bool true], [.cells [.int .i64 (.ofNat 5), .int .i64 (.ofNat 0), .str [], .str [], .int .i64 (.ofNat 0), .int .i64 (.ofNat 0), .bool true, .bool true, .str [], .int .i64 (.ofNat 0), .int .i64 (.ofNat 0), .bool false, .bool false, .nils, .int .i64 (.ofNat 1), .int .i64 (.ofNat 2), .str [], .str [], .int .i64 (.ofNat 0), .int .i64 (.ofNat 0), .bool false, .bool false, .str [], .int .i64 (.ofNat 0), .int .i64 (.ofNat 0), .bool false, .bool false, .nils, .int .i64 (.ofNat 13), .int .i64 (.ofNat 0), .str [], .str [], .int .i64 (.ofNat 0), .int .i64 (.ofNat 0), .bool false, .bool false, .str [], .int .i64 (.ofNat 0), .int .i64 (.ofNat 0), .bool false, .bool false, .sl 1 0 2 2, .int .i64 (.ofNat 5), .int .i64 (.ofNat 0), .str [], .str [], .int .i64 (.ofNat 2), .int .i64 (.ofNat 1), .bool false, .bool false, .str [], .int .i64 (.ofNat 0), .int .i64 (.ofNat 0), .bool false, .bool false, .nils, .int .i64 (.ofNat 2), .int .i64 (.ofNat 0), .str [120], .str [], .int .i64 (.ofNat 0), .int .i64 (.ofNat 0), .bool false, .bool false, .str [], .int .i64 (.ofNat 0), .int .i64 (.ofNat 0), .bool false, .bool false, .nils, .int .i64 (.ofNat 7), .int .i64 (.ofNat 0), .str [73, 70], .str [], .int .i64 (.ofNat 0), .int .i64 (.ofNat 0), .bool false, .bool false, .str [], .int .i64 (.ofNat 0), .int .i64 (.ofNat 0), .bool false, .bool false, .slo 2 0 3 3 1] 66 false, .cells [.int .i64 (.ofNat 0), .int .i64 (.ofNat 1)] 3 false, .cells [.int .i64 (.ofNat 2), .int .i64 (.ofNat 3), .int .i64 (.ofNat 4)] 3 false]⟩
theorem dpR16_run : look [339, 302, 336] 348 (callOf (Ed) (exec (Ed) 3000) 16 dpR16.al ⟨.leaf, 0⟩) = some (dpR16.v.ren (rn [339, 302, 336] 348), dpR16.bs.map (Blk.ren (rn [339, 302, 336] 348))) := by kernel_rfl
theorem dpR16_ok [Sy] (hg : GlobOK Tryz.prog Sy.tab globs) : MemoOK Tryz.prog 16 dpR16 :=
  @memoOK_of _ Tryz.prog (Ed) (envD hg) (@idleD _) (@hooksD _) nameOK 16 3000 348 [339, 302, 336] dpR16 dpR16_run rfl rfl (by decide)
def dpR17 : Memo := ⟨[.str [61, 49, 47, 49]], .tup [.slo 0 0 3 3 14, .bool true], [.cells [.int .i64 (.ofNat 1), .int .i64 (.ofNat 1), .str [], .str [], .int .i64 (.ofNat 0), .int .i64 (.ofNat 0), .bool false, .bool false, .str [], .int .i64 (.ofNat 0), .int .i64 (.ofNat 0), .bool false, .bool false, .nils, .int .i64 (.ofNat 1), .int .i64 (.ofNat 1), .str [], .str [], .int .i64 (.ofNat 0), .int .i64 (.ofNat 0), .bool false, .bool false, .str [], .int .i64 (.ofNat 0), .int .i64 (.ofNat 0), .bool false, .bool false, .nils, .int .i64 (.ofNat 19), .int .i64 (.ofNat 0), .str [], .str [], .int .i64 (.ofNat 0), .int .i64 (.ofNat 0), .bool false, .bool false, .str [], .int .i64 (.ofNat 0), .int .i64 (.ofNat 0), .bool false, .bool false, .sl 1 0 2 2] 66 false, .cells [.int .i64 (.ofNat 0), .int .i64 (.ofNat 1)] 3 false]⟩
theorem dpR17_run : look [98, 95] 105 (callOf (Ed) (exec (Ed) 3000) 16 dpR17.al ⟨.leaf, 0⟩) = some (dpR17.v.ren (rn [98, 95] 105), dpR17.bs.map (Blk.ren (rn [98, 95] 105))) := by kernel_rfl
theorem dpR17_ok [Sy] (hg : GlobOK Tryz.prog Sy.tab globs) : MemoOK Tryz.prog 16 dpR17 :=
  @memoOK_of _ Tryz.prog (Ed) (envD hg) (@idleD _) (@hooksD _) nameOK 16 3000 105 [98, 95] dpR17 dpR17_run rfl rfl (by decide)
def dpR18 : Memo := ⟨[.str [50]], .tup [.nils, .bool false], []⟩
theorem dpR18_run : look [] 0 (callOf (Ed) (exec (Ed) 3000) 16 dpR18.al ⟨.leaf, 0⟩) = some (dpR18.v.ren (rn [] 0), dpR18.bs.map (Blk.ren (rn [] 0))) := by kernel_rfl
theorem dpR18_ok [Sy] (hg : GlobOK Tryz.prog Sy.tab globs) : MemoOK Tryz.prog 16 dpR18 :=
  @memoOK_of _ Tryz.prog (Ed) (envD hg) (@idleD _) (@hooksD _) nameOK 16 3000 0 [] dpR18 dpR18_run rfl rfl (by decide)
def dpR19 : Memo := ⟨[.str [39, 99]], .tup [.nils, .bool false], []⟩
theorem dpR19_run : look [] 0 (callOf (Ed) (exec (Ed) 3000) 16 dpR19.al ⟨.leaf, 0⟩) = some (dpR19.v.ren (rn [] 0), dpR19.bs.map (Blk.ren (rn [] 0))) := by kernel_rfl
theorem dpR19_ok [Sy] (hg : GlobOK Tryz.prog Sy.tab globs) : MemoOK Tryz.prog 16 dpR19 :=
  @memoOK_of _ Tryz.prog (Ed) (envD hg) (@idleD _) (@hooksD _) nameOK 16 3000 0 [] dpR19 dpR19_run rfl rfl (by decide)
def dpR20 : Memo := ⟨[.str [61, 65, 51]], .tup [.slo 0 0 1 1 14, .bool true], [.cells [.int .i64 (.ofNat 5), .int .i64 (.ofNat 0), .str [], .str [], .int .i64 (.ofNat 0), .int .i64 (.ofNat 2), .bool false, .bool false, .str [], .int .i64 (.ofNat 0), .int .i64 (.ofNat 0), .bool false, .bool false, .nils] 66 false]⟩
theorem dpR20_run : look [67] 76 (callOf (Ed) (exec (Ed) 3000) 16 dpR20.al ⟨.leaf, 0⟩) = some (dpR20.v.ren (rn [67] 76), dpR20.bs.map (Blk.ren (rn [67] 76))) := by kernel_rfl
theorem dpR20_ok [Sy] (hg : GlobOK Tryz.prog Sy.tab globs) : MemoOK Tryz.prog 16 dpR20 :=
  @memoOK_of _ Tryz.prog (Ed) (envD hg) (@idleD _) (@hooksD _) nameOK 16 3000 76 [67] dpR20 dpR20_run rfl rfl (by decide)
def dpR21 : Memo := ⟨[.str [61, 66, 51, 43, 49]], .tup [.slo 0 0 3 3 14, .bool true], [.cells [.int .i64 (.ofNat 5), .int .i64 (.ofNat 0), .str [], .str [], .int .i64 (.ofNat 1), .int .i64 (.ofNat 2), .bool false, .bool false, .str [], .int .i64 (.ofNat 0), .int .i64 (.ofNat 0), .bool false, .bool false, .nils, .int .i64 (.ofNat 1), .int .i64 (.ofNat 1), .str [], .str [], .int .i64 (.ofNat 0), .int .i64 (.ofNat 0), .bool false, .bool false, .str [], .int .i64 (.ofNat 0), .int .i64 (.ofNat 0), .bool false, .bool false, .nils, .int .i64 (.ofNat 16), .int .i64 (.ofNat 0), .str [], .str [], .int .i64 (.ofNat 0), .int .i64 (.ofNat 0), .bool false, .bool false, .str [], .int .i64 (.ofNat 0), .int .i64 (.ofNat 0), .bool false, .bool false, .sl 1 0 2 2] 66 false, .cells [.int .i64 (.ofNat 0), .int .i64 (.ofNat 1)] 3 false]⟩
theorem dpR21_run : look [125, 122] 130 (callOf (Ed) (exec (Ed) 3000) 16 dpR21.al ⟨.leaf, 0⟩) = some (dpR21.v.ren (rn [125, 122] 130), dpR21.bs.map (Blk.ren (rn [125, 122] 130))) := by kernel_rfl
theorem dpR21_ok [Sy] (hg : GlobOK Tryz.prog Sy.tab globs) : MemoOK Tryz.prog 16 dpR21 :=
  @memoOK_of _ Tryz.prog (Ed) (envD hg) (@idleD _) (@hooksD _) nameOK 16 3000 130 [125, 122] dpR21 dpR21_run rfl rfl (by decide)
def dpR22 : Memo := ⟨[.str [61, 83, 85, 77, 40, 65, 49, 58, 66, 51, 41]], .tup [.slo 0 0 2 2 14, .bool true], [.cells [.int .i64 (.ofNat 6), .int .i64 (.ofNat 0), .str [], .str [], .int .i64 (.ofNat 0), .int .i64 (.ofNat 0), .bool false, .bool false, .str [], .int .i64 (.ofNat 1), .int .i64 (.ofNat 2), .bool false, .bool false, .nils, .int .i64 (.ofNat 7), .int .i64 (.ofNat 0), .str [83, 85, 77], .str [], .int .i64 (.ofNat 0), .int .i64 (.ofNat 0), .bool false, .bool false, .str [], .int .i64 (.ofNat 0), .int .i64 (.ofNat 0), .bool false, .bool false, .slo 1 0 1 1 1] 66 false, .cells [.int .i64 (.ofNat 0)] 3 false]⟩
theorem dpR22_run : look [183, 180] 192 (callOf (Ed) (exec (Ed) 3000) 16 dpR22.al ⟨.leaf, 0⟩) = some (dpR22.v.ren (rn [183, 180] 192), dpR22.bs.map (Blk.ren (rn [183, 180] 192))) := by kernel_rfl
theorem dpR22_ok [Sy] (hg : GlobOK Tryz.prog Sy.tab globs) : MemoOK Tryz.prog 16 dpR22 :=
  @memoOK_of _ Tryz.prog (Ed) (envD hg) (@idleD _) (@hooksD _) nameOK 16 3000 192 [183, 180] dpR22 dpR22_run rfl rfl (by decide)
def dpR23 : Memo := ⟨[.str [61, 66, 33, 67, 50, 42, 50]], .tup [.slo 0 0 3 3 14, .bool true], [.cells [.int .i64 (.ofNat 5), .int .i64 (.ofNat 0), .str [], .str [66], .int .i64 (.ofNat 2), .int .i64 (.ofNat 1), .bool false, .bool false, .str [], .int .i64 (.ofNat 0), .int .i64 (.ofNat 0), .bool false, .bool false, .nils, .int .i64 (.ofNat 1), .int .i64 (.ofNat 2), .str [], .str [], .int .i64 (.ofNat 0), .int .i64 (.ofNat 0), .bool false, .bool false, .str [], .int .i64 (.ofNat 0), .int .i64 (.ofNat 0), .bool false, .bool false, .nils, .int .i64 (.ofNat 18), .int .i64 (.ofNat 0), .str [], .str [], .int .i64 (.ofNat 0), .int .i64 (.ofNat 0), .bool false, .bool false, .str [], .int .i64 (.ofNat 0), .int .i64 (.ofNat 0), .bool false, .bool false, .sl 1 0 2 2] 66 false, .cells [.int .i64 (.ofNat 0), .int .i64 (.ofNat 1)] 3 false]⟩
theorem dpR23_run : look [119, 116] 126 (callOf (Ed) (exec (Ed) 3000) 16 dpR23.al ⟨.leaf, 0⟩) = some (dpR23.v.ren (rn [119, 116] 126), dpR23.bs.map (Blk.ren (rn [119, 116] 126))) := by kernel_rfl
theorem dpR23_ok [Sy] (hg : GlobOK Tryz.prog Sy.tab globs) : MemoOK Tryz.prog 16 dpR23 :=
  @memoOK_of _ Tryz.prog (Ed) (envD hg) (@idleD _) (@hooksD _) nameOK 16 3000 126 [119, 116] dpR23 dpR23_run rfl rfl (by decide)
def dpR24 : Memo := ⟨[.str [61, 73, 70, 40, 36, 65, 36, 49, 62, 50, 44, 67, 51, 44, 34, 120, 34, 41]], .tup [.slo 0 0 6 6 14, .bool true], [.cells [.int .i64 (.ofNat 5), .int .i64 (.ofNat 0), .str [], .str [], .int .i64 (.ofNat 0), .int .i64 (.ofNat 0), .bool true, .bool true, .str [], .int .i64 (.ofNat 0), .int .i64 (.ofNat 0), .bool false, .bool false, .nils, .int .i64 (.ofNat 1), .int .i64 (.ofNat 2), .str [], .str [], .int .i64 (.ofNat 0), .int .i64 (.ofNat 0), .bool false, .bool false, .str [], .int .i64 (.ofNat 0), .int .i64 (.ofNat 0), .bool false, .bool false, .nils, .int .i64 (.ofNat 13), .int .i64 (.ofNat 0), .str [], .str [], .int .i64 (.ofNat 0), .int .i64 (.ofNat 0), .bool false, .bool false, .str [], .int .i64 (.ofNat 0), .int .i64 (.ofNat 0), .bool false, .bool false, .sl 1 0 2 2, .int .i64 (.ofNat 5), .int .i64 (.ofNat 0), .str [], .str [], .int .i64 (.ofNat 2), .int .i64 (.ofNat 2), .bool false, .bool false, .str [], .int .i64 (.ofNat 0), .int .i64 (.ofNat 0), .bool false, .bool false, .nils, .int .i64 (.ofNat 2), .int .i64 (.ofNat 0), .str [120], .str [], .int .i64 (.ofNat 0), .int .i64 (.ofNat 0), .bool false, .bool false, .str [], .int .i64 (.ofNat 0), .int .i64 (.ofNat 0), .bool false, .bool false, .nils, .int .i64 (.ofNat 7), .int .i64 (.ofNat 0), .str [73, 70], .str [], .int .i64 (.ofNat 0), .int .i64 (.ofNat 0), .bool false, .bool false, .str [], .int .i64 (.ofNat 0), .int .i64 (.ofNat 0), .bool false, .bool false, .slo 2 0 3 3 1] 66 false, .cells [.int .i64 (.ofNat 0), .int .i64 (.ofNat 1)] 3 false, .cells [.int .i64 (.ofNat 2), .int .i64 (.ofNat 3), .int .i64 (.ofNat 4)] 3 false]⟩
theorem dpR24_run : look [339, 302, 336] 348 (callOf (Ed) (exec (Ed) 3000) 16 dpR24.al ⟨.leaf, 0⟩) = some (dpR24.v.ren (rn [339, 302, 336] 348), dpR24.bs.map (Blk.ren (rn [339, 302, 336] 348))) := by kernel_rfl
theorem dpR24_ok [Sy] (hg : GlobOK Tryz.prog Sy.tab globs) : MemoOK Tryz.prog 16 dpR24 :=
  @memoOK_of _ Tryz.prog (Ed) (envD hg) (@idleD _) (@hooksD _) nameOK 16 3000 348 [339, 302, 336] dpR24 dpR24_run rfl rfl (by decide)
def dpR25 : Memo := ⟨[.str [51]], .tup [.nils, .bool false], []⟩
theorem dpR25_run : look [] 0 (callOf (Ed) (exec (Ed) 3000) 16 dpR25.al ⟨.leaf, 0⟩) = some (dpR25.v.ren (rn [] 0), dpR25.bs.map (Blk.ren (rn [] 0))) := by kernel_rfl
theorem dpR25_ok [Sy] (hg : GlobOK Tryz.prog Sy.tab globs) : MemoOK Tryz.prog 16 dpR25 :=
  @memoOK_of _ Tryz.prog (Ed) (envD hg) (@idleD _) (@hooksD _) nameOK 16 3000 0 [] dpR25 dpR25_run rfl rfl (by decide)
def dpR26 : Memo := ⟨[.str [39, 100]], .tup [.nils, .bool false], []⟩
theorem dpR26_run : look [] 0 (callOf (Ed) (exec (Ed) 3000) 16 dpR26.al ⟨.leaf, 0⟩) = some (dpR26.v.ren (rn [] 0), dpR26.bs.map (Blk.ren (rn [] 0))) := by kernel_rfl
theorem dpR26_ok [Sy] (hg : GlobOK Tryz.prog Sy.tab globs) : MemoOK Tryz.prog 16 dpR26 :=
  @memoOK_of _ Tryz.prog (Ed) (envD hg) (@idleD _) (@hooksD _) nameOK 16 3000 0 [] dpR26 dpR26_run rfl rfl (by decide)
def dpR27 : Memo := ⟨[.str [61, 65, 52]], .tup [.slo 0 0 1 1 14, .bool true], [.cells [.int .i64 (.ofNat 5), .int .i64 (.ofNat 0), .str [], .str [], .int .i64 (.ofNat 0), .int .i64 (.ofNat 3), .bool false, .bool false, .str [], .int .i64 (.ofNat 0), .int .i64 (.ofNat 0), .bool false, .bool false, .nils] 66 false]⟩
theorem dpR27_run : look [67] 76 (callOf (Ed) (exec (Ed) 3000) 16 dpR27.al ⟨.leaf, 0⟩) = some (dpR27.v.ren (rn [67] 76), dpR27.bs.map (Blk.ren (rn [67] 76))) := by kernel_rfl
theorem dpR27_ok [Sy] (hg : GlobOK Tryz.prog Sy.tab globs) : MemoOK Tryz.prog 16 dpR27 :=
  @memoOK_of _ Tryz.prog (Ed) (envD hg) (@idleD _) (@hooksD _) nameOK 16 3000 76 [67] dpR27 dpR27_run rfl rfl (by decide)
def dpR28 : Memo := ⟨[.str [61, 66, 52, 43, 49]], .tup [.slo 0 0 3 3 14, .bool true], [.cells [.int .i64 (.ofNat 5), .int .i64 (.ofNat 0), .str [], .str [], .int .i64 (.ofNat 1), .int .i64 (.ofNat 3), .bool false, .bool false, .str [], .int .i64 (.ofNat 0), .int .i64 (.ofNat 0), .bool false, .bool false, .nils, .int .i64 (.ofNat 1), .int .i64 (.ofNat 1), .str [], .str [], .int .i64 (.ofNat 0), .int .i64 (.ofNat 0), .bool false, .bool false, .str [], .int .i64 (.ofNat 0), .int .i64 (.ofNat 0), .bool false, .bool false, .nils, .int .i64 (.ofNat 16), .int .i64 (.ofNat 0), .str [], .str [], .int .i64 (.ofNat 0), .int .i64 (.ofNat 0), .bool false, .bool false, .str [], .int .i64 (.ofNat 0), .int .i64 (.ofNat 0), .bool false, .bool false, .sl 1 0 2 2] 66 false, .cells [.int .i64 (.ofNat 0), .int .i64 (.ofNat 1)] 3 false]⟩
theorem dpR28_run : look [125, 122] 130 (callOf (Ed) (exec (Ed) 3000) 16 dpR28.al ⟨.leaf, 0⟩) = some (dpR28.v.ren (rn [125, 122] 130), dpR28.bs.map (Blk.ren (rn [125, 122] 130))) := by kernel_rfl
theorem dpR28_ok [Sy] (hg : GlobOK Tryz.prog Sy.tab globs) : MemoOK Tryz.prog 16 dpR28 :=
  @memoOK_of _ Tryz.prog (Ed) (envD hg) (@idleD _) (@hooksD _) nameOK 16 3000 130 [125, 122] dpR28 dpR28_run rfl rfl (by decide)
def dpR29 : Memo := ⟨[.str [61, 83, 85, 77, 40, 65, 49, 58, 66, 52, 41]], .tup [.slo 0 0 2 2 14, .bool true], [.cells [.int .i64 (.ofNat 6), .int .i64 (.ofNat 0), .str [], .str [], .int .i64 (.ofNat 0), .int .i64 (.ofNat 0), .bool false, .bool false, .str [], .int .i64 (.ofNat 1), .int .i64 (.ofNat 3), .bool false, .bool false, .nils, .int .i64 (.ofNat 7), .int .i64 (.ofNat 0), .str [83, 85, 77], .str [], .int .i64 (.ofNat 0), .int .i64 (.ofNat 0), .bool false, .bool false, .str [], .int .i64 (.ofNat 0), .int .i64 (.ofNat 0), .bool false, .bool false, .slo 1 0 1 1 1] 66 false, .cells [.int .i64 (.ofNat 0)] 3 false]⟩
theorem dpR29_run : look [183, 180] 192 (callOf (Ed) (exec (Ed) 3000) 16 dpR29.al ⟨.leaf, 0⟩) = some (dpR29.v.ren (rn [183, 180] 192), dpR29.bs.map (Blk.ren (rn [183, 180] 192))) := by kernel_rfl
theorem dpR29_ok [Sy] (hg : GlobOK Tryz.prog Sy.tab globs) : MemoOK Tryz.prog 16 dpR29 :=
  @memoOK_of _ Tryz.prog (Ed) (envD hg) (@idleD _) (@hooksD _) nameOK 16 3000 192 [183, 180] dpR29 dpR29_run rfl rfl (by decide)
def dpR30 : Memo := ⟨[.str [61, 66, 33, 68, 50, 42, 50]], .tup [.slo 0 0 3 3 14, .bool true], [.cells [.int .i64 (.ofNat 5), .int .i64 (.ofNat 0), .str [], .str [66], .int .i64 (.ofNat 3), .int .i64 (.ofNat 1), .bool false, .bool false, .str [], .int .i64 (.ofNat 0), .int .i64 (.ofNat 0), .bool false, .bool false, .nils, .int .i64 (.ofNat 1), .int .i64 (.ofNat 2), .str [], .str [], .int .i64 (.ofNat 0), .int .i64 (.ofNat 0), .bool false, .bool false, .str [], .int .i64 (.ofNat 0), .int .i64 (.ofNat 0), .bool false, .bool false, .nils, .int .i64 (.ofNat 18), .int .i64 (.ofNat 0), .str [], .str [], .int .i64 (.ofNat 0), .int .i64 (.ofNat 0), .bool false, .bool false, .str [], .int .i64 (.ofNat 0), .int .i64 (.ofNat 0), .bool false, .bool false, .sl 1 0 2 2] 66 false, .cells [.int .i64 (.ofNat 0), .int .i64 (.ofNat 1)] 3 false]⟩
theorem dpR30_run : look [119, 116] 126 (callOf (Ed) (exec (Ed) 3000) 16 dpR30.al ⟨.leaf, 0⟩) = some (dpR30.v.ren (rn [119, 116] 126), dpR30.bs.map (Blk.ren (rn [119, 116] 126))) := by kernel_rfl
theorem dpR30_ok [Sy] (hg : GlobOK Tryz.prog Sy.tab globs) : MemoOK Tryz.prog 16 dpR30 :=
  @memoOK_of _ Tryz.prog (Ed) (envD hg) (@idleD _) (@hooksD _) nameOK 16 3000 126 [119, 116] dpR30 dpR30_run rfl rfl (by decide)
def dpR31 : Memo := ⟨[.str [61, 73, 70, 40, 36, 65, 36, 49, 62, 50, 44, 67, 52, 44, 34, 120, 34, 41]], .tup [.slo 0 0 6 6 14, .bool true], [.cells [.int .i64 (.ofNat 5), .int .i64 (.ofNat 0), .str [], .str [], .int .i64 (.ofNat 0), .int .i64 (.ofNat 0), .bool true, .bool true, .str [], .int .i64 (.ofNat 0), .int .i64 (.ofNat 0), .bool false, .bool false, .nils, .int .i64 (.ofNat 1), .int .i64 (.ofNat 2), .str [], .str [], .int .i64 (.ofNat 0), .int .i64 (.ofNat 0), .bool false, .bool false, .str [], .int .i64 (.ofNat 0), .int .i64 (.ofNat 0), .bool false, .bool false, .nils, .int .i64 (.ofNat 13), .int .i64 (.ofNat 0), .str [], .str [], .int .i64 (.ofNat 0), .int .i64 (.ofNat 0), .bool false, .bool false, .str [], .int .i64 (.ofNat 0), .int .i64 (.ofNat 0), .bool false, .bool false, .sl 1 0 2 2, .int .i64 (.ofNat 5), .int .i64 (.ofNat 0), .str [], .str [], .int .i64 (.ofNat 2), .int .i64 (.ofNat 3), .bool false, .bool false, .str [], .int .i64 (.ofNat 0), .int .i64 (.ofNat 0), .bool false, .bool false, .nils, .int .i64 (.ofNat 2), .int .i64 (.ofNat 0), .str [120], .str [], .int .i64 (.ofNat 0), .int .i64 (.ofNat 0), .bool false, .bool false, .str [], .int .i64 (.ofNat 0), .int .i64 (.ofNat 0), .bool false, .bool false, .nils, .int .i64 (.ofNat 7), .int .i64 (.ofNat 0), .str [73, 70], .str [], .int .i64 (.ofNat 0), .int .i64 (.ofNat 0), .bool false, .bool false, .str [], .int .i64 (.ofNat 0), .int .i64 (.ofNat 0), .bool false, .bool false, .slo 2 0 3 3 1] 66 false, .cells [.int .i64 (.ofNat 0), .int .i64 (.ofNat 1)] 3 false, .cells [.int .i64 (.ofNat 2), .int .i64 (.ofNat 3), .int .i64 (.ofNat 4)] 3 false]⟩
theorem dpR31_run : look [339, 302, 336] 348 (callOf (Ed) (exec (Ed) 3000) 16 dpR31.al ⟨.leaf, 0⟩) = some (dpR31.v.ren (rn [339, 302, 336] 348), dpR31.bs.map (Blk.ren (rn [339, 302, 336] 348))) := by kernel_rfl
theorem dpR31_ok [Sy] (hg : GlobOK Tryz.prog Sy.tab globs) : MemoOK Tryz.prog 16 dpR31 :=
  @memoOK_of _ Tryz.prog (Ed) (envD hg) (@idleD _) (@hooksD _) nameOK 16 3000 348 [339, 302, 336] dpR31 dpR31_run rfl rfl (by decide)
def dpR32 : Memo := ⟨[.str [52]], .tup [.nils, .bool false], []⟩
theorem dpR32_run : look [] 0 (callOf (Ed) (exec (Ed) 3000) 16 dpR32.al ⟨.leaf, 0⟩) = some (dpR32.v.ren (rn [] 0), dpR32.bs.map (Blk.ren (rn [] 0))) := by kernel_rfl
theorem dpR32_ok [Sy] (hg : GlobOK Tryz.prog Sy.tab globs) : MemoOK Tryz.prog 16 dpR32 :=
  @memoOK_of _ Tryz.prog (Ed) (envD hg) (@idleD _) (@hooksD _) nameOK 16 3000 0 [] dpR32 dpR32_run rfl rfl (by decide)
def dpR33 : Memo := ⟨[.str [39, 101]], .tup [.nils, .bool false], []⟩
theorem dpR33_run : look [] 0 (callOf (Ed) (exec (Ed) 3000) 16 dpR33.al ⟨.leaf, 0⟩) = some (dpR33.v.ren (rn [] 0), dpR33.bs.map (Blk.ren (rn [] 0))) := by kernel_rfl
theorem dpR33_ok [Sy] (hg : GlobOK Tryz.prog Sy.tab globs) : MemoOK Tryz.prog 16 dpR33 :=
  @memoOK_of _ Tryz.prog (Ed) (envD hg) (@idleD _) (@hooksD _) nameOK 16 3000 0 [] dpR33 dpR33_run rfl rfl (by decide)
def dpR34 : Memo := ⟨[.str [61, 65, 53]], .tup [.slo 0 0 1 1 14, .bool true], [.cells [.int .i64 (.ofNat 5), .int .i64 (.ofNat 0), .str [], .str [], .int .i64 (.ofNat 0), .int .i64 (.ofNat 4), .bool false, .bool false, .str [], .int .i64 (.ofNat 0), .int .i64 (.ofNat 0), .bool false, .bool false, .nils] 66 false]⟩
theorem dpR34_run : look [67] 76 (callOf (Ed) (exec (Ed) 3000) 16 dpR34.al ⟨.leaf, 0⟩) = some (dpR34.v.ren (rn [67] 76), dpR34.bs.map (Blk.ren (rn [67] 76))) := by kernel_rfl
theorem dpR34_ok [Sy] (hg : GlobOK Tryz.prog Sy.tab globs) : MemoOK Tryz.prog 16 dpR34 :=
  @memoOK_of _ Tryz.prog (Ed) (envD hg) (@idleD _) (@hooksD _) nameOK 16 3000 76 [67] dpR34 dpR34_run rfl rfl (by decide)
def dpR35 : Memo := ⟨[.str [61, 83, 85, 77, 40, 65, 49, 58, 66, 53, 41]], .tup [.slo 0 0 2 2 14, .bool true], [.cells [.int .i64 (.ofNat 6), .int .i64 (.ofNat 0), .str [], .str [], .int .i64 (.ofNat 0), .int .i64 (.ofNat 0), .bool false, .bool false, .str [], .int .i64 (.ofNat 1), .int .i64 (.ofNat 4), .bool false, .bool false, .nils, .int .i64 (.ofNat 7), .int .i64 (.ofNat 0), .str [83, 85, 77], .str [], .int .i64 (.ofNat 0), .int .i64 (.ofNat 0), .bool false, .bool false, .str [], .int .i64 (.ofNat 0), .int .i64 (.ofNat 0), .bool false, .bool false, .slo 1 0 1 1 1] 66 false, .cells [.int .i64 (.ofNat 0)] 3 false]⟩
theorem dpR35_run : look [183, 180] 192 (callOf (Ed) (exec (Ed) 3000) 16 dpR35.al ⟨.leaf, 0⟩) = some (dpR35.v.ren (rn [183, 180] 192), dpR35.bs.map (Blk.ren (rn [183, 180] 192))) := by kernel_rfl
theorem dpR35_ok [Sy] (hg : GlobOK Tryz.prog Sy.tab globs) : MemoOK Tryz.prog 16 dpR35 :=
  @memoOK_of _ Tryz.prog (Ed) (envD hg) (@idleD _) (@hooksD _) nameOK 16 3000 192 [183, 180] dpR35 dpR35_run rfl rfl (by decide)
def dpR36 : Memo := ⟨[.str [53]], .tup [.nils, .bool false], []⟩
theorem dpR36_run : look [] 0 (callOf (Ed) (exec (Ed) 3000) 16 dpR36.al ⟨.leaf, 0⟩) = some (dpR36.v.ren (rn [] 0), dpR36.bs.map (Blk.ren (rn [] 0))) := by kernel_rfl
theorem dpR36_ok [Sy] (hg : GlobOK Tryz.prog Sy.tab globs) : MemoOK Tryz.prog 16 dpR36 :=
  @memoOK_of _ Tryz.prog (Ed) (envD hg) (@idleD _) (@hooksD _) nameOK 16 3000 0 [] dpR36 dpR36_run rfl rfl (by decide)
def dpR37 : Memo := ⟨[.str [54]], .tup [.nils, .bool false], []⟩
theorem dpR37_run : look [] 0 (callOf (Ed) (exec (Ed) 3000) 16 dpR37.al ⟨.leaf, 0⟩) = some (dpR37.v.ren (rn [] 0), dpR37.bs.map (Blk.ren (rn [] 0))) := by kernel_rfl
theorem dpR37_ok [Sy] (hg : GlobOK Tryz.prog Sy.tab globs) : MemoOK Tryz.prog 16 dpR37 :=
  @memoOK_of _ Tryz.prog (Ed) (envD hg) (@idleD _) (@hooksD _) nameOK 16 3000 0 [] dpR37 dpR37_run rfl rfl (by decide)
def dpR38 : Memo := ⟨[.str [55]], .tup [.nils, .bool false], []⟩
theorem dpR38_run : look [] 0 (callOf (Ed) (exec (Ed) 3000) 16 dpR38.al ⟨.leaf, 0⟩) = some (dpR38.v.ren (rn [] 0), dpR38.bs.map (Blk.ren (rn [] 0))) := by kernel_rfl
theorem dpR38_ok [Sy] (hg : GlobOK Tryz.prog Sy.tab globs) : MemoOK Tryz.prog 16 dpR38 :=
  @memoOK_of _ Tryz.prog (Ed) (envD hg) (@idleD _) (@hooksD _) nameOK 16 3000 0 [] dpR38 dpR38_run rfl rfl (by decide)
def dpR39 : Memo := ⟨[.str [56]], .tup [.nils, .bool false], []⟩
theorem dpR39_run : look [] 0 (callOf (Ed) (exec (Ed) 3000) 16 dpR39.al ⟨.leaf, 0⟩) = some (dpR39.v.ren (rn [] 0), dpR39.bs.map (Blk.ren (rn [] 0))) := by kernel_rfl
theorem dpR39_ok [Sy] (hg : GlobOK Tryz.prog Sy.tab globs) : MemoOK Tryz.prog 16 dpR39 :=
  @memoOK_of _ Tryz.prog (Ed) (envD hg) (@idleD _) (@hooksD _) nameOK 16 3000 0 [] dpR39 dpR39_run rfl rfl (by decide)
def dpR : List Memo := [dpR0, dpR1, dpR2, dpR3, dpR4, dpR5, dpR6, dpR7, dpR8, dpR9, dpR10, dpR11, dpR12, dpR13, dpR14, dpR15, dpR16, dpR17, dpR18, dpR19, dpR20, dpR21, dpR22, dpR23, dpR24, dpR25, dpR26, dpR27, dpR28, dpR29, dpR30, dpR31, dpR32, dpR33, dpR34, dpR35, dpR36, dpR37, dpR38, dpR39]
theorem dpR_ok [Sy] (hg : GlobOK Tryz.prog Sy.tab globs) : ∀ m ∈ dpR, MemoOK Tryz.prog 16 m := by
  intro m hm
  simp only [dpR, List.mem_cons, List.not_mem_nil, or_false] at hm
  rcases hm with rfl | rfl | rfl | rfl | rfl | rfl | rfl | rfl | rfl | rfl | rfl | rfl | rfl | rfl | rfl | rfl | rfl | rfl | rfl | rfl | rfl | rfl | rfl | rfl | rfl | rfl | rfl | rfl | rfl | rfl | rfl | rfl | rfl | rfl | rfl | rfl | rfl | rfl | rfl | rfl
  · exact dpR0_ok hg
  · exact dpR1_ok hg
  · exact dpR2_ok hg
  · exact dpR3_ok hg
  · exact dpR4_ok hg
  · exact dpR5_ok hg
  · exact dpR6_ok hg
  · exact dpR7_ok hg
  · exact dpR8_ok hg
  · exact dpR9_ok hg
  · exact dpR10_ok hg
  · exact dpR11_ok hg
  · exact dpR12_ok hg
  · exact dpR13_ok hg
  · exact dpR14_ok hg
  · exact dpR15_ok hg
  · exact dpR16_ok hg
  · exact dpR17_ok hg
  · exact dpR18_ok hg
  · exact dpR19_ok hg
  · exact dpR20_ok hg
  · exact dpR21_ok hg
  · exact dpR22_ok hg
  · exact dpR23_ok hg
  · exact dpR24_ok hg
  · exact dpR25_ok hg
  · exact dpR26_ok hg
  · exact dpR27_ok hg
  · exact dpR28_ok hg
  · exact dpR29_ok hg
  · exact dpR30_ok hg
  · exact dpR31_ok hg
  · exact dpR32_ok hg
  · exact dpR33_ok hg
  · exact dpR34_ok hg
  · exact dpR35_ok hg
  · exact dpR36_ok hg
  · exact dpR37_ok hg
  · exact dpR38_ok hg
  · exact dpR39_ok hg
end
end VM
end Go.Proofs.YtlllhhjlfmhmlaaGreatDoor
namespace Go.Proofs.YtlllhhjlfmhmlaaGreatDoor
namespace VM
open Go
set_option linter.unusedSectionVars false
noncomputable section
def awakeMemo : Memo := ⟨[], .bool true, []⟩
variable [Sy]
theorem awakeMemo_run : look [] 1000000 (callOf E (exec E 3000) 8 awakeMemo.al ⟨.leaf, 0⟩) = some (awakeMemo.v.ren (rn [] 1000000), awakeMemo.bs.map (Blk.ren (rn [] 1000000))) := by kernel_rfl
set_option maxRecDepth 20000 in
theorem awakeMemo_ok : MemoOK Tryz.prog 8 awakeMemo :=
  @memoOK_of _ Tryz.prog E envOK (@idleOK _) (@hooksOK _) nameOK 8 3000 1000000 [] awakeMemo awakeMemo_run rfl rfl (by decide)
end
end VM
end Go.Proofs.YtlllhhjlfmhmlaaGreatDoor
namespace Go.Proofs.YtlllhhjlfmhmlaaGreatDoor.VM
open Go
noncomputable section
def CallF.le (f g : CallF) : Prop := ∀ a b c r, f a b c = some r → g a b c = some r
section
variable {E : Env} {f g : CallF}
theorem onNx_mono (hle : CallF.le f g) {s : St} {dst : Option Tmp} {r : R} {x : St} (h : onNx f s dst r = some x) : onNx g s dst r = some x := by
  unfold onNx at h ⊢
  split at h <;> first | exact h | skip
  rw [Option.bind_eq_some_iff] at h ⊢
  obtain ⟨p, h1, h2⟩ := h
  exact ⟨p, hle _ _ _ _ h1, h2⟩
theorem eStep_mono (hle : CallF.le f g) {ops : List Oper} {o : Oper} {s x : St} (h : eStep E f ops o s = some x) : eStep E g ops o s = some x := by
  unfold eStep at h ⊢
  rw [Option.bind_eq_some_iff] at h ⊢
  obtain ⟨w, h1, h2⟩ := h
  refine ⟨w, h1, ?_⟩
  cases w with
  | true => exact onNx_mono hle h2
  | false => exact h2
theorem opStep_mono (hle : CallF.le f g) {ops : List Oper} {o : Oper} {s x : St} (h : opStep E f ops o s = some x) : opStep E g ops o s = some x := by
  unfold opStep at h ⊢
  cases hE : isE o.op with
  | true => rw [hE] at h; exact eStep_mono hle h
  | false => rw [hE] at h; exact h
theorem opsRun_mono (hle : CallF.le f g) {ops : List Oper} : ∀ {l : List Oper} {s x : St}, opsRun E f ops l s = some x → opsRun E g ops l s = some x
  | [], _, _, h => h
  | o :: l, s, x, h => by
    rw [opsRun] at h ⊢
    cases h1 : opStep E f ops o s with
    | none => rw [h1] at h; cases h
    | some s' => rw [h1] at h; rw [opStep_mono hle h1]; exact opsRun_mono hle h
theorem planRun_mono (hle : CallF.le f g) {ops : List Oper} : ∀ {l : List PStep} {pd : List (Nat × Oper × PR)} {s x : St}, planRun E f ops l pd s = some x → planRun E g ops l pd s = some x
  | [], _, _, _, h => h
  | .n i o :: l, pd, s, x, h => by
    rw [planRun] at h ⊢
    cases h1 : nStep E ops o s with
    | none => rw [h1] at h; cases h
    | some p =>
      rw [h1] at h
      simp only at h ⊢
      cases h2 : s.take o.dst p with
      | none => rw [h2] at h; cases h
      | some s' =>
        rw [h2] at h
        simp only at h ⊢
        cases h3 : stillAll E s' pd p with
        | false => rw [h3] at h; cases h
        | true => rw [h3] at h; exact planRun_mono hle h
  | .e i o m :: l, pd, s, x, h => by
    rw [planRun] at h ⊢
    cases h1 : eStep E f ops o s with
    | none => rw [h1] at h; cases h
    | some s' =>
      rw [h1] at h
      rw [eStep_mono hle h1]
      simp only at h ⊢
      cases h3 : (pd.filter fun p => !Nat.testBit m p.1).all (still E s') with
      | false => rw [h3] at h; cases h
      | true => rw [h3] at h; exact planRun_mono hle h
theorem regRun_mono (hle : CallF.le f g) {ops : List Oper} {d : Bool} {s x : St} (h : regRun E f ops d s = some x) : regRun E g ops d s = some x := by
  cases d with
  | false => exact opsRun_mono hle h
  | true =>
    rw [regRun] at h ⊢
    cases h1 : planOf ops with
    | none => rw [h1] at h; cases h
    | some p => rw [h1] at h; exact planRun_mono hle h
theorem finOf_some {fn : Func} {r : Option (Ex × St)} {x : V × Hp} (h : finOf E fn r = some x) : ∃ p, r = some p := by
  cases r with
  | none => cases h
  | some p => exact ⟨p, rfl⟩
theorem callOf_mono {a b : Code → St → Option (Ex × St)} (hle : ∀ c s r, a c s = some r → b c s = some r) : CallF.le (callOf E a) (callOf E b) := by
  intro k al h r hr
  unfold callOf at hr ⊢
  split at hr
  · exact hr
  · split at hr
    · unfold callFn at hr ⊢
      split at hr
      · cases hr
      · rename_i fn _ _ c _
        cases hb : Nat.ble al.length fn.ntmps with
        | false => rw [hb] at hr; cases hr
        | true =>
          rw [hb] at hr
          simp only [cond_true] at hr ⊢
          obtain ⟨p, hp⟩ := finOf_some hr
          rw [hle _ _ _ hp, ← hp]
          exact hr
    · cases hr
theorem exec_mono : ∀ (n : Nat) (c : Code) (s : St) (r : Ex × St), exec E n c s = some r → exec E (n + 1) c s = some r
  | 0, _, _, _, h => by cases h
  | n + 1, c, s, r, h => by
    have ih := exec_mono n
    cases c <;> first | exact h | (cases h; done) | skip
    case region id ops d =>
      change ndRegion (regRun E (callOf E (exec E n)) ops.toList d s) = some r at h
      show ndRegion (regRun E (callOf E (exec E (n + 1))) ops.toList d s) = some r
      cases h1 : regRun E (callOf E (exec E n)) ops.toList d s with
      | none => rw [h1] at h; cases h
      | some s' => rw [h1] at h; rw [regRun_mono (callOf_mono ih) h1]; exact h
    case seq a b =>
      change ndNormal (exec E n b) (exec E n a s) = some r at h
      show ndNormal (exec E (n + 1) b) (exec E (n + 1) a s) = some r
      cases h1 : exec E n a s with
      | none => rw [h1] at h; cases h
      | some p =>
        obtain ⟨e, s'⟩ := p
        rw [h1] at h
        rw [ih _ _ _ h1]
        cases e <;> first | exact ih _ _ _ h | exact h
    case cond c a b =>
      change ndCond (fun _ => exec E n a s) (fun _ => exec E n b s) (ev s.t c) = some r at h
      show ndCond (fun _ => exec E (n + 1) a s) (fun _ => exec E (n + 1) b s) (ev s.t c) = some r
      generalize ev s.t c = v at h ⊢
      unfold ndCond at h ⊢
      split at h <;> first | exact ih _ _ _ h | cases h
    case block id c =>
      change ndBlock id (exec E n c s) = some r at h
      show ndBlock id (exec E (n + 1) c s) = some r
      cases h1 : exec E n c s with
      | none => rw [h1] at h; cases h
      | some p => rw [h1] at h; rw [ih _ _ _ h1]; exact h
    case loop c =>
      change ndNormal (exec E n (.loop c)) (exec E n c s) = some r at h
      show ndNormal (exec E (n + 1) (.loop c)) (exec E (n + 1) c s) = some r
      cases h1 : exec E n c s with
      | none => rw [h1] at h; cases h
      | some p =>
        obtain ⟨e, s'⟩ := p
        rw [h1] at h
        rw [ih _ _ _ h1]
        cases e <;> first | exact ih _ _ _ h | exact h
theorem exec_le {n m : Nat} (h : n ≤ m) {c : Code} {s : St} {r : Ex × St} (hr : exec E n c s = some r) : exec E m c s = some r := by
  induction h with
  | refl => exact hr
  | step _ ih => exact exec_mono _ _ _ _ ih
theorem callx_le {n m : Nat} (h : n ≤ m) : CallF.le (callOf E (exec E n)) (callOf E (exec E m)) := callOf_mono fun _ _ _ hr => exec_le h hr
/-- some number of steps tells -/
def Xs (E : Env) (c : Code) (s : St) (r : Ex × St) : Prop := ∃ n, exec E n c s = some r
def Cs (E : Env) (f : Nat) (al : List V) (h : Hp) (r : V × Hp) : Prop := ∃ n, callOf E (exec E n) f al h = some r
/-- what some steps tell of calls, told of an operation -/
def onNxs (E : Env) (s : St) (dst : Option Tmp) (r : R) (x : St) : Prop :=
  match r with
  | some (.enter f xs, h) => ∃ p, Cs E f xs h p ∧ s.put dst p.1 p.2 = some x
  | r => onNx (fun _ _ _ => none) s dst r = some x
theorem onNxs_some {s : St} {dst : Option Tmp} {r : R} {x : St} (h : onNxs E s dst r x) : ∃ n, onNx (callOf E (exec E n)) s dst r = some x := by
  unfold onNxs at h
  split at h
  · obtain ⟨p, ⟨n, h1⟩, h2⟩ := h
    exact ⟨n, by rw [onNx, h1]; exact h2⟩
  · exact ⟨0, onNx_mono (fun _ _ _ _ h => by cases h) h⟩
theorem Xs.skip (s : St) : Xs E .skip s (.normal, s) := ⟨1, rfl⟩
theorem Xs.exit (id : Nat) (s : St) : Xs E (.exit id) s (.exit id, s) := ⟨1, rfl⟩
theorem Xs.ret (s : St) : Xs E .ret s (.ret, s) := ⟨1, rfl⟩
theorem Xs.seq {a b : Code} {s s1 : St} {r : Ex × St} (h1 : Xs E a s (.normal, s1)) (h2 : Xs E b s1 r) : Xs E (.seq a b) s r := by
  obtain ⟨n, h1⟩ := h1
  obtain ⟨m, h2⟩ := h2
  exact ⟨max n m + 1, by show ndNormal (exec E _ b) (exec E _ a s) = _; rw [exec_le (Nat.le_max_left n m) h1]; exact exec_le (Nat.le_max_right n m) h2⟩
theorem Xs.seq_stop {a b : Code} {s s1 : St} {e : Ex} (h1 : Xs E a s (e, s1)) (he : e ≠ .normal) : Xs E (.seq a b) s (e, s1) := by
  obtain ⟨n, h1⟩ := h1
  exact ⟨n + 1, by show ndNormal (exec E _ b) (exec E _ a s) = _; rw [h1]; cases e <;> first | rfl | exact absurd rfl he⟩
theorem Xs.cond {c : Operand} {a b : Code} {s : St} {r : Ex × St} {v : Bool} (hv : ev s.t c = some (.bool v)) (h : Xs E (bif v then a else b) s r) : Xs E (.cond c a b) s r := by
  obtain ⟨n, h⟩ := h
  exact ⟨n + 1, by show ndCond (fun _ => exec E n a s) (fun _ => exec E n b s) (ev s.t c) = _; rw [hv]; cases v <;> exact h⟩
theorem Xs.block {id : Nat} {c : Code} {s s1 : St} {e : Ex} (h : Xs E c s (e, s1)) : Xs E (.block id c) s (match e with | .exit j => bif Nat.beq j id then (.normal, s1) else (.exit j, s1) | e => (e, s1)) := by
  obtain ⟨n, h⟩ := h
  refine ⟨n + 1, ?_⟩
  show ndBlock id (exec E n c s) = _
  rw [h]
  cases e with
  | exit j => simp only [ndBlock]; cases Nat.beq j id <;> rfl
  | normal => rfl
  | ret => rfl
theorem Xs.loop {c : Code} {s s1 : St} {r : Ex × St} (h1 : Xs E c s (.normal, s1)) (h2 : Xs E (.loop c) s1 r) : Xs E (.loop c) s r := by
  obtain ⟨n, h1⟩ := h1
  obtain ⟨m, h2⟩ := h2
  exact ⟨max n m + 1, by show ndNormal (exec E _ (.loop c)) (exec E _ c s) = _; rw [exec_le (Nat.le_max_left n m) h1]; exact exec_le (Nat.le_max_right n m) h2⟩
theorem Xs.loop_stop {c : Code} {s s1 : St} {e : Ex} (h1 : Xs E c s (e, s1)) (he : e ≠ .normal) : Xs E (.loop c) s (e, s1) := by
  obtain ⟨n, h1⟩ := h1
  exact ⟨n + 1, by show ndNormal (exec E _ (.loop c)) (exec E _ c s) = _; rw [h1]; cases e <;> first | rfl | exact absurd rfl he⟩
theorem Xs.region {id : Nat} {ops : Array Oper} {d : Bool} {s s1 : St} (h : ∃ n, regRun E (callOf E (exec E n)) ops.toList d s = some s1) : Xs E (.region id ops d) s (.normal, s1) := by
  obtain ⟨n, h⟩ := h
  exact ⟨n + 1, by show ndRegion (regRun E (callOf E (exec E n)) ops.toList d s) = _; rw [h]; rfl⟩
theorem Cs.of {f : Nat} {fn : Func} {c : Code} {al : List V} {h : Hp} {p : Ex × St} {r : V × Hp} (hk : E.hook f = none) (hf : E.fn.get f = some fn) (hb : fn.body = some c) (hl : al.length ≤ fn.ntmps)
    (hx : Xs E c ⟨T.ofL (al.map some) 0 .leaf, h, [], fn.ntmps⟩ p) (he : finOf E fn (some p) = some r) : Cs E f al h r := by
  obtain ⟨n, hx⟩ := hx
  refine ⟨n, ?_⟩
  unfold callOf
  rw [hk, hf]
  simp only [callFn, hb, Nat.ble_eq_true_of_le hl, cond_true, hx, he]
theorem Cs.hook {f : Nat} {g : List V → Hp → Option (V × Hp)} {al : List V} {h : Hp} {r : V × Hp} (hk : E.hook f = some g) (hg : g al h = some r) : Cs E f al h r := ⟨0, by unfold callOf; rw [hk]; exact hg⟩
/-- operations one after the other -/
theorem ops_cons {ops : List Oper} {o : Oper} {l : List Oper} {s s1 s2 : St} (h1 : ∃ n, opStep E (callOf E (exec E n)) ops o s = some s1) (h2 : ∃ n, opsRun E (callOf E (exec E n)) ops l s1 = some s2) : ∃ n, opsRun E (callOf E (exec E n)) ops (o :: l) s = some s2 := by
  obtain ⟨n, h1⟩ := h1
  obtain ⟨m, h2⟩ := h2
  exact ⟨max n m, by rw [opsRun, opStep_mono (callx_le (Nat.le_max_left n m)) h1]; exact opsRun_mono (callx_le (Nat.le_max_right n m)) h2⟩
theorem plan_n {ops : List Oper} {o : Oper} {i : Nat} {l : List PStep} {pd : List (Nat × Oper × PR)} {s s1 s2 : St} {p : PR} (h1 : nStep E ops o s = some p) (h2 : s.take o.dst p = some s1) (h3 : stillAll E s1 pd p = true)
    (h4 : ∃ n, planRun E (callOf E (exec E n)) ops l ((i, o, p) :: pd) s1 = some s2) : ∃ n, planRun E (callOf E (exec E n)) ops (.n i o :: l) pd s = some s2 := by
  obtain ⟨n, h4⟩ := h4
  exact ⟨n, by rw [planRun, h1]; simp only; rw [h2]; simp only; rw [h3]; exact h4⟩
theorem plan_e {ops : List Oper} {o : Oper} {i m : Nat} {l : List PStep} {pd : List (Nat × Oper × PR)} {s s1 s2 : St} (h1 : ∃ n, eStep E (callOf E (exec E n)) ops o s = some s1) (h3 : (pd.filter fun p => !Nat.testBit m p.1).all (still E s1) = true)
    (h4 : ∃ n, planRun E (callOf E (exec E n)) ops l (pd.filter fun p => !Nat.testBit m p.1) s1 = some s2) : ∃ n, planRun E (callOf E (exec E n)) ops (.e i o m :: l) pd s = some s2 := by
  obtain ⟨n, h1⟩ := h1
  obtain ⟨k, h4⟩ := h4
  refine ⟨max n k, ?_⟩
  rw [planRun, eStep_mono (callx_le (Nat.le_max_left n k)) h1]
  simp only
  rw [h3]
  exact planRun_mono (callx_le (Nat.le_max_right n k)) h4
end
end
end Go.Proofs.YtlllhhjlfmhmlaaGreatDoor.VM
namespace Go.Proofs.YtlllhhjlfmhmlaaGreatDoor.VM
open Go
noncomputable section
abbrev Sl := List V
abbrev u0 : V := .tup []
abbrev Dl := List (Nat × List V)
def nth (s : Sl) : Nat → V :=
  List.rec (motive := fun _ => Nat → V) (fun _ => undefV) (fun v _ ih n => Nat.rec (motive := fun _ => V) v (fun n _ => ih n) n) s
theorem nth_nil (n : Nat) : nth [] n = undefV := rfl
theorem nth_zero (v : V) (l : Sl) : nth (v :: l) 0 = v := rfl
theorem nth_succ (v : V) (l : Sl) (n : Nat) : nth (v :: l) (n + 1) = nth l n := rfl
def setK (w : V) (s : Sl) : Nat → (Sl → Prop) → Prop :=
  List.rec (motive := fun _ => Nat → (Sl → Prop) → Prop) (fun _ _ => False) (fun v l ih n => Nat.rec (motive := fun _ => (Sl → Prop) → Prop) (fun k => k (w :: l)) (fun n _ k => ih n fun l' => k (v :: l')) n) s
theorem setK_nil (w : V) (n : Nat) (k : Sl → Prop) : setK w [] n k = False := rfl
theorem setK_zero (w v : V) (l : Sl) (k : Sl → Prop) : setK w (v :: l) 0 k = k (w :: l) := rfl
theorem setK_succ (w v : V) (l : Sl) (n : Nat) (k : Sl → Prop) : setK w (v :: l) (n + 1) k = setK w l n fun l' => k (v :: l') := rfl
/-- what operations ask for -/
structure Pr where
  pick : V → Option V → Option V → (V → Prop) → Prop
  build : Nat → List (Nat × V) → (V → Prop) → Prop
  load : Hp → Nat → V → (V → Prop) → Prop
  nilc : V → (V → Prop) → Prop
  bin : BinOp → Nat → Bool → Bool → V → V → (V → Prop) → Prop
  un : UnOp → V → (V → Prop) → Prop
  conv : Hp → Nat → Nat → V → (V → Prop) → Prop
  iface : Nat → V → (V → Prop) → Prop
  slice : Nat → V → Option V → Option V → Option V → (V → Prop) → Prop
  faddr : Nat → V → Nat → (V → Prop) → Prop
  field : Nat → V → Nat → (V → Prop) → Prop
  iaddr : Nat → V → V → (V → Prop) → Prop
  index : Nat → V → V → (V → Prop) → Prop
  look : Hp → Nat → V → V → Bool → (V → Prop) → Prop
  assert : V → Nat → Bool → (V → Prop) → Prop
  extr : V → Nat → (V → Prop) → Prop
  lbui : Hp → Array TypeId → Builtin → List V → (V → Prop) → Prop
  alloc : Hp → Nat → (V → Hp → Blk → Prop) → Prop
  box : Hp → Nat → V → (V → Hp → Blk → Prop) → Prop
  bsl : Hp → Nat → Nat → List (Nat × V) → (V → Hp → Blk → Prop) → Prop
  mkmap : Hp → Bool → (V → Hp → Blk → Prop) → Prop
  mksl : Hp → Nat → V → V → (V → Hp → Blk → Prop) → Prop
  fconv : Hp → Nat → Nat → V → (V → Hp → Blk → Prop) → Prop
  store : Hp → Nat → V → V → (Hp → Prop) → Prop
  mapu : Hp → Nat → V → V → V → (Hp → Prop) → Prop
  mape : Hp → Nat → V → V → (V → Hp → Prop) → Prop
  ests : Hp → V → V → V → (Hp → Prop) → Prop
  ebui : Hp → Array TypeId → Builtin → List V → (V → Hp → Prop) → Prop
  call : Nat → List V → Hp → (V → Hp → Prop) → Prop
  callv : V → List V → Hp → (V → Hp → Prop) → Prop
  invk : V → String → List V → Hp → (V → Hp → Prop) → Prop
  dfr : V → List V → (Nat × List V → Prop) → Prop
  cond : V → (Unit → Prop) → (Unit → Prop) → Prop
  gval : V → Bool → ((V → Prop) → Prop) → (V → Prop) → Prop
  geff : V → Bool → ((V → Hp → Prop) → Prop) → Hp → (V → Hp → Prop) → Prop
  gchk : V → Bool → (Prop → Prop) → Prop → Prop
  same : V → V → Prop → Prop
  sameb : Hp → Nat → Blk → Prop → Prop
  idle : Dl → Prop → Prop
def evL (s : Sl) : Operand → Option V
  | .tmp i => some (nth s i)
  | .const v => ofVal v
  | .global g => some (.gptr g 0)
  | .func f => some (.fn (.func f) [] [])
def evK (s : Sl) (x : Operand) (k : V → Prop) : Prop :=
  match evL s x with
  | some v => k v
  | none => False
def evsK (s : Sl) : List Operand → (List V → Prop) → Prop
  | [], k => k []
  | x :: r, k => evK s x fun v => evsK s r fun l => k (v :: l)
def evoK (s : Sl) (x : Option Operand) (k : Option V → Prop) : Prop :=
  match x with
  | none => k none
  | some x => evK s x fun v => k (some v)
def partsK (s : Sl) : List (Nat × Operand) → (List (Nat × V) → Prop) → Prop
  | [], k => k []
  | (i, x) :: r, k => evK s x fun v => partsK s r fun l => k ((i, v) :: l)
def putK (s : Sl) (dst : Option Tmp) (v : V) (k : Sl → Prop) : Prop :=
  match dst with
  | none => k s
  | some i => setK v s i k
section
variable (p : Pr) (E : Env)
def lopK (s : Sl) (h : Hp) (op : Op) (k : V → Prop) : Prop :=
  match op with
  | .move x => evK s x k
  | .pick c a b => evK s c fun c => p.pick c (evL s a) (evL s b) k
  | .build ty ps => partsK s ps.toList fun l => p.build ty l k
  | .load ty a => evK s a fun a => p.load h ty a k
  | .nilCheck x => evK s x fun x => p.nilc x k
  | .binOp op ty x y _ => evK s x fun a => evK s y fun b => p.bin op ty (isConstO x) (isConstO y) a b k
  | .unOp op _ x => evK s x fun x => p.un op x k
  | .convert a d x => evK s x fun x => p.conv h a d x k
  | .makeInterface ty x => evK s x fun x => p.iface ty x k
  | .makeFunc f a c => evsK s a.toList fun a => evsK s c.toList fun c => k (.fn f a c)
  | .slice ty x lo hi mx => evK s x fun x => evoK s lo fun lo => evoK s hi fun hi => evoK s mx fun mx => p.slice ty x lo hi mx k
  | .fieldAddr ty x f => evK s x fun x => p.faddr ty x f k
  | .field ty x f => evK s x fun x => p.field ty x f k
  | .indexAddr ty x i => evK s x fun x => evK s i fun i => p.iaddr ty x i k
  | .index ty x i => evK s x fun x => evK s i fun i => p.index ty x i k
  | .lookup ty x q ok => evK s x fun x => evK s q fun q => p.look h ty x q ok k
  | .typeAssert x _ a ok => evK s x fun x => p.assert x a ok k
  | .extract x i => evK s x fun x => p.extr x i k
  | .call c => match c.callee with
    | .builtin b => evsK s c.args.toList fun al => p.lbui h c.argTypes b al k
    | _ => False
  | _ => False
def isSlT (d : TypeId) : Bool :=
  match E.ty.get d with
  | some i => (match i.k with | .sl _ => true | _ => false)
  | none => false
def isF (op : Op) : Bool :=
  match op with
  | .alloc _ | .box .. | .buildSlice .. | .makeMap .. | .makeSlice .. => true
  | .convert _ d _ => isSlT E d
  | _ => false
def fopK (s : Sl) (h : Hp) (op : Op) (k : V → Hp → Blk → Prop) : Prop :=
  match op with
  | .alloc e => p.alloc h e k
  | .box e x => evK s x fun x => p.box h e x k
  | .buildSlice ty n ps => partsK s ps.toList fun l => p.bsl h ty n l k
  | .makeMap _ r => p.mkmap h r.isNone k
  | .makeSlice ty l c => evK s l fun l => evK s c fun c => p.mksl h ty l c k
  | .convert a d x => evK s x fun x => p.fconv h a d x k
  | _ => False
def callK (s : Sl) (h : Hp) (c : Call) (k : V → Hp → Prop) : Prop :=
  evsK s c.args.toList fun al => match c.callee with
  | .value (.func f) => p.call f al h k
  | .value f => evK s f fun f => p.callv f al h k
  | .invoke r n => evK s r fun r => p.invk r n al h k
  | .builtin b => p.ebui h c.argTypes b al k
def effK (s : Sl) (h : Hp) (op : Op) (k : V → Hp → Prop) : Prop :=
  match op with
  | .assign x => evK s x fun x => k x h
  | .store ty a x => evK s a fun a => evK s x fun x => p.store h ty a x fun h' => k undefV h'
  | .mapUpdate ty m q x => evK s m fun m => evK s q fun q => evK s x fun x => p.mapu h ty m q x fun h' => k undefV h'
  | .insert ty m q x => evK s m fun m => evK s q fun q => evK s x fun x => p.mapu h ty m q x fun h' => k undefV h'
  | .mapEntry ty m q => evK s m fun m => evK s q fun q => p.mape h ty m q k
  | .entryStore _ m q x => evK s m fun m => evK s q fun q => evK s x fun x => p.ests h m q x fun h' => k undefV h'
  | .call c => callK p s h c k
  | _ => False
def guardOf (ops : List Oper) : Option (Nat × Bool) → Option (Option (Nat × Bool))
  | none => some none
  | some (j, w) => match ops[j]? with
    | some o => (match o.dst with | some g => some (some (g, w)) | none => none)
    | none => none
def opK (ops : List Oper) (o : Oper) (s : Sl) (h : Hp) (d : Dl) (k : Sl → Hp → Dl → Prop) : Prop :=
  match guardOf ops o.guard with
  | none => False
  | some none => (match o.op with
    | .defer c => (match c.callee with
      | .value f => evsK s c.args.toList fun al => evK s f fun f => p.dfr f al fun x => putK s o.dst undefV fun s' => k s' h (x :: d)
      | _ => False)
    | op => bif isE op then effK p s h op fun v h' => putK s o.dst v fun s' => k s' h' d
      else bif isF E op then fopK p s h op fun v h' _ => putK s o.dst v fun s' => k s' h' d
      else lopK p s h op fun v => putK s o.dst v fun s' => k s' h d)
  | some (some (g, w)) => bif isE o.op then p.geff (nth s g) w (fun k' => effK p s h o.op k') h fun v h' => putK s o.dst v fun s' => k s' h' d
      else bif isF E o.op then p.geff (nth s g) w (fun k' => fopK p s h o.op fun v h' _ => k' v h') h fun v h' => putK s o.dst v fun s' => k s' h' d
      else p.gval (nth s g) w (fun k' => lopK p s h o.op k') fun v => putK s o.dst v fun s' => k s' h d
def opsK (ops l : List Oper) : Sl → Hp → Dl → (Sl → Hp → Dl → Prop) → Prop :=
  List.rec (motive := fun _ => Sl → Hp → Dl → (Sl → Hp → Dl → Prop) → Prop) (fun s h d k => k s h d) (fun o _ ih s h d k => opK p E ops o s h d fun s' h' d' => ih s' h' d' k) l
theorem opsK_nil (ops : List Oper) (s : Sl) (h : Hp) (d : Dl) (k : Sl → Hp → Dl → Prop) : opsK p E ops [] s h d k = k s h d := rfl
theorem opsK_cons (ops : List Oper) (o : Oper) (l : List Oper) (s : Sl) (h : Hp) (d : Dl) (k : Sl → Hp → Dl → Prop) : opsK p E ops (o :: l) s h d k = opK p E ops o s h d fun s' h' d' => opsK p E ops l s' h' d' k := rfl
inductive PRk where
  | skip
  | l (v : V)
  | f (id : Nat) (b : Blk)
  | g (b : V) (w : Bool) (v : V)
def nK (ops : List Oper) (o : Oper) (s : Sl) (h : Hp) (k : PRk → V → Hp → Prop) : Prop :=
  match guardOf ops o.guard with
  | none => False
  | some none => bif isF E o.op then fopK p s h o.op fun v h' b => k (.f h.n b) v h' else lopK p s h o.op fun v => k (.l v) v h
  | some (some (g, w)) => bif isF E o.op then p.cond (nth s g)
      (fun _ => bif w then fopK p s h o.op fun v h' b => k (.f h.n b) v h' else k .skip undefV h)
      (fun _ => bif w then k .skip undefV h else fopK p s h o.op fun v h' b => k (.f h.n b) v h')
    else p.gval (nth s g) w (fun k' => lopK p s h o.op k') fun v => k (.g (nth s g) w v) v h
def eK (ops : List Oper) (o : Oper) (s : Sl) (h : Hp) (k : V → Hp → Prop) : Prop :=
  match guardOf ops o.guard with
  | none => False
  | some none => effK p s h o.op k
  | some (some (g, w)) => p.geff (nth s g) w (fun k' => effK p s h o.op k') h k
def reK (s : Sl) (h : Hp) (x : Nat × Oper × PRk) (k : Prop) : Prop :=
  match x.2.2 with
  | .skip => k
  | .l v => bif readsM x.2.1.op then lopK p s h x.2.1.op fun u => p.same u v k else k
  | .f id b => p.sameb h id b k
  | .g b w v => bif readsM x.2.1.op then p.gchk b w (fun k' => lopK p s h x.2.1.op fun u => p.same u v k') k else k
def reAll (s : Sl) (h : Hp) (l : List (Nat × Oper × PRk)) : Prop → Prop :=
  List.rec (motive := fun _ => Prop → Prop) (fun k => k) (fun x _ ih k => reK p s h x (ih k)) l
/-- those that wait on, made out at once -/
def leftK (m : Nat) (l : List (Nat × Oper × PRk)) : (List (Nat × Oper × PRk) → Prop) → Prop :=
  List.rec (motive := fun _ => (List (Nat × Oper × PRk) → Prop) → Prop) (fun k => k []) (fun x _ ih k => Bool.rec (motive := fun _ => Prop) (ih fun r => k (x :: r)) (ih k) (Nat.testBit m x.1)) l
def planK (ops : List Oper) (l : List PStep) : List (Nat × Oper × PRk) → Sl → Hp → Dl → (Sl → Hp → Dl → Prop) → Prop :=
  List.rec (motive := fun _ => List (Nat × Oper × PRk) → Sl → Hp → Dl → (Sl → Hp → Dl → Prop) → Prop) (fun _ s h d k => k s h d)
    (fun x _ ih pd s h d k => match x with
      | .n i o => nK p E ops o s h fun pr v h' => putK s o.dst v fun s' => match pr with
        | .f id b => reAll p s' h' pd (ih ((i, o, .f id b) :: pd) s' h' d k)
        | pr => ih ((i, o, pr) :: pd) s' h' d k
      | .e _ o m => eK p ops o s h fun v h' => putK s o.dst v fun s' => leftK m pd fun pd' => reAll p s' h' pd' (ih pd' s' h' d k)) l
theorem reAll_cons (s : Sl) (h : Hp) (x : Nat × Oper × PRk) (r : List (Nat × Oper × PRk)) (k : Prop) : reAll p s h (x :: r) k = reK p s h x (reAll p s h r k) := rfl
theorem planK_n (ops : List Oper) (i : Nat) (o : Oper) (r : List PStep) (pd : List (Nat × Oper × PRk)) (s : Sl) (h : Hp) (d : Dl) (k : Sl → Hp → Dl → Prop) : planK p E ops (.n i o :: r) pd s h d k =
    nK p E ops o s h fun pr v h' => putK s o.dst v fun s' => match pr with
        | .f id b => reAll p s' h' pd (planK p E ops r ((i, o, .f id b) :: pd) s' h' d k)
        | pr => planK p E ops r ((i, o, pr) :: pd) s' h' d k := rfl
theorem planK_e (ops : List Oper) (i : Nat) (o : Oper) (m : Nat) (r : List PStep) (pd : List (Nat × Oper × PRk)) (s : Sl) (h : Hp) (d : Dl) (k : Sl → Hp → Dl → Prop) : planK p E ops (.e i o m :: r) pd s h d k =
    eK p ops o s h fun v h' => putK s o.dst v fun s' => leftK m pd fun pd' => reAll p s' h' pd' (planK p E ops r pd' s' h' d k) := rfl
/-- a plan, made out at once -/
def forceN : Nat → (Nat → Prop) → Prop
  | 0, k => k 0
  | n + 1, k => k (n + 1)
def forceP : List PStep → (List PStep → Prop) → Prop
  | [], k => k []
  | .n i o :: r, k => forceN i fun i => forceP r fun r => k (.n i o :: r)
  | .e i o m :: r, k => forceN i fun i => forceN m fun m => forceP r fun r => k (.e i o m :: r)
def regK (ops : List Oper) (draw : Bool) (s : Sl) (h : Hp) (d : Dl) (k : Sl → Hp → Dl → Prop) : Prop :=
  match draw with
  | false => opsK p E ops ops s h d k
  | true => match planOf ops with
    | some pl => forceP pl fun pl => planK p E ops pl [] s h d k
    | none => False
abbrev Kx := Ex → Sl → Hp → Dl → Prop
abbrev Lb := List Bool → Sl → Hp → Dl → Prop
def eqB : List Bool → List Bool → Bool
  | [], [] => true
  | true :: a, true :: b => eqB a b
  | false :: a, false :: b => eqB a b
  | _, _ => false
def cutOf : List (List Bool) → List Bool → Bool
  | [], _ => false
  | c :: r, π => bif eqB c π then true else cutOf r π
variable (cut : List Bool → Bool) (lab : Lb)
def blK (id : Nat) (k : Kx) : Kx := fun e s h d => match e with
  | .exit j => bif Nat.beq j id then k .normal s h d else k (.exit j) s h d
  | .normal => k .normal s h d
  | .ret => k .ret s h d
def sqK (k : Kx) (b : Sl → Hp → Dl → Prop) : Kx := fun e s h d => match e with
  | .normal => b s h d
  | .exit j => k (.exit j) s h d
  | .ret => k .ret s h d
def Kc : Code → List Bool → Sl → Hp → Dl → Kx → Prop
  | .skip, _, s, h, d, k => k .normal s h d
  | .region _ ops draw, _, s, h, d, k => regK p E ops.toList draw s h d (k .normal)
  | .seq a b, π, s, h, d, k => Kc a (false :: π) s h d (sqK k fun s' h' d' => bif cut (true :: π) then lab (true :: π) s' h' d' else Kc b (true :: π) s' h' d' k)
  | .cond c a b, π, s, h, d, k => evK s c fun v => p.cond v (fun _ => Kc a (false :: π) s h d k) (fun _ => Kc b (true :: π) s h d k)
  | .block id c, π, s, h, d, k => Kc c (false :: π) s h d (blK id k)
  | .loop _, π, s, h, d, _ => lab π s h d
  | .exit id, _, s, h, d, k => k (.exit id) s h d
  | .ret, _, s, h, d, k => k .ret s h d
  | _, _, _, _, _, _ => False
/-- from a label on -/
def KAt : Code → List Bool → List Bool → Kx → Sl → Hp → Dl → Prop
  | c, π, [], k, s, h, d => (match c with
    | .loop b => Kc p E cut lab b (false :: π) s h d (sqK k (lab π))
    | c => Kc p E cut lab c π s h d k)
  | .seq a b, π, false :: r, k, s, h, d => KAt a (false :: π) r (sqK k fun s' h' d' => bif cut (true :: π) then lab (true :: π) s' h' d' else Kc p E cut lab b (true :: π) s' h' d' k) s h d
  | .seq _ b, π, true :: r, k, s, h, d => KAt b (true :: π) r k s h d
  | .cond _ a _, π, false :: r, k, s, h, d => KAt a (false :: π) r k s h d
  | .cond _ _ b, π, true :: r, k, s, h, d => KAt b (true :: π) r k s h d
  | .block id c, π, false :: r, k, s, h, d => KAt c (false :: π) r (blK id k) s h d
  | .loop c, π, false :: r, k, s, h, d => KAt c (false :: π) r (sqK k (lab π)) s h d
  | _, _, _, _, _, _, _ => False
def resK (s : Sl) (h : Hp) : List ResultVar → (List V → Prop) → Prop
  | [], k => k []
  | .tmp t :: r, k => resK s h r fun l => k (nth s t :: l)
  | .cell a ty :: r, k => p.load h ty (nth s a) fun v => resK s h r fun l => k (v :: l)
def finK (fn : Func) (Q : V → Hp → Prop) : Kx := fun e s h d => match e with
  | .exit _ => False
  | _ => (match d with
    | [] => resK p s h fn.results.toList fun l => Q (match l with | [v] => v | l => .tup l) h
    | x :: r => p.idle (x :: r) (resK p s h fn.results.toList fun l => Q (match l with | [v] => v | l => .tup l) h))
end
end
end Go.Proofs.YtlllhhjlfmhmlaaGreatDoor.VM
namespace Go.Proofs.YtlllhhjlfmhmlaaGreatDoor.VM
open Go
noncomputable section
def vbinB (E : Env) (op : BinOp) (ty : TypeId) (cx cy : Bool) (x y : V) : Option V :=
  match x, y with
  | .int k a, .int j b => vbin op (.int k a) (.int j b)
  | .str a, .str b => vbin op (.str a) (.str b)
  | .nili, .nili => bif cx || cy then eqOp op ((E.ty.get ty).bind fun i => match i.k with | .iface _ => some true | _ => none) else none
  | .symI k j, y => E.so (.bin op) [.symI k j, y]
  | .symS j, y => E.so (.bin op) [.symS j, y]
  | x, .symI k j => E.so (.bin op) [x, .symI k j]
  | x, .symS j => E.so (.bin op) [x, .symS j]
  | x, y => eqOp op ((E.ty.get ty).bind fun i => veq E i x y)
def ebuiV (E : Env) (h : Hp) (ts : Array TypeId) (b : Builtin) (al : List V) : Option (V × Hp) :=
  match b, al with
  | .append, [x, y] => vappend E h ts x y
  | .copy, [x, y] => vcopy E h ts x y
  | _, _ => none
def wantV (b : V) (w : Bool) : Option Bool :=
  match b with
  | .bool c => some (c == w)
  | .tup [] => some false
  | _ => none
def boxV (e : TypeId) (x : V) : F := bif allCells x.cells then some (newCells e x.cells) else none
def Ans (E : Env) (f : Nat) (al : List V) (h : Hp) (Q : V → Hp → Prop) : Prop := ∃ v h', Cs E f al h (v, h') ∧ Q v h'
theorem Ans.mono {E : Env} {f : Nat} {al : List V} {h : Hp} {Q Q' : V → Hp → Prop} (c : Ans E f al h Q) (hq : ∀ v h', Q v h' → Q' v h') : Ans E f al h Q' := by
  obtain ⟨v, h', h1, h2⟩ := c; exact ⟨v, h', h1, hq _ _ h2⟩
def Pu (E : Env) : Pr where
  pick c a b k := ∃ x, c = .bool x ∧ ∃ v, (bif x then a else b) = some v ∧ k v
  build ty ps k := ∃ v, vbuild E ty ps = some v ∧ k v
  load h ty a k := ∃ v, vload E h ty a = some v ∧ k v
  nilc x k := ∃ v, nilCheckV x = some v ∧ k v
  bin op ty cx cy x y k := ∃ v, vbinB E op ty cx cy x y = some v ∧ k v
  un op x k := ∃ v, vun op x = some v ∧ k v
  conv h s d x k := ∃ v, vconv E h s d x = some v ∧ k v
  iface ty x k := ∃ v, ((E.ty.get ty).bind fun i => ifaceV ty x i) = some v ∧ k v
  slice ty x lo hi mx k := ∃ v, vslice E ty x lo hi mx = some v ∧ k v
  faddr ty x f k := ∃ v, vfieldAddr E ty x f = some v ∧ k v
  field ty x f k := ∃ v, vfield E ty x f = some v ∧ k v
  iaddr ty x i k := ∃ v, vindexAddr E ty x i = some v ∧ k v
  index ty x i k := ∃ v, vindex E ty x i = some v ∧ k v
  look h ty x q ok k := ∃ v, vlookup E h ty x q ok = some v ∧ k v
  assert x a ok k := ∃ v, vtypeAssert E x a ok = some v ∧ k v
  extr x i k := ∃ v, extractV i x = some v ∧ k v
  lbui h ts b al k := ∃ v, lBuiltin E h ts b al = some v ∧ k v
  alloc h e k := ∃ x, fAlloc E e = some x ∧ k (x.1.at h.n) (h.new x.2) x.2
  box h e x k := ∃ y, boxV e x = some y ∧ k (y.1.at h.n) (h.new y.2) y.2
  bsl h ty n ps k := ∃ y, vbuildSlice E ty n ps = some y ∧ k (y.1.at h.n) (h.new y.2) y.2
  mkmap h b k := b = true ∧ k (.mp h.n) (h.new (.map [] 0)) (.map [] 0)
  mksl h ty l c k := ∃ y, ((E.ty.get ty).bind fun i => makeV E l c i) = some y ∧ k (y.1.at h.n) (h.new y.2) y.2
  fconv h s d x k := ∃ y, ((E.ty.get s).bind fun _ => fconv E d x) = some y ∧ k (y.1.at h.n) (h.new y.2) y.2
  store h ty a x k := ∃ h', vstore E h ty a x = some h' ∧ k h'
  mapu h ty m q x k := ∃ h', vmapUpdate E h ty m q x = some h' ∧ k h'
  mape h ty m q k := ∃ r, vmapEntry E h ty m q = some r ∧ k r.1 r.2
  ests h m s x k := ∃ h', ventryStore h m s x = some h' ∧ k h'
  ebui h ts b al k := ∃ r, ebuiV E h ts b al = some r ∧ k r.1 r.2
  call f al h k := Ans E f al h k
  callv f al h k := ∃ x, target f al = some x ∧ Ans E x.1 x.2 h k
  invk r n al h k := ∃ x, methodV E r n al = some x ∧ Ans E x.1 x.2 h k
  dfr f al k := ∃ x, target f al = some x ∧ k x
  cond v a b := ∃ c, v = .bool c ∧ (c = true → a ()) ∧ (c = false → b ())
  gval b w f k := ∃ c, wantV b w = some c ∧ (c = true → f k) ∧ (c = false → k undefV)
  geff b w f h k := ∃ c, wantV b w = some c ∧ (c = true → f k) ∧ (c = false → k undefV h)
  gchk b w f k := ∃ c, wantV b w = some c ∧ (c = true → f k) ∧ (c = false → k)
  same u v k := sameV u v = true ∧ k
  sameb h id b k := (∃ c, h.t.get id = some c ∧ sameB c b = true) ∧ k
  idle d k := idleAll E d = true ∧ k
structure RelT (t : Tm) (s : Sl) (n : Nat) : Prop where
  len : s.length = n
  at_ : ∀ i, (t.get i).getD undefV = nth s i
theorem setK_out {w : V} : ∀ {s : Sl} {i : Nat} {k : Sl → Prop}, setK w s i k → ∃ s', k s' ∧ i < s.length ∧ s'.length = s.length ∧ ∀ j, nth s' j = if j = i then w else nth s j
  | [], _, _, h => h.elim
  | v :: l, 0, k, h => by
    rw [setK_zero] at h
    exact ⟨_, h, by simp, rfl, fun j => by cases j <;> simp [nth_zero, nth_succ]⟩
  | v :: l, n + 1, k, h => by
    rw [setK_succ] at h
    obtain ⟨s', h0, h1, h2, h3⟩ := setK_out h
    refine ⟨_, h0, by simp; omega, by simp [h2], fun j => ?_⟩
    cases j with
    | zero => simp [nth_zero]
    | succ j => simp [nth_succ, h3]
variable {E : Env} {t : Tm} {s : Sl} {n : Nat} {h : Hp}
theorem ev_eq (R : RelT t s n) (x : Operand) : ev t x = evL s x := by
  cases x <;> first | rfl | skip
  rename_i i
  show some _ = some _
  rw [R.at_ i]
theorem evK_out (R : RelT t s n) {x : Operand} {k : V → Prop} (hk : evK s x k) : ∃ v, ev t x = some v ∧ k v := by
  unfold evK at hk
  rw [← ev_eq R] at hk
  split at hk
  · rename_i v hv; exact ⟨v, hv, hk⟩
  · exact hk.elim
theorem evsK_out (R : RelT t s n) : ∀ {l : List Operand} {k : List V → Prop}, evsK s l k → ∃ al, evs t l = some al ∧ k al
  | [], _, hk => ⟨[], rfl, hk⟩
  | x :: l, k, hk => by
    obtain ⟨v, h1, h2⟩ := evK_out R hk
    obtain ⟨al, h3, h4⟩ := evsK_out R h2
    exact ⟨v :: al, by rw [evs, h1, Option.bind_some, h3, Option.bind_some], h4⟩
theorem evoK_out (R : RelT t s n) {x : Option Operand} {k : Option V → Prop} (hk : evoK s x k) : ∃ v, evo t x = some v ∧ k v := by
  cases x with
  | none => exact ⟨none, rfl, hk⟩
  | some x =>
    obtain ⟨v, h1, h2⟩ := evK_out R (k := fun v => k (some v)) hk
    exact ⟨some v, by rw [evo, h1]; rfl, h2⟩
theorem partsK_out (R : RelT t s n) : ∀ {l : List (Nat × Operand)} {k : List (Nat × V) → Prop}, partsK s l k → ∃ al, parts t l = some al ∧ k al
  | [], _, hk => ⟨[], rfl, hk⟩
  | (i, x) :: l, k, hk => by
    obtain ⟨v, h1, h2⟩ := evK_out R (k := fun v => partsK s l fun l => k ((i, v) :: l)) hk
    obtain ⟨al, h3, h4⟩ := partsK_out R h2
    exact ⟨(i, v) :: al, by rw [parts, h1, Option.bind_some, h3, Option.bind_some], h4⟩
theorem putK_out (R : RelT t s n) {dst : Option Tmp} {v : V} {k : Sl → Prop} (hk : putK s dst v k) (h0 h : Hp) (d : Dl) : ∃ t' s', St.put ⟨t, h0, d, n⟩ dst v h = some ⟨t', h, d, n⟩ ∧ RelT t' s' n ∧ k s' := by
  cases dst with
  | none => exact ⟨t, s, rfl, R, hk⟩
  | some i =>
    have hk : setK v s i k := hk
    · obtain ⟨s', hk, h1, h2, h3⟩ := setK_out hk
      refine ⟨t.put i v, s', ?_, ⟨h2.trans R.len, fun j => ?_⟩, hk⟩
      · have : Nat.blt i n = true := by simp [Nat.blt_eq, ← R.len, h1]
        simp only [St.put, this, cond_true]
      · rw [T.get_put, h3]
        split
        · rfl
        · exact R.at_ j
theorem lopK_out (R : RelT t s n) {op : Op} {k : V → Prop} (hk : lopK (Pu E) s h op k) : ∃ v, lop E t h op = some v ∧ k v := by
  cases op <;> simp only [lopK] at hk <;> first | exact hk.elim | skip
  case move x => exact evK_out R hk
  case pick c a b =>
    obtain ⟨cv, h1, x, rfl, v, h3, h4⟩ := evK_out R hk
    refine ⟨v, ?_, h4⟩
    show lPick t c a b = _
    rw [lPick, h1, Option.bind_some, ev_eq R, ev_eq R]
    cases x <;> exact h3
  case build ty ps =>
    obtain ⟨l, h1, v, h2, h3⟩ := partsK_out R hk
    exact ⟨v, by show lBuild E t ty ps = _; rw [lBuild, h1, Option.bind_some, h2], h3⟩
  case load ty a =>
    obtain ⟨x, h1, v, h2, h3⟩ := evK_out R hk
    exact ⟨v, by show lLoad E t h ty a = _; rw [lLoad, h1, Option.bind_some, h2], h3⟩
  case nilCheck x =>
    obtain ⟨y, h1, v, h2, h3⟩ := evK_out R hk
    exact ⟨v, by show lNilCheck t x = _; rw [lNilCheck, h1, Option.bind_some, h2], h3⟩
  case binOp op ty x y yt =>
    obtain ⟨a, h1, hk⟩ := evK_out R hk
    obtain ⟨b, h2, v, h3, h4⟩ := evK_out R hk
    exact ⟨v, by show lBin E t op ty x y = _; rw [lBin, h1, Option.bind_some, h2, Option.bind_some]; exact h3, h4⟩
  case unOp op ty x =>
    obtain ⟨y, h1, v, h2, h3⟩ := evK_out R hk
    exact ⟨v, by show lUn t op x = _; rw [lUn, h1, Option.bind_some, h2], h3⟩
  case convert a d x =>
    obtain ⟨y, h1, v, h2, h3⟩ := evK_out R hk
    exact ⟨v, by show lConv E t h a d x = _; rw [lConv, h1, Option.bind_some, h2], h3⟩
  case makeInterface ty x =>
    obtain ⟨y, h1, v, h2, h3⟩ := evK_out R hk
    exact ⟨v, by show lIface E t ty x = _; rw [lIface, h1, Option.bind_some, h2], h3⟩
  case makeFunc f a c =>
    obtain ⟨al, h1, hk⟩ := evsK_out R hk
    obtain ⟨cl, h2, h3⟩ := evsK_out R hk
    exact ⟨_, by show lFunc t f a c = _; rw [lFunc, h1, Option.bind_some, h2, Option.bind_some], h3⟩
  case slice ty x lo hi mx =>
    obtain ⟨y, h1, hk⟩ := evK_out R hk
    obtain ⟨lo', h2, hk⟩ := evoK_out R hk
    obtain ⟨hi', h3, hk⟩ := evoK_out R hk
    obtain ⟨mx', h4, v, h5, h6⟩ := evoK_out R hk
    exact ⟨v, by show lSlice E t ty x lo hi mx = _; rw [lSlice, h1, Option.bind_some, h2, Option.bind_some, h3, Option.bind_some, h4, Option.bind_some, h5], h6⟩
  case fieldAddr ty x f =>
    obtain ⟨y, h1, v, h2, h3⟩ := evK_out R hk
    exact ⟨v, by show lFieldAddr E t ty x f = _; rw [lFieldAddr, h1, Option.bind_some, h2], h3⟩
  case field ty x f =>
    obtain ⟨y, h1, v, h2, h3⟩ := evK_out R hk
    exact ⟨v, by show lField E t ty x f = _; rw [lField, h1, Option.bind_some, h2], h3⟩
  case indexAddr ty x i =>
    obtain ⟨y, h1, hk⟩ := evK_out R hk
    obtain ⟨z, h2, v, h3, h4⟩ := evK_out R hk
    exact ⟨v, by show lIndexAddr E t ty x i = _; rw [lIndexAddr, h1, Option.bind_some, h2, Option.bind_some, h3], h4⟩
  case index ty x i =>
    obtain ⟨y, h1, hk⟩ := evK_out R hk
    obtain ⟨z, h2, v, h3, h4⟩ := evK_out R hk
    exact ⟨v, by show lIndex E t ty x i = _; rw [lIndex, h1, Option.bind_some, h2, Option.bind_some, h3], h4⟩
  case lookup ty x q ok =>
    obtain ⟨y, h1, hk⟩ := evK_out R hk
    obtain ⟨z, h2, v, h3, h4⟩ := evK_out R hk
    exact ⟨v, by show lLookup E t h ty x q ok = _; rw [lLookup, h1, Option.bind_some, h2, Option.bind_some, h3], h4⟩
  case typeAssert x xt a ok =>
    obtain ⟨y, h1, v, h2, h3⟩ := evK_out R hk
    exact ⟨v, by show lAssert E t x a ok = _; rw [lAssert, h1, Option.bind_some, h2], h3⟩
  case extract x i =>
    obtain ⟨y, h1, v, h2, h3⟩ := evK_out R hk
    exact ⟨v, by show lExtract t x i = _; rw [lExtract, h1, Option.bind_some, h2], h3⟩
  case call c =>
    obtain ⟨callee, args, ats⟩ := c
    cases callee with
    | value f => exact hk.elim
    | invoke r m => exact hk.elim
    | builtin b =>
      obtain ⟨al, h1, v, h2, h3⟩ := evsK_out R hk
      exact ⟨v, by show lCall E t h ⟨.builtin b, args, ats⟩ = _; rw [lCall]; simp only; rw [h1, Option.bind_some, h2], h3⟩
theorem fopK_out (R : RelT t s n) {op : Op} {k : V → Hp → Blk → Prop} (hF : isF E op = true) (hk : fopK (Pu E) s h op k) : ∃ r b, fop E t op = some (r, b) ∧ lop E t h op = none ∧ k (r.at h.n) (h.new b) b := by
  cases op <;> simp only [fopK] at hk <;> first | exact hk.elim | skip
  case alloc e =>
    obtain ⟨⟨r, b⟩, h1, h2⟩ := hk
    exact ⟨r, b, h1, rfl, h2⟩
  case box e x =>
    obtain ⟨v, h1, ⟨r, b⟩, h2, h3⟩ := evK_out R hk
    exact ⟨r, b, by show fBox t e x = _; rw [fBox, h1, Option.bind_some]; exact h2, rfl, h3⟩
  case buildSlice ty m ps =>
    obtain ⟨l, h1, ⟨r, b⟩, h2, h3⟩ := partsK_out R hk
    exact ⟨r, b, by show fBuildSlice E t ty m ps = _; rw [fBuildSlice, h1, Option.bind_some, h2], rfl, h3⟩
  case makeMap ty r =>
    obtain ⟨h1, h2⟩ := hk
    cases r with
    | none => exact ⟨.mp, .map [] 0, rfl, rfl, h2⟩
    | some r => cases h1
  case makeSlice ty l c =>
    obtain ⟨lv, h1, hk⟩ := evK_out R hk
    obtain ⟨cv, h2, ⟨r, b⟩, h3, h4⟩ := evK_out R hk
    exact ⟨r, b, by show fMake E t ty l c = _; rw [fMake, h1, Option.bind_some, h2, Option.bind_some, h3], rfl, h4⟩
  case convert a d x =>
    obtain ⟨v, h1, ⟨r, b⟩, h2, h3⟩ := evK_out R hk
    refine ⟨r, b, ?_, ?_, h3⟩
    · show fConv E t a d x = _
      rw [fConv, ← h2]
      cases E.ty.get a with
      | none => rfl
      | some i => rw [Option.bind_some, Option.bind_some, h1, Option.bind_some]
    · show lConv E t h a d x = _
      rw [lConv, h1, Option.bind_some]
      simp only [isF, isSlT] at hF
      split at hF
      · rename_i i hi
        unfold vconv
        rw [hi]
        cases E.ty.get a with
        | none => rfl
        | some j =>
          simp only [Option.bind_some]
          split at hF
          · rename_i e he
            rw [he]
          · cases hF
      · cases hF
theorem effK_out (R : RelT t s n) {op : Op} {k : V → Hp → Prop} (hk : effK (Pu E) s h op k) : ∃ v h', k v h' ∧ ∀ (d : Dl) (dst : Option Tmp) (x : St), St.put ⟨t, h, d, n⟩ dst v h' = some x → onNxs E ⟨t, h, d, n⟩ dst (eop E t h op) x := by
  have put_h : ∀ (d : Dl) (dst : Option Tmp) (v : V) (h0 h1 h2 : Hp), St.put ⟨t, h0, d, n⟩ dst v h2 = St.put ⟨t, h1, d, n⟩ dst v h2 := fun _ _ _ _ _ _ => rfl
  cases op <;> simp only [effK] at hk <;> first | exact hk.elim | skip
  case assign x =>
    obtain ⟨v, h1, h2⟩ := evK_out R hk
    refine ⟨v, h, h2, fun d dst x hx => ?_⟩
    show onNxs E _ dst (rV h (ev t _)) x
    rw [h1]; exact hx
  case store ty a x =>
    obtain ⟨av, h1, hk⟩ := evK_out R hk
    obtain ⟨xv, h2, h', h3, h4⟩ := evK_out R hk
    refine ⟨undefV, h', h4, fun d dst z hz => ?_⟩
    show onNxs E _ dst (eStore E t h ty a x) z
    rw [eStore, h1, Option.bind_some, h2, Option.bind_some, h3]; exact hz
  case mapUpdate ty m q x =>
    obtain ⟨mv, h1, hk⟩ := evK_out R hk
    obtain ⟨qv, h2, hk⟩ := evK_out R hk
    obtain ⟨xv, h3, h', h4, h5⟩ := evK_out R hk
    refine ⟨undefV, h', h5, fun d dst z hz => ?_⟩
    show onNxs E _ dst (eMapUpdate E t h ty m q x) z
    rw [eMapUpdate, h1, Option.bind_some, h2, Option.bind_some, h3, Option.bind_some, h4]; exact hz
  case insert ty m q x =>
    obtain ⟨mv, h1, hk⟩ := evK_out R hk
    obtain ⟨qv, h2, hk⟩ := evK_out R hk
    obtain ⟨xv, h3, h', h4, h5⟩ := evK_out R hk
    refine ⟨undefV, h', h5, fun d dst z hz => ?_⟩
    show onNxs E _ dst (eMapUpdate E t h ty m q x) z
    rw [eMapUpdate, h1, Option.bind_some, h2, Option.bind_some, h3, Option.bind_some, h4]; exact hz
  case mapEntry ty m q =>
    obtain ⟨mv, h1, hk⟩ := evK_out R hk
    obtain ⟨qv, h2, ⟨v, h'⟩, h3, h4⟩ := evK_out R hk
    refine ⟨v, h', h4, fun d dst z hz => ?_⟩
    show onNxs E _ dst (eMapEntry E t h ty m q) z
    rw [eMapEntry, h1, Option.bind_some, h2, Option.bind_some, h3]; exact hz
  case entryStore ty m q x =>
    obtain ⟨mv, h1, hk⟩ := evK_out R hk
    obtain ⟨qv, h2, hk⟩ := evK_out R hk
    obtain ⟨xv, h3, h', h4, h5⟩ := evK_out R hk
    refine ⟨undefV, h', h5, fun d dst z hz => ?_⟩
    show onNxs E _ dst (eEntryStore t h m q x) z
    rw [eEntryStore, h1, Option.bind_some, h2, Option.bind_some, h3, Option.bind_some, h4]; exact hz
  case call c =>
    obtain ⟨callee, args, ats⟩ := c
    obtain ⟨al, h1, hk⟩ := evsK_out R hk
    cases callee with
    | value f =>
      have key : ∀ fv g xs, ev t f = some fv → target fv al = some (g, xs) → Ans E g xs h k → ∃ v h', k v h' ∧ ∀ (d : Dl) (dst : Option Tmp) (x : St), St.put ⟨t, h, d, n⟩ dst v h' = some x → onNxs E ⟨t, h, d, n⟩ dst (eop E t h (.call ⟨.value f, args, ats⟩)) x := by
        rintro fv g xs h2 h3 ⟨v, h', h4, h5⟩
        refine ⟨v, h', h5, fun d dst z hz => ?_⟩
        show onNxs E _ dst (eCall E t h ⟨.value f, args, ats⟩) z
        rw [eCall, h1, Option.bind_some]
        simp only
        rw [h2, Option.bind_some, h3, Option.bind_some]
        exact ⟨(v, h'), h4, hz⟩
      cases f with
      | func f => exact key (.fn (.func f) [] []) f al rfl (by simp [target]) hk
      | tmp i =>
        obtain ⟨fv, h2, ⟨g, xs⟩, h3, h4⟩ := evK_out R hk
        exact key fv g xs h2 h3 h4
      | const c =>
        obtain ⟨fv, h2, ⟨g, xs⟩, h3, h4⟩ := evK_out R hk
        exact key fv g xs h2 h3 h4
      | global g => obtain ⟨x, h3, _⟩ := hk; cases h3
    | invoke r m =>
      obtain ⟨rv, h2, ⟨g, xs⟩, h3, v, h', h4, h5⟩ := evK_out R hk
      refine ⟨v, h', h5, fun d dst z hz => ?_⟩
      show onNxs E _ dst (eCall E t h ⟨.invoke r m, args, ats⟩) z
      rw [eCall, h1, Option.bind_some]
      simp only
      rw [h2, Option.bind_some, h3, Option.bind_some]
      exact ⟨(v, h'), h4, hz⟩
    | builtin b =>
      obtain ⟨⟨v, h'⟩, h2, h3⟩ := hk
      refine ⟨v, h', h3, fun d dst z hz => ?_⟩
      show onNxs E _ dst (eCall E t h ⟨.builtin b, args, ats⟩) z
      rw [eCall, h1, Option.bind_some]
      simp only
      unfold ebuiV at h2
      split at h2
      · rw [eBuiltin, h2]; exact hz
      · rw [eBuiltin, h2]; exact hz
      · cases h2
end
end Go.Proofs.YtlllhhjlfmhmlaaGreatDoor.VM
