/- What functions answer at given texts: the kernel ran them. Written by cegen.py. -/
import Derived.Test.YtehbfpcfbpbllaaGreatDoorCEEnv
namespace Go.Proofs.YtehbfpcfbpbllaaGreatDoor
namespace VM
open Go Go.RowKit
set_option linter.unusedVariables false
set_option linter.unusedSectionVars false
set_option maxRecDepth 20000
noncomputable section
def ceM0 : Memo := ⟨[.str [61, 78, 111, 112, 101, 33, 65, 49]], .bool true, []⟩
theorem ceM0_run : look [] 60 (callOf (Ec) (exec (Ec) 3000) 30 ceM0.al ⟨.leaf, 0⟩) = some (ceM0.v.ren (rn [] 60), ceM0.bs.map (Blk.ren (rn [] 60))) := by kernel_rfl
theorem ceM0_ok [Sy] (hg : GlobOK Tryz.prog Sy.tab globs) : MemoOK Tryz.prog 30 ceM0 :=
  @memoOK_of _ Tryz.prog (Ec) (envC hg) (@idleC _) (@hooksC _) nameOK 30 3000 60 [] ceM0 ceM0_run rfl rfl (by decide)
def ceM1 : Memo := ⟨[.str [61, 68, 49]], .bool true, []⟩
theorem ceM1_run : look [] 60 (callOf (Ec) (exec (Ec) 3000) 30 ceM1.al ⟨.leaf, 0⟩) = some (ceM1.v.ren (rn [] 60), ceM1.bs.map (Blk.ren (rn [] 60))) := by kernel_rfl
theorem ceM1_ok [Sy] (hg : GlobOK Tryz.prog Sy.tab globs) : MemoOK Tryz.prog 30 ceM1 :=
  @memoOK_of _ Tryz.prog (Ec) (envC hg) (@idleC _) (@hooksC _) nameOK 30 3000 60 [] ceM1 ceM1_run rfl rfl (by decide)
def ceM2 : Memo := ⟨[.str [61, 67, 49, 43, 49]], .bool true, []⟩
theorem ceM2_run : look [] 104 (callOf (Ec) (exec (Ec) 3000) 30 ceM2.al ⟨.leaf, 0⟩) = some (ceM2.v.ren (rn [] 104), ceM2.bs.map (Blk.ren (rn [] 104))) := by kernel_rfl
theorem ceM2_ok [Sy] (hg : GlobOK Tryz.prog Sy.tab globs) : MemoOK Tryz.prog 30 ceM2 :=
  @memoOK_of _ Tryz.prog (Ec) (envC hg) (@idleC _) (@hooksC _) nameOK 30 3000 104 [] ceM2 ceM2_run rfl rfl (by decide)
def ceM3 : Memo := ⟨[.str [61, 67, 49]], .bool true, []⟩
theorem ceM3_run : look [] 60 (callOf (Ec) (exec (Ec) 3000) 30 ceM3.al ⟨.leaf, 0⟩) = some (ceM3.v.ren (rn [] 60), ceM3.bs.map (Blk.ren (rn [] 60))) := by kernel_rfl
theorem ceM3_ok [Sy] (hg : GlobOK Tryz.prog Sy.tab globs) : MemoOK Tryz.prog 30 ceM3 :=
  @memoOK_of _ Tryz.prog (Ec) (envC hg) (@idleC _) (@hooksC _) nameOK 30 3000 60 [] ceM3 ceM3_run rfl rfl (by decide)
def ceM4 : Memo := ⟨[.str [61, 73, 83, 69, 82, 82, 40, 66, 49, 41]], .bool true, []⟩
theorem ceM4_run : look [] 132 (callOf (Ec) (exec (Ec) 3000) 30 ceM4.al ⟨.leaf, 0⟩) = some (ceM4.v.ren (rn [] 132), ceM4.bs.map (Blk.ren (rn [] 132))) := by kernel_rfl
theorem ceM4_ok [Sy] (hg : GlobOK Tryz.prog Sy.tab globs) : MemoOK Tryz.prog 30 ceM4 :=
  @memoOK_of _ Tryz.prog (Ec) (envC hg) (@idleC _) (@hooksC _) nameOK 30 3000 132 [] ceM4 ceM4_run rfl rfl (by decide)
def ceM5 : Memo := ⟨[.str [61, 73, 83, 69, 82, 82, 40, 67, 49, 41]], .bool true, []⟩
theorem ceM5_run : look [] 132 (callOf (Ec) (exec (Ec) 3000) 30 ceM5.al ⟨.leaf, 0⟩) = some (ceM5.v.ren (rn [] 132), ceM5.bs.map (Blk.ren (rn [] 132))) := by kernel_rfl
theorem ceM5_ok [Sy] (hg : GlobOK Tryz.prog Sy.tab globs) : MemoOK Tryz.prog 30 ceM5 :=
  @memoOK_of _ Tryz.prog (Ec) (envC hg) (@idleC _) (@hooksC _) nameOK 30 3000 132 [] ceM5 ceM5_run rfl rfl (by decide)
def ceM6 : Memo := ⟨[.str [61, 35, 82, 69, 70, 33]], .bool true, []⟩
theorem ceM6_run : look [] 47 (callOf (Ec) (exec (Ec) 3000) 30 ceM6.al ⟨.leaf, 0⟩) = some (ceM6.v.ren (rn [] 47), ceM6.bs.map (Blk.ren (rn [] 47))) := by kernel_rfl
theorem ceM6_ok [Sy] (hg : GlobOK Tryz.prog Sy.tab globs) : MemoOK Tryz.prog 30 ceM6 :=
  @memoOK_of _ Tryz.prog (Ec) (envC hg) (@idleC _) (@hooksC _) nameOK 30 3000 47 [] ceM6 ceM6_run rfl rfl (by decide)
def ceM : List Memo := [ceM0, ceM1, ceM2, ceM3, ceM4, ceM5, ceM6]
theorem ceM_ok [Sy] (hg : GlobOK Tryz.prog Sy.tab globs) : ∀ m ∈ ceM, MemoOK Tryz.prog 30 m := by
  intro m hm
  simp only [ceM, List.mem_cons, List.not_mem_nil, or_false] at hm
  rcases hm with rfl | rfl | rfl | rfl | rfl | rfl | rfl
  · exact ceM0_ok hg
  · exact ceM1_ok hg
  · exact ceM2_ok hg
  · exact ceM3_ok hg
  · exact ceM4_ok hg
  · exact ceM5_ok hg
  · exact ceM6_ok hg
def ceF0 : Memo := ⟨[.str [61, 78, 111, 112, 101, 33, 65, 49]], .tup [.slo 0 0 1 1 14, .bool true], [.cells [.int .i64 (.ofNat 5), .int .i64 (.ofNat 0), .str [], .str [78, 111, 112, 101], .int .i64 (.ofNat 0), .int .i64 (.ofNat 0), .bool false, .bool false, .str [], .int .i64 (.ofNat 0), .int .i64 (.ofNat 0), .bool false, .bool false, .nils] 89 false]⟩
theorem ceF0_run : look [98] 108 (callOf (Ec) (exec (Ec) 3000) 15 ceF0.al ⟨.leaf, 0⟩) = some (ceF0.v.ren (rn [98] 108), ceF0.bs.map (Blk.ren (rn [98] 108))) := by kernel_rfl
theorem ceF0_ok [Sy] (hg : GlobOK Tryz.prog Sy.tab globs) : MemoOK Tryz.prog 15 ceF0 :=
  @memoOK_of _ Tryz.prog (Ec) (envC hg) (@idleC _) (@hooksC _) nameOK 15 3000 108 [98] ceF0 ceF0_run rfl rfl (by decide)
def ceF1 : Memo := ⟨[.str [61, 68, 49]], .tup [.slo 0 0 1 1 14, .bool true], [.cells [.int .i64 (.ofNat 5), .int .i64 (.ofNat 0), .str [], .str [], .int .i64 (.ofNat 3), .int .i64 (.ofNat 0), .bool false, .bool false, .str [], .int .i64 (.ofNat 0), .int .i64 (.ofNat 0), .bool false, .bool false, .nils] 89 false]⟩
theorem ceF1_run : look [98] 108 (callOf (Ec) (exec (Ec) 3000) 15 ceF1.al ⟨.leaf, 0⟩) = some (ceF1.v.ren (rn [98] 108), ceF1.bs.map (Blk.ren (rn [98] 108))) := by kernel_rfl
theorem ceF1_ok [Sy] (hg : GlobOK Tryz.prog Sy.tab globs) : MemoOK Tryz.prog 15 ceF1 :=
  @memoOK_of _ Tryz.prog (Ec) (envC hg) (@idleC _) (@hooksC _) nameOK 15 3000 108 [98] ceF1 ceF1_run rfl rfl (by decide)
def ceF2 : Memo := ⟨[.str [61, 67, 49, 43, 49]], .tup [.slo 0 0 3 3 14, .bool true], [.cells [.int .i64 (.ofNat 5), .int .i64 (.ofNat 0), .str [], .str [], .int .i64 (.ofNat 2), .int .i64 (.ofNat 0), .bool false, .bool false, .str [], .int .i64 (.ofNat 0), .int .i64 (.ofNat 0), .bool false, .bool false, .nils, .int .i64 (.ofNat 1), .int .i64 (.ofNat 1), .str [], .str [], .int .i64 (.ofNat 0), .int .i64 (.ofNat 0), .bool false, .bool false, .str [], .int .i64 (.ofNat 0), .int .i64 (.ofNat 0), .bool false, .bool false, .nils, .int .i64 (.ofNat 16), .int .i64 (.ofNat 0), .str [], .str [], .int .i64 (.ofNat 0), .int .i64 (.ofNat 0), .bool false, .bool false, .str [], .int .i64 (.ofNat 0), .int .i64 (.ofNat 0), .bool false, .bool false, .sl 1 0 2 2] 89 false, .cells [.int .i64 (.ofNat 0), .int .i64 (.ofNat 1)] 3 false]⟩
theorem ceF2_run : look [172, 169] 180 (callOf (Ec) (exec (Ec) 3000) 15 ceF2.al ⟨.leaf, 0⟩) = some (ceF2.v.ren (rn [172, 169] 180), ceF2.bs.map (Blk.ren (rn [172, 169] 180))) := by kernel_rfl
theorem ceF2_ok [Sy] (hg : GlobOK Tryz.prog Sy.tab globs) : MemoOK Tryz.prog 15 ceF2 :=
  @memoOK_of _ Tryz.prog (Ec) (envC hg) (@idleC _) (@hooksC _) nameOK 15 3000 180 [172, 169] ceF2 ceF2_run rfl rfl (by decide)
def ceF3 : Memo := ⟨[.str [61, 67, 49]], .tup [.slo 0 0 1 1 14, .bool true], [.cells [.int .i64 (.ofNat 5), .int .i64 (.ofNat 0), .str [], .str [], .int .i64 (.ofNat 2), .int .i64 (.ofNat 0), .bool false, .bool false, .str [], .int .i64 (.ofNat 0), .int .i64 (.ofNat 0), .bool false, .bool false, .nils] 89 false]⟩
theorem ceF3_run : look [98] 108 (callOf (Ec) (exec (Ec) 3000) 15 ceF3.al ⟨.leaf, 0⟩) = some (ceF3.v.ren (rn [98] 108), ceF3.bs.map (Blk.ren (rn [98] 108))) := by kernel_rfl
theorem ceF3_ok [Sy] (hg : GlobOK Tryz.prog Sy.tab globs) : MemoOK Tryz.prog 15 ceF3 :=
  @memoOK_of _ Tryz.prog (Ec) (envC hg) (@idleC _) (@hooksC _) nameOK 15 3000 108 [98] ceF3 ceF3_run rfl rfl (by decide)
def ceF4 : Memo := ⟨[.str [61, 73, 83, 69, 82, 82, 40, 66, 49, 41]], .tup [.slo 0 0 2 2 14, .bool true], [.cells [.int .i64 (.ofNat 5), .int .i64 (.ofNat 0), .str [], .str [], .int .i64 (.ofNat 1), .int .i64 (.ofNat 0), .bool false, .bool false, .str [], .int .i64 (.ofNat 0), .int .i64 (.ofNat 0), .bool false, .bool false, .nils, .int .i64 (.ofNat 7), .int .i64 (.ofNat 0), .str [73, 83, 69, 82, 82], .str [], .int .i64 (.ofNat 0), .int .i64 (.ofNat 0), .bool false, .bool false, .str [], .int .i64 (.ofNat 0), .int .i64 (.ofNat 0), .bool false, .bool false, .slo 1 0 1 1 1] 89 false, .cells [.int .i64 (.ofNat 0)] 3 false]⟩
theorem ceF4_run : look [228, 221] 238 (callOf (Ec) (exec (Ec) 3000) 15 ceF4.al ⟨.leaf, 0⟩) = some (ceF4.v.ren (rn [228, 221] 238), ceF4.bs.map (Blk.ren (rn [228, 221] 238))) := by kernel_rfl
theorem ceF4_ok [Sy] (hg : GlobOK Tryz.prog Sy.tab globs) : MemoOK Tryz.prog 15 ceF4 :=
  @memoOK_of _ Tryz.prog (Ec) (envC hg) (@idleC _) (@hooksC _) nameOK 15 3000 238 [228, 221] ceF4 ceF4_run rfl rfl (by decide)
def ceF5 : Memo := ⟨[.str [61, 73, 83, 69, 82, 82, 40, 67, 49, 41]], .tup [.slo 0 0 2 2 14, .bool true], [.cells [.int .i64 (.ofNat 5), .int .i64 (.ofNat 0), .str [], .str [], .int .i64 (.ofNat 2), .int .i64 (.ofNat 0), .bool false, .bool false, .str [], .int .i64 (.ofNat 0), .int .i64 (.ofNat 0), .bool false, .bool false, .nils, .int .i64 (.ofNat 7), .int .i64 (.ofNat 0), .str [73, 83, 69, 82, 82], .str [], .int .i64 (.ofNat 0), .int .i64 (.ofNat 0), .bool false, .bool false, .str [], .int .i64 (.ofNat 0), .int .i64 (.ofNat 0), .bool false, .bool false, .slo 1 0 1 1 1] 89 false, .cells [.int .i64 (.ofNat 0)] 3 false]⟩
theorem ceF5_run : look [228, 221] 238 (callOf (Ec) (exec (Ec) 3000) 15 ceF5.al ⟨.leaf, 0⟩) = some (ceF5.v.ren (rn [228, 221] 238), ceF5.bs.map (Blk.ren (rn [228, 221] 238))) := by kernel_rfl
theorem ceF5_ok [Sy] (hg : GlobOK Tryz.prog Sy.tab globs) : MemoOK Tryz.prog 15 ceF5 :=
  @memoOK_of _ Tryz.prog (Ec) (envC hg) (@idleC _) (@hooksC _) nameOK 15 3000 238 [228, 221] ceF5 ceF5_run rfl rfl (by decide)
def ceF6 : Memo := ⟨[.str [61, 35, 82, 69, 70, 33]], .tup [.slo 0 0 1 1 14, .bool true], [.cells [.int .i64 (.ofNat 4), .int .i64 (.ofNat 0), .str [], .str [], .int .i64 (.ofNat 0), .int .i64 (.ofNat 0), .bool false, .bool false, .str [], .int .i64 (.ofNat 0), .int .i64 (.ofNat 0), .bool false, .bool false, .nils] 89 false]⟩
theorem ceF6_run : look [75] 85 (callOf (Ec) (exec (Ec) 3000) 15 ceF6.al ⟨.leaf, 0⟩) = some (ceF6.v.ren (rn [75] 85), ceF6.bs.map (Blk.ren (rn [75] 85))) := by kernel_rfl
theorem ceF6_ok [Sy] (hg : GlobOK Tryz.prog Sy.tab globs) : MemoOK Tryz.prog 15 ceF6 :=
  @memoOK_of _ Tryz.prog (Ec) (envC hg) (@idleC _) (@hooksC _) nameOK 15 3000 85 [75] ceF6 ceF6_run rfl rfl (by decide)
def ceF : List Memo := [ceF0, ceF1, ceF2, ceF3, ceF4, ceF5, ceF6]
theorem ceF_ok [Sy] (hg : GlobOK Tryz.prog Sy.tab globs) : ∀ m ∈ ceF, MemoOK Tryz.prog 15 m := by
  intro m hm
  simp only [ceF, List.mem_cons, List.not_mem_nil, or_false] at hm
  rcases hm with rfl | rfl | rfl | rfl | rfl | rfl | rfl
  · exact ceF0_ok hg
  · exact ceF1_ok hg
  · exact ceF2_ok hg
  · exact ceF3_ok hg
  · exact ceF4_ok hg
  · exact ceF5_ok hg
  · exact ceF6_ok hg
end
end VM
end Go.Proofs.YtehbfpcfbpbllaaGreatDoor
