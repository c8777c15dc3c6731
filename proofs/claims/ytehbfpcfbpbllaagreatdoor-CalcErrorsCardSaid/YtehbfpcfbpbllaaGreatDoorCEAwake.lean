/- law14.awake: the kernel runs it. -/
import Derived.Test.YtehbfpcfbpbllaaGreatDoorVmN
import Derived.Test.YtehbfpcfbpbllaaGreatDoorVmZ
namespace Go.Proofs.YtehbfpcfbpbllaaGreatDoor
namespace VM
open Go
set_option linter.unusedSectionVars false
noncomputable section
def awakeMemo : Memo := ⟨[], .bool true, []⟩
variable [Sy]
theorem awakeMemo_run : look [] 1000000 (callOf E (exec E 3000) 6 awakeMemo.al ⟨.leaf, 0⟩) = some (awakeMemo.v.ren (rn [] 1000000), awakeMemo.bs.map (Blk.ren (rn [] 1000000))) := by kernel_rfl
set_option maxRecDepth 20000 in
theorem awakeMemo_ok : MemoOK Tryz.prog 6 awakeMemo :=
  @memoOK_of _ Tryz.prog E envOK (@idleOK _) (@hooksOK _) nameOK 6 3000 1000000 [] awakeMemo awakeMemo_run rfl rfl (by decide)
end
end VM
end Go.Proofs.YtehbfpcfbpbllaaGreatDoor
