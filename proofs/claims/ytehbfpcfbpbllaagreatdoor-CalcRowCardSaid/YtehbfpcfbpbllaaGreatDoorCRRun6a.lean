/- CalcRow at 8 cells: the kernel runs it. Written by crrun.py. -/
import Derived.Test.YtehbfpcfbpbllaaGreatDoorCREnv
namespace Go.Proofs.YtehbfpcfbpbllaaGreatDoor
namespace VM
open Go
theorem cr6ff : isV (callOf (Ecr 6) (exec (Ecr 6) 3000) 5 (argsCR false false) ⟨.leaf, 0⟩) = some (.bool true) := by kernel_rfl
theorem cr6ft : isV (callOf (Ecr 6) (exec (Ecr 6) 3000) 5 (argsCR false true) ⟨.leaf, 0⟩) = some (.bool true) := by kernel_rfl
end VM
end Go.Proofs.YtehbfpcfbpbllaaGreatDoor
