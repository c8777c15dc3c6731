/- CalcRow at 9 cells: the kernel runs it. Written by crrun.py. -/
import Derived.Test.YtehbfpcfbpbllaaGreatDoorCREnv
namespace Go.Proofs.YtehbfpcfbpbllaaGreatDoor
namespace VM
open Go
theorem cr7tf : isV (callOf (Ecr 7) (exec (Ecr 7) 3000) 5 (argsCR true false) ⟨.leaf, 0⟩) = some (.bool true) := by kernel_rfl
theorem cr7tt : isV (callOf (Ecr 7) (exec (Ecr 7) 3000) 5 (argsCR true true) ⟨.leaf, 0⟩) = some (.bool true) := by kernel_rfl
end VM
end Go.Proofs.YtehbfpcfbpbllaaGreatDoor
