/- CalcRow at 6 cells: the kernel runs it. Written by crrun.py. -/
import Derived.Test.YtehbfpcfbpbllaaGreatDoorCREnv
namespace Go.Proofs.YtehbfpcfbpbllaaGreatDoor
namespace VM
open Go
theorem cr4ff : isV (callOf (Ecr 4) (exec (Ecr 4) 3000) 5 (argsCR false false) ⟨.leaf, 0⟩) = some (.bool true) := by kernel_rfl
theorem cr4ft : isV (callOf (Ecr 4) (exec (Ecr 4) 3000) 5 (argsCR false true) ⟨.leaf, 0⟩) = some (.bool true) := by kernel_rfl
theorem cr4tf : isV (callOf (Ecr 4) (exec (Ecr 4) 3000) 5 (argsCR true false) ⟨.leaf, 0⟩) = some (.bool true) := by kernel_rfl
theorem cr4tt : isV (callOf (Ecr 4) (exec (Ecr 4) 3000) 5 (argsCR true true) ⟨.leaf, 0⟩) = some (.bool true) := by kernel_rfl
end VM
end Go.Proofs.YtehbfpcfbpbllaaGreatDoor
