/- CalcRow at 3 cells: the kernel runs it. Written by crrun.py. -/
import Derived.Test.YtehbfpcfbpbllaaGreatDoorCREnv
namespace Go.Proofs.YtehbfpcfbpbllaaGreatDoor
namespace VM
open Go
theorem cr1ff : isV (callOf (Ecr 1) (exec (Ecr 1) 3000) 5 (argsCR false false) ⟨.leaf, 0⟩) = some (.bool true) := by kernel_rfl
theorem cr1ft : isV (callOf (Ecr 1) (exec (Ecr 1) 3000) 5 (argsCR false true) ⟨.leaf, 0⟩) = some (.bool true) := by kernel_rfl
theorem cr1tf : isV (callOf (Ecr 1) (exec (Ecr 1) 3000) 5 (argsCR true false) ⟨.leaf, 0⟩) = some (.bool true) := by kernel_rfl
theorem cr1tt : isV (callOf (Ecr 1) (exec (Ecr 1) 3000) 5 (argsCR true true) ⟨.leaf, 0⟩) = some (.bool true) := by kernel_rfl
end VM
end Go.Proofs.YtehbfpcfbpbllaaGreatDoor
