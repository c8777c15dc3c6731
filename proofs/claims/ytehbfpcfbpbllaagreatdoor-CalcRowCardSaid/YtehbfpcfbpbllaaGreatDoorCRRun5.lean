/- CalcRow at 7 cells: the kernel runs it. Written by crrun.py. -/
import Derived.Test.YtehbfpcfbpbllaaGreatDoorCREnv
namespace Go.Proofs.YtehbfpcfbpbllaaGreatDoor
namespace VM
open Go
theorem cr5ff : isV (callOf (Ecr 5) (exec (Ecr 5) 3000) 5 (argsCR false false) ⟨.leaf, 0⟩) = some (.bool true) := by kernel_rfl
theorem cr5ft : isV (callOf (Ecr 5) (exec (Ecr 5) 3000) 5 (argsCR false true) ⟨.leaf, 0⟩) = some (.bool true) := by kernel_rfl
theorem cr5tf : isV (callOf (Ecr 5) (exec (Ecr 5) 3000) 5 (argsCR true false) ⟨.leaf, 0⟩) = some (.bool true) := by kernel_rfl
theorem cr5tt : isV (callOf (Ecr 5) (exec (Ecr 5) 3000) 5 (argsCR true true) ⟨.leaf, 0⟩) = some (.bool true) := by kernel_rfl
end VM
end Go.Proofs.YtehbfpcfbpbllaaGreatDoor
