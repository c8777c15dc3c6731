/- CalcRow at 5 cells: the kernel runs it. Written by crrun.py. -/
import Derived.Test.YtehbfpcfbpbllaaGreatDoorCREnv
namespace Go.Proofs.YtehbfpcfbpbllaaGreatDoor
namespace VM
open Go
theorem cr3ff : isV (callOf (Ecr 3) (exec (Ecr 3) 3000) 5 (argsCR false false) ⟨.leaf, 0⟩) = some (.bool true) := by kernel_rfl
theorem cr3ft : isV (callOf (Ecr 3) (exec (Ecr 3) 3000) 5 (argsCR false true) ⟨.leaf, 0⟩) = some (.bool true) := by kernel_rfl
theorem cr3tf : isV (callOf (Ecr 3) (exec (Ecr 3) 3000) 5 (argsCR true false) ⟨.leaf, 0⟩) = some (.bool true) := by kernel_rfl
theorem cr3tt : isV (callOf (Ecr 3) (exec (Ecr 3) 3000) 5 (argsCR true true) ⟨.leaf, 0⟩) = some (.bool true) := by kernel_rfl
end VM
end Go.Proofs.YtehbfpcfbpbllaaGreatDoor
