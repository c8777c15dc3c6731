/- CalcRow at 10 cells: the kernel runs it. Written by crrun.py. -/
import Derived.Test.YtehbfpcfbpbllaaGreatDoorCREnv
namespace Go.Proofs.YtehbfpcfbpbllaaGreatDoor
namespace VM
open Go
theorem cr8ff : isV (callOf (Ecr 8) (exec (Ecr 8) 3000) 5 (argsCR false false) ⟨.leaf, 0⟩) = some (.bool true) := by kernel_rfl
theorem cr8ft : isV (callOf (Ecr 8) (exec (Ecr 8) 3000) 5 (argsCR false true) ⟨.leaf, 0⟩) = some (.bool true) := by kernel_rfl
end VM
end Go.Proofs.YtehbfpcfbpbllaaGreatDoor
