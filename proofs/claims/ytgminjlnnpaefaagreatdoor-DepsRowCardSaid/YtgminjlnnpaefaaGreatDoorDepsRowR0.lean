/- DepsRow: the kernel runs it. -/
import Derived.Test.YtgminjlnnpaefaaGreatDoorDepsRowA
namespace Go.Proofs.YtgminjlnnpaefaaGreatDoor
open Go
theorem rowRun_2_false (n m : Int) : VM.seeS (VM.exec VM.E2 3000 rowRest (VM.st0 n m 2 false)) = true := by kernel_rfl
theorem rowRun_2_true (n m : Int) : VM.seeS (VM.exec VM.E2 3000 rowRest (VM.st0 n m 2 true)) = true := by kernel_rfl
theorem rowRun_3_false (n m : Int) : VM.seeS (VM.exec VM.E2 3000 rowRest (VM.st0 n m 3 false)) = true := by kernel_rfl
theorem rowRun_3_true (n m : Int) : VM.seeS (VM.exec VM.E2 3000 rowRest (VM.st0 n m 3 true)) = true := by kernel_rfl
end Go.Proofs.YtgminjlnnpaefaaGreatDoor
