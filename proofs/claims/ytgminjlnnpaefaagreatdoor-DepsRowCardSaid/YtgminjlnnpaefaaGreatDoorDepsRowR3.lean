/- DepsRow: the kernel runs it. -/
import Derived.Test.YtgminjlnnpaefaaGreatDoorDepsRowA
namespace Go.Proofs.YtgminjlnnpaefaaGreatDoor
open Go
theorem rowRun_8_false (n m : Int) : VM.seeS (VM.exec VM.E2 3000 rowRest (VM.st0 n m 8 false)) = true := by kernel_rfl
theorem rowRun_8_true (n m : Int) : VM.seeS (VM.exec VM.E2 3000 rowRest (VM.st0 n m 8 true)) = true := by kernel_rfl
theorem rowRun_9_false (n m : Int) : VM.seeS (VM.exec VM.E2 3000 rowRest (VM.st0 n m 9 false)) = true := by kernel_rfl
theorem rowRun_9_true (n m : Int) : VM.seeS (VM.exec VM.E2 3000 rowRest (VM.st0 n m 9 true)) = true := by kernel_rfl
end Go.Proofs.YtgminjlnnpaefaaGreatDoor
