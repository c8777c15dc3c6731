/- DepsRow: the kernel runs it. -/
import Derived.Test.YtgminjlnnpaefaaGreatDoorDepsRowA
namespace Go.Proofs.YtgminjlnnpaefaaGreatDoor
open Go
theorem rowRun_4_false (n m : Int) : VM.seeS (VM.exec VM.E2 3000 rowRest (VM.st0 n m 4 false)) = true := by kernel_rfl
theorem rowRun_4_true (n m : Int) : VM.seeS (VM.exec VM.E2 3000 rowRest (VM.st0 n m 4 true)) = true := by kernel_rfl
theorem rowRun_5_false (n m : Int) : VM.seeS (VM.exec VM.E2 3000 rowRest (VM.st0 n m 5 false)) = true := by kernel_rfl
theorem rowRun_5_true (n m : Int) : VM.seeS (VM.exec VM.E2 3000 rowRest (VM.st0 n m 5 true)) = true := by kernel_rfl
end Go.Proofs.YtgminjlnnpaefaaGreatDoor
