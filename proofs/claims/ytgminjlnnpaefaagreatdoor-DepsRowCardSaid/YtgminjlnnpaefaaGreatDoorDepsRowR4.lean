/- DepsRow: the kernel runs it. -/
import Derived.Test.YtgminjlnnpaefaaGreatDoorDepsRowA
namespace Go.Proofs.YtgminjlnnpaefaaGreatDoor
open Go
theorem rowRun_10_false (n m : Int) : VM.seeS (VM.exec VM.E2 3000 rowRest (VM.st0 n m 10 false)) = true := by kernel_rfl
theorem rowRun_10_true (n m : Int) : VM.seeS (VM.exec VM.E2 3000 rowRest (VM.st0 n m 10 true)) = true := by kernel_rfl
theorem rowRun_11_false (n m : Int) : VM.seeS (VM.exec VM.E2 3000 rowRest (VM.st0 n m 11 false)) = true := by kernel_rfl
theorem rowRun_11_true (n m : Int) : VM.seeS (VM.exec VM.E2 3000 rowRest (VM.st0 n m 11 true)) = true := by kernel_rfl
end Go.Proofs.YtgminjlnnpaefaaGreatDoor
