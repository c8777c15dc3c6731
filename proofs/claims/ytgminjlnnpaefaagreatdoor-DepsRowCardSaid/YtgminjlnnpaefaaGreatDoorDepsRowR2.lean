/- DepsRow: the kernel runs it. -/
import Derived.Test.YtgminjlnnpaefaaGreatDoorDepsRowA
namespace Go.Proofs.YtgminjlnnpaefaaGreatDoor
open Go
theorem rowRun_6_false (n m : Int) : VM.seeS (VM.exec VM.E2 3000 rowRest (VM.st0 n m 6 false)) = true := by kernel_rfl
theorem rowRun_6_true (n m : Int) : VM.seeS (VM.exec VM.E2 3000 rowRest (VM.st0 n m 6 true)) = true := by kernel_rfl
theorem rowRun_7_false (n m : Int) : VM.seeS (VM.exec VM.E2 3000 rowRest (VM.st0 n m 7 false)) = true := by kernel_rfl
theorem rowRun_7_true (n m : Int) : VM.seeS (VM.exec VM.E2 3000 rowRest (VM.st0 n m 7 true)) = true := by kernel_rfl
end Go.Proofs.YtgminjlnnpaefaaGreatDoor
