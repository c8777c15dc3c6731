/- awake, by the machine: the kernel runs it. -/
import Derived.Test.YtgminjlnnpaefaaGreatDoorVmZ
namespace Go.Proofs.YtgminjlnnpaefaaGreatDoor.VM
open Go
open Go.RowKit
theorem isV_some {r : Option (V × Hp)} {v : V} (h : isV r = some v) : ∃ h', r = some (v, h') := by
  cases r with
  | none => cases h
  | some p => obtain ⟨a, b⟩ := p; cases h; exact ⟨b, rfl⟩
theorem awake_run : isV (callOf E (exec E 3000) 7 [] ⟨.leaf, 0⟩) = some (.bool true) := by kernel_rfl
theorem awake_any (w : World) : Calls Tryz.prog 7 #[] w fun e w' => e = .returned (.bool true) ∧ Below w.heap.size w w' := by
  obtain ⟨h', hr⟩ := isV_some awake_run
  have h1 := calls_of_run Tryz.func7 rfl hr (Rel.none w) RepL.nil
  refine Calls.mono h1 ?_
  rintro e w2 ⟨x, rfl, σ, _, _, h2, _, h4⟩
  cases h2
  exact ⟨rfl, h4⟩
end Go.Proofs.YtgminjlnnpaefaaGreatDoor.VM
