/- The machine at given texts, strconv's errors standing for something; law14.awake. -/
import Derived.Test.YtehbfpcfbpbllaaGreatDoorSyE
namespace Go.Proofs.YtehbfpcfbpbllaaGreatDoor
namespace VM
open Go Go.RowKit
set_option linter.unusedVariables false
set_option linter.unusedSectionVars false
set_option maxRecDepth 20000
noncomputable section
theorem isV_some {r : Option (V × Hp)} {v : V} (h : isV r = some v) : ∃ h', r = some (v, h') := by
  cases r with
  | none => cases h
  | some p => obtain ⟨a, b⟩ := p; cases h; exact ⟨b, rfl⟩
def soG (gl : List (Nat × TypeId)) (o : SOp) (al : List V) : Option V :=
  match o with
  | .glob g off t => bif Nat.beq off 0 && memG gl g t then some .any else none
  | _ => none
def Ec : Env := Env.of Tryz.prog (hooksOf [(220, idxH)]) idles (soG globs)
section
variable [Sy]
theorem idleC : IdleOK Tryz.prog Ec := @idleOK _
theorem hooksC : HooksOK Tryz.prog Ec := by
  intro f g hg
  exact hooksOf_ok (l := [(220, idxH)]) (fun p hp => by rw [List.mem_singleton.1 hp]; exact idxH_ok) hg
theorem envC (hg : GlobOK Tryz.prog Sy.tab globs) : EnvOK Tryz.prog Ec := by
  refine envOK_so _ _ _ _ (by kernel_rfl) ⟨fun _ _ _ _ h => (by cases h), fun _ _ _ h => (by cases h), fun _ _ _ _ h => (by cases h), fun _ _ h => (by cases h), fun _ _ _ _ h => (by cases h), fun _ _ h => (by cases h), fun _ _ h => (by cases h), fun _ _ _ h => (by cases h), fun _ _ _ h => (by cases h)⟩ ?_
  intro g off t v h w hw
  simp only [soG] at h
  cases hq : (Nat.beq off 0 && memG globs g t) with
  | false => rw [hq] at h; cases h
  | true =>
    rw [hq] at h
    cases h
    simp only [Bool.and_eq_true, Nat.beq_eq] at hq
    obtain ⟨rfl, h2⟩ := hq
    obtain ⟨x, h3, h4⟩ := hg _ (memG_in h2) w hw
    exact ⟨x, h3, fun σ => .any x h4⟩
end
end
end VM
end Go.Proofs.YtehbfpcfbpbllaaGreatDoor
