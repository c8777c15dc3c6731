/- law13's machine with what is known of awake, cell.Formula, cell.May at the texts of a row. -/
import Derived.Test.YtgminjlnnpaefaaGreatDoorDRMemoF
import Derived.Test.YtgminjlnnpaefaaGreatDoorDRMemoM
import Derived.Test.YtgminjlnnpaefaaGreatDoorVmAwake
namespace Go.Proofs.YtgminjlnnpaefaaGreatDoor.VM
open Go
noncomputable section
def awakeMemo : Memo := ⟨[], .bool true, []⟩
theorem awakeMemo_run : look [] 1000000 (callOf E (exec E 3000) 7 awakeMemo.al ⟨.leaf, 0⟩) = some (awakeMemo.v.ren (rn [] 1000000), awakeMemo.bs.map (Blk.ren (rn [] 1000000))) := by kernel_rfl
set_option maxRecDepth 20000 in
theorem awakeMemo_ok : MemoOK Tryz.prog 7 awakeMemo :=
  @memoOK_of Tryz.prog E envOK @idleOK @hooksOK nameOK 7 3000 1000000 [] awakeMemo awakeMemo_run rfl rfl (by decide)
def hooks2 : Nat → Option (List V → Hp → Option (V × Hp)) := fun f =>
  bif Nat.beq f 166 then some idxH else
  bif Nat.beq f 23 then some (memoH dr_cell_Formula) else
  bif Nat.beq f 30 then some (memoH dr_cell_May) else
  bif Nat.beq f 7 then some (memoH [awakeMemo]) else none
def E2 : Env := Env.of Tryz.prog hooks2 idles
theorem envOK2 : EnvOK Tryz.prog E2 := envOK_of _ _ _ (by kernel_rfl)
theorem idleOK2 : IdleOK Tryz.prog E2 := @idleOK
theorem hook_idx : E.hook 166 = some idxH := rfl
set_option maxRecDepth 20000 in
theorem hooksOK2 : HooksOK Tryz.prog E2 := by
  intro f g hg N al h v h' hc σ w xs R hr
  have hg' : hooks2 f = some g := hg
  unfold hooks2 at hg'
  cases h1 : Nat.beq f 166 with
  | true =>
    have := Nat.eq_of_beq_eq_true h1
    subst this
    rw [h1] at hg'
    cases hg'
    exact @hooksOK 166 idxH hook_idx N al h v h' hc σ w xs R hr
  | false =>
    rw [h1] at hg'
    cases h2 : Nat.beq f 23 with
    | true =>
      have := Nat.eq_of_beq_eq_true h2
      subst this
      rw [h2] at hg'
      cases hg'
      exact @memoH_sound Tryz.prog 23 dr_cell_Formula @dr_cell_Formula_ok N al h v h' hc σ w xs R hr
    | false =>
      rw [h2] at hg'
      cases h3 : Nat.beq f 30 with
      | true =>
        have := Nat.eq_of_beq_eq_true h3
        subst this
        rw [h3] at hg'
        cases hg'
        exact @memoH_sound Tryz.prog 30 dr_cell_May @dr_cell_May_ok N al h v h' hc σ w xs R hr
      | false =>
        rw [h3] at hg'
        cases h4 : Nat.beq f 7 with
        | true =>
          have := Nat.eq_of_beq_eq_true h4
          subst this
          rw [h4] at hg'
          cases hg'
          exact @memoH_sound Tryz.prog 7 [awakeMemo] (fun m hm => by rw [List.mem_singleton.1 hm]; exact @awakeMemo_ok) N al h v h' hc σ w xs R hr
        | false => rw [h4] at hg'; cases hg'
set_option maxRecDepth 20000 in
/-- the code runs as the machine does -/
theorem exec_ok2 : ExecOK Tryz.prog (exec E2 3000) := (@exec_ok Tryz.prog E2 envOK2 @idleOK2 @hooksOK2 nameOK 3000).1
end
end Go.Proofs.YtgminjlnnpaefaaGreatDoor.VM
