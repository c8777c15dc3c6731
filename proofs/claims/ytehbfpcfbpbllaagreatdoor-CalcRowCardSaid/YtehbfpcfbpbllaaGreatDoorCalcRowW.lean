/- law14.CalcRow answers true. -/
import Derived.Test.YtehbfpcfbpbllaaGreatDoorCRHooks
import Derived.Test.YtehbfpcfbpbllaaGreatDoorCRRun0
import Derived.Test.YtehbfpcfbpbllaaGreatDoorCRRun1
import Derived.Test.YtehbfpcfbpbllaaGreatDoorCRRun2
import Derived.Test.YtehbfpcfbpbllaaGreatDoorCRRun3
import Derived.Test.YtehbfpcfbpbllaaGreatDoorCRRun4
import Derived.Test.YtehbfpcfbpbllaaGreatDoorCRRun5
import Derived.Test.YtehbfpcfbpbllaaGreatDoorCRRun6a
import Derived.Test.YtehbfpcfbpbllaaGreatDoorCRRun6b
import Derived.Test.YtehbfpcfbpbllaaGreatDoorCRRun7a
import Derived.Test.YtehbfpcfbpbllaaGreatDoorCRRun7b
import Derived.Test.YtehbfpcfbpbllaaGreatDoorCRRun8a
import Derived.Test.YtehbfpcfbpbllaaGreatDoorCRRun8b
namespace Go.Proofs.YtehbfpcfbpbllaaGreatDoor
open Go Go.RowKit VM
theorem isV_some {r : Option (V × Hp)} {v : V} (h : isV r = some v) : ∃ h', r = some (v, h') := by
  cases r with
  | none => cases h
  | some p => obtain ⟨a, b⟩ := p; cases h; exact ⟨b, rfl⟩
theorem runs_all (m : Nat) (hm : m < 9) (up sheets : Bool) : isV (callOf (Ecr m) (exec (Ecr m) 3000) 5 (argsCR up sheets) ⟨.leaf, 0⟩) = some (.bool true) := by
  rcases (by omega : m = 0 ∨ m = 1 ∨ m = 2 ∨ m = 3 ∨ m = 4 ∨ m = 5 ∨ m = 6 ∨ m = 7 ∨ m = 8) with rfl | rfl | rfl | rfl | rfl | rfl | rfl | rfl | rfl <;> cases up <;> cases sheets
  · exact cr0ff
  · exact cr0ft
  · exact cr0tf
  · exact cr0tt
  · exact cr1ff
  · exact cr1ft
  · exact cr1tf
  · exact cr1tt
  · exact cr2ff
  · exact cr2ft
  · exact cr2tf
  · exact cr2tt
  · exact cr3ff
  · exact cr3ft
  · exact cr3tf
  · exact cr3tt
  · exact cr4ff
  · exact cr4ft
  · exact cr4tf
  · exact cr4tt
  · exact cr5ff
  · exact cr5ft
  · exact cr5tf
  · exact cr5tt
  · exact cr6ff
  · exact cr6ft
  · exact cr6tf
  · exact cr6tt
  · exact cr7ff
  · exact cr7ft
  · exact cr7tf
  · exact cr7tt
  · exact cr8ff
  · exact cr8ft
  · exact cr8tf
  · exact cr8tt
theorem calcRow_walk (W : World) (n start : Int) (up sheets : Bool) (w0 : (Lit.int .u8 n).wf = true) (w1 : (Lit.int .i16 start).wf = true) (htab : Tab W) :
    Calls Tryz.prog 5 #[.int .u8 n, .int .i16 start, .bool up, .bool sheets] W fun e W' => e = .returned (.bool true) ∧ Below W.heap.size W W' := by
  simp [Lit.wf, IntKind.min, IntKind.max, IntKind.signed, IntKind.bits] at w0 w1
  obtain ⟨m, hm⟩ : ∃ m : Nat, n % 9 = m := ⟨(n % 9).toNat, by omega⟩
  have f : Fit n start m := ⟨by omega, by omega, hm, by omega, by omega⟩
  obtain ⟨g, hg⟩ : ∃ g, Tryz.prog.globalNamed "internal/strconv.uint64pow10" = some g := ⟨2, by kernel_rfl⟩
  obtain ⟨obj, hobj⟩ : ∃ obj, W.heap[g]? = some obj := by
    cases hw : W.heap[g]? with
    | some o => exact ⟨o, rfl⟩
    | none =>
      exfalso
      unfold Tab Lib.TabIs World.var? at htab
      simp [hg, hw] at htab
  have hT : ∀ w : World, (∀ p ∈ [(g, obj)], w.heap[p.1]? = some p.2) → Tab w := fun w hw => by
    have h1 := hw (g, obj) (by simp)
    have h2 := htab
    unfold Tab Lib.TabIs World.var? at h2 ⊢
    simp only [hg, Option.bind_some, hobj] at h2 ⊢
    rw [h1]
    exact h2
  letI := syCR n start [(g, obj)]
  obtain ⟨h', hr⟩ := isV_some (runs_all m (by omega) up sheets)
  have R : Rel W.heap.size (fun _ => none) ⟨.leaf, 0⟩ W := Rel.none W fun p hp => by
    rw [List.mem_singleton.1 hp]
    exact ⟨(Array.getElem?_eq_some_iff.1 hobj).1, hobj⟩
  have i1 : Sy.i (self := syCR n start [(g, obj)]) 1 = start := by
    show iA n start (firstC start) 1 = start
    unfold iA; rw [if_neg (by omega), if_pos (by omega)]; omega
  have ra : RepL (fun _ => none) (argsCR up sheets) [.int .u8 n, .int .i16 start, .bool up, .bool sheets] := by
    have h1 := Rep.symI (σ := fun _ => none) .i16 1
    rw [i1] at h1
    exact .cons _ _ _ _ (.symI .u8 0) (.cons _ _ _ _ h1 (.cons _ _ _ _ (.bool _) (.cons _ _ _ _ (.bool _) .nil)))
  have C := @runs (syCR n start [(g, obj)]) Tryz.prog (Ecr m) (envOKcr f hT) (@idleOKcr _ m) (@hooksOKcr n start m f [(g, obj)] hT) (@nameOK _) 5 _ Tryz.func5 (by kernel_rfl) _ _ _ _ _ hr _ _ _ _ R ra
  refine C.mono ?_
  rintro e w2 ⟨x, rfl, σ, _, _, h2, _, h4⟩
  cases h2
  exact ⟨rfl, h4⟩
end Go.Proofs.YtehbfpcfbpbllaaGreatDoor
