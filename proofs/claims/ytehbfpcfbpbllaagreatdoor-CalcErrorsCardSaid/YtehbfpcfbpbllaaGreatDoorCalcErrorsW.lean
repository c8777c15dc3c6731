/- law14.CalcErrors answers true. Written by cewalk.py. -/
import Derived.Test.YtehbfpcfbpbllaaGreatDoorCEErr
import Derived.Test.YtehbfpcfbpbllaaGreatDoorCECase0
import Derived.Test.YtehbfpcfbpbllaaGreatDoorCECase1
import Derived.Test.YtehbfpcfbpbllaaGreatDoorCECase2
import Derived.Test.YtehbfpcfbpbllaaGreatDoorCECase3
import Derived.Test.YtehbfpcfbpbllaaGreatDoorCECase4
import Derived.Test.YtehbfpcfbpbllaaGreatDoorCECase5
import Derived.Test.YtehbfpcfbpbllaaGreatDoorCECase6
import Derived.Test.YtehbfpcfbpbllaaGreatDoorCECase7
import Derived.Test.YtehbfpcfbpbllaaGreatDoorCECase8
import Derived.Test.YtehbfpcfbpbllaaGreatDoorCECase9
import Derived.Test.YtehbfpcfbpbllaaGreatDoorCECase10
import Derived.Test.YtehbfpcfbpbllaaGreatDoorCECase11
namespace Go.Proofs.YtehbfpcfbpbllaaGreatDoor
open Go Go.RowKit VM
set_option linter.unusedVariables false
set_option maxRecDepth 20000
theorem calcErrors_walk (W : World) (row n : Int) (w0 : (Lit.int .u16 row).wf = true) (w1 : (Lit.int .u8 n).wf = true) (htabs : Tabs W) :
    Calls Tryz.prog 4 #[.int .u16 row, .int .u8 n] W fun e W' => e = .returned (.bool true) ∧ Below W.heap.size W W' := by
  obtain ⟨htab, herr⟩ := htabs
  simp [Lit.wf, IntKind.min, IntKind.max, IntKind.signed, IntKind.bits] at w0 w1
  obtain ⟨g, hg⟩ : ∃ g, Tryz.prog.globalNamed "internal/strconv.uint64pow10" = some g := ⟨2, by kernel_rfl⟩
  obtain ⟨obj, hobj⟩ : ∃ obj, W.heap[g]? = some obj := by
    cases hw : W.heap[g]? with
    | some o => exact ⟨o, rfl⟩
    | none =>
      exfalso
      unfold Tab Lib.TabIs World.var? at htab
      simp [hg, hw] at htab
  obtain ⟨u, v, ty, fz, he⟩ := herr
  obtain ⟨o2, ho2⟩ : ∃ o2, o2 = Obj.cells #[.iface u v] ty fz := ⟨_, rfl⟩
  rw [← ho2] at he
  have hT : ∀ w : World, (∀ p ∈ [(g, obj), (0, o2)], w.heap[p.1]? = some p.2) → Tab w := fun w hw => by
    have h1 := hw (g, obj) (by simp)
    have h2 := htab
    unfold Tab Lib.TabIs World.var? at h2 ⊢
    simp only [hg, Option.bind_some, hobj] at h2 ⊢
    rw [h1]
    exact h2
  have hG : GlobOK Tryz.prog [(g, obj), (0, o2)] globs := globOK_of ho2
  have hW : ∀ p ∈ [(g, obj), (0, o2)], p.1 < W.heap.size ∧ W.heap[p.1]? = some p.2 := fun p hp => by
    simp only [List.mem_cons, List.not_mem_nil, or_false] at hp
    rcases hp with rfl | rfl
    · exact ⟨(Array.getElem?_eq_some_iff.1 hobj).1, hobj⟩
    · exact ⟨(Array.getElem?_eq_some_iff.1 he).1, he⟩
  clear htab
  obtain ⟨q, hq⟩ : ∃ q, q = row / 900 := ⟨_, rfl⟩
  obtain ⟨r, hr⟩ : ∃ r, r = row % 900 + 30 := ⟨_, rfl⟩
  have h1 : row = 900 * q + r - 30 := by omega
  have h2 : 0 ≤ q ∧ q ≤ 72 := by omega
  have h3 : 30 ≤ r ∧ r ≤ 929 := by omega
  clear hq hr
  have k1 : (r < 100) ∨ (100 ≤ r ∧ r < 900) ∨ (900 ≤ r) := by omega
  have k2 : (n = 0) ∨ (1 ≤ n ∧ n < 10) ∨ (10 ≤ n ∧ n < 100) ∨ (100 ≤ n) := by omega
  rcases k1 with k1 | k1 | k1 <;> rcases k2 with k2 | k2 | k2 | k2
  · exact ceCase0 (a := 0) (b := r / 10) (c := r % 10) (q := q) (d := 0) (e := 0) (f := 0) (by unfold ceB0; exact ⟨by omega, by omega, by omega, by omega, by omega, by omega, by omega, by omega, by omega, by omega, by omega, by omega, by omega, by omega, trivial⟩) hT hG W hW row n (by omega) (by omega)
  · exact ceCase1 (a := 0) (b := r / 10) (c := r % 10) (q := q) (d := 0) (e := 0) (f := n) (by unfold ceB1; exact ⟨by omega, by omega, by omega, by omega, by omega, by omega, by omega, by omega, by omega, by omega, by omega, by omega, by omega, by omega, trivial⟩) hT hG W hW row n (by omega) (by omega)
  · exact ceCase2 (a := 0) (b := r / 10) (c := r % 10) (q := q) (d := 0) (e := n / 10) (f := n % 10) (by unfold ceB2; exact ⟨by omega, by omega, by omega, by omega, by omega, by omega, by omega, by omega, by omega, by omega, by omega, by omega, by omega, by omega, trivial⟩) hT hG W hW row n (by omega) (by omega)
  · exact ceCase3 (a := 0) (b := r / 10) (c := r % 10) (q := q) (d := n / 100) (e := n / 10 % 10) (f := n % 10) (by unfold ceB3; exact ⟨by omega, by omega, by omega, by omega, by omega, by omega, by omega, by omega, by omega, by omega, by omega, by omega, by omega, by omega, trivial⟩) hT hG W hW row n (by omega) (by omega)
  · exact ceCase4 (a := r / 100) (b := r / 10 % 10) (c := r % 10) (q := q) (d := 0) (e := 0) (f := 0) (by unfold ceB4; exact ⟨by omega, by omega, by omega, by omega, by omega, by omega, by omega, by omega, by omega, by omega, by omega, by omega, by omega, by omega, trivial⟩) hT hG W hW row n (by omega) (by omega)
  · exact ceCase5 (a := r / 100) (b := r / 10 % 10) (c := r % 10) (q := q) (d := 0) (e := 0) (f := n) (by unfold ceB5; exact ⟨by omega, by omega, by omega, by omega, by omega, by omega, by omega, by omega, by omega, by omega, by omega, by omega, by omega, by omega, trivial⟩) hT hG W hW row n (by omega) (by omega)
  · exact ceCase6 (a := r / 100) (b := r / 10 % 10) (c := r % 10) (q := q) (d := 0) (e := n / 10) (f := n % 10) (by unfold ceB6; exact ⟨by omega, by omega, by omega, by omega, by omega, by omega, by omega, by omega, by omega, by omega, by omega, by omega, by omega, by omega, trivial⟩) hT hG W hW row n (by omega) (by omega)
  · exact ceCase7 (a := r / 100) (b := r / 10 % 10) (c := r % 10) (q := q) (d := n / 100) (e := n / 10 % 10) (f := n % 10) (by unfold ceB7; exact ⟨by omega, by omega, by omega, by omega, by omega, by omega, by omega, by omega, by omega, by omega, by omega, by omega, by omega, by omega, trivial⟩) hT hG W hW row n (by omega) (by omega)
  · exact ceCase8 (a := 0) (b := r / 10 % 10) (c := r % 10) (q := q) (d := 0) (e := 0) (f := 0) (by unfold ceB8; exact ⟨by omega, by omega, by omega, by omega, by omega, by omega, by omega, by omega, by omega, by omega, by omega, by omega, by omega, by omega, trivial⟩) hT hG W hW row n (by omega) (by omega)
  · exact ceCase9 (a := 0) (b := r / 10 % 10) (c := r % 10) (q := q) (d := 0) (e := 0) (f := n) (by unfold ceB9; exact ⟨by omega, by omega, by omega, by omega, by omega, by omega, by omega, by omega, by omega, by omega, by omega, by omega, by omega, by omega, trivial⟩) hT hG W hW row n (by omega) (by omega)
  · exact ceCase10 (a := 0) (b := r / 10 % 10) (c := r % 10) (q := q) (d := 0) (e := n / 10) (f := n % 10) (by unfold ceB10; exact ⟨by omega, by omega, by omega, by omega, by omega, by omega, by omega, by omega, by omega, by omega, by omega, by omega, by omega, by omega, trivial⟩) hT hG W hW row n (by omega) (by omega)
  · exact ceCase11 (a := 0) (b := r / 10 % 10) (c := r % 10) (q := q) (d := n / 100) (e := n / 10 % 10) (f := n % 10) (by unfold ceB11; exact ⟨by omega, by omega, by omega, by omega, by omega, by omega, by omega, by omega, by omega, by omega, by omega, by omega, by omega, by omega, trivial⟩) hT hG W hW row n (by omega) (by omega)
end Go.Proofs.YtehbfpcfbpbllaaGreatDoor
