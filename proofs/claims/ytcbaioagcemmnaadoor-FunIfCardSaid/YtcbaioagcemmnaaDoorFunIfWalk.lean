/- The walk of FunIf: the four cases joined. -/
import Derived.Test.YtcbaioagcemmnaaDoorFunIfErr
import Derived.Test.YtcbaioagcemmnaaDoorFunIfBad
import Derived.Test.YtcbaioagcemmnaaDoorFunIfYes
import Derived.Test.YtcbaioagcemmnaaDoorFunIfNo
namespace Go.Proofs.YtcbaioagcemmnaaDoor
open Go.RowKit Go.Maps
theorem funIf_walk (w : World) (c0 k0 l0 n : Int) (h1 : (Lit.int .u8 c0).wf = true) (h2 : (Lit.int .u8 k0).wf = true) (h3 : (Lit.int .u8 l0).wf = true) (h4 : (Lit.int .i64 n).wf = true) :
    Calls Tryd.prog 4 #[.int .u8 c0, .int .u8 k0, .int .u8 l0, .int .i64 n] w fun e w' => e = .returned (.bool true) ∧ Below w.heap.size w w' := by
  have nat8 : ∀ z : Int, (Lit.int .u8 z).wf = true → ∃ q : Nat, z = (q : Int) ∧ q < 256 := fun z h => by
    simp [Lit.wf, IntKind.min, IntKind.max, IntKind.signed, IntKind.bits] at h; exact ⟨z.toNat, by omega, by omega⟩
  obtain ⟨c, rfl, _⟩ := nat8 c0 h1
  obtain ⟨k, rfl, _⟩ := nat8 k0 h2
  obtain ⟨l, rfl, _⟩ := nat8 l0 h3
  have rn := inR_wf.1 h4
  by_cases q4 : (c : Int) % 5 = 4
  · exact funIf_Err w c k l n q4 rn
  by_cases q2 : (c : Int) % 5 = 2
  · exact funIf_Bad w c k l n q2 rn
  by_cases hx : (vmake c n ⟨#[116]⟩).2.1 = 0
  · exact funIf_No w c k l n ⟨q4, q2⟩ hx rn
  · exact funIf_Yes w c k l n ⟨q4, q2⟩ hx rn
end Go.Proofs.YtcbaioagcemmnaaDoor
