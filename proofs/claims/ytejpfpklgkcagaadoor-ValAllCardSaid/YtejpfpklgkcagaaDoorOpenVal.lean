/- An argument that is a value (kind, number, text), opened and shut. -/
import Derived.Test.YtejpfpklgkcagaaDoorRows
import Derived.Test.YtejpfpklgkcagaaDoorChecked
import Derived.WalkKit
import Derived.ProofKit
import Derived.OpenShut
import Derived.ShutString
import Derived.ChangeOld
import Derived.Deep.DeepHandedRow
import Derived.Deep.Strs
namespace Go.Proofs.YtejpfpklgkcagaaDoor
open Go.ChangeShapes Go.WideShapes Go.ChangeAt Go.RowKit
set_option maxRecDepth 100000 in
theorem open_val {H : Type} {enc : TypeId × Value → H} {w : World} {base : Nat} {spare : Nat → Bool} {held : Bool} {r : Reach} {b0 : Nat} {v : Value} {d : DataW H} {p : List MemPlace}
    (hval : Value.okWide Tryd.prog w r b0 24 v) (h : DataW.Trod enc Tryd.prog w base spare held 24 v d p) :
    ∃ k n s, v = .agg #[.int .i64 k, .int .i64 n, .string s] ∧ d = .agg [.lit (.int .i64 k), .lit (.int .i64 n), .lit (.string s.data.toList)] ∧ p = [] ∧ (Lit.int .i64 k).wf = true ∧ (Lit.int .i64 n).wf = true ∧ s.size ≤ maxLen := by
  obtain ⟨cs, rfl, hcs⟩ := okWide_struct Tryd.underlying24 hval
  obtain ⟨fuel, hf⟩ := h
  obtain ⟨y0, y1, y2, n, hx, hl, h0, h1, h2⟩ := Go.Deep.trod_struct3 Tryd.underlying24 hf
  have hc : Tryd.prog.cellsOf 24 = 3 := by kernel_rfl
  have hc9 : Tryd.prog.cellsOf 9 = 1 := by kernel_rfl
  have hc3 : Tryd.prog.cellsOf 3 = 1 := by kernel_rfl
  rw [hc] at hcs
  obtain ⟨u0, u1, u2, rfl⟩ : ∃ u0 u1 u2, cs = #[u0, u1, u2] := by
    obtain ⟨l⟩ := cs
    match l, hcs with
    | [u0, u1, u2], _ => exact ⟨u0, u1, u2, rfl⟩
  simp only [hc9, hc3, Value.cells, List.drop_zero, List.drop_succ_cons, List.take_succ_cons, List.take_zero] at h0 h1 h2
  obtain ⟨k, e0, g0, w0⟩ := DataW.trod_int Tryd.underlying3 h0
  obtain ⟨m, e1, g1, w1⟩ := DataW.trod_int Tryd.underlying3 h1
  obtain ⟨s, e2, g2, w2⟩ := DataW.trod_string Tryd.underlying9 h2
  simp only [List.cons.injEq, and_true] at e0 e1 e2
  subst e0 e1 e2
  subst g0 g1 g2
  have hd : d = .agg [.lit (.int .i64 k), .lit (.int .i64 m), .lit (.string s.data.toList)] := congrArg Prod.fst hx
  have hp : p = [] := congrArg Prod.snd hx
  exact ⟨k, m, s, rfl, hd, hp, w0, w1, w2⟩
theorem string_mk {H : Type} {enc : TypeId × Value → H} {w : World} {base : Nat} {spare : Nat → Bool} {held : Bool} {s : ByteArray} (m : Nat) (hs : s.size ≤ maxLen) :
    DataW.trod enc Tryd.prog w base spare held (m + 1) 9 [.string s] = some (.lit (.string s.data.toList), []) := by
  simp [DataW.trod, Tryd.underlying9, hs]
set_option maxRecDepth 100000 in
theorem shut_val {H : Type} {enc : TypeId × Value → H} {w : World} {base : Nat} {spare : Nat → Bool} {held : Bool} {k n : Int} {s : ByteArray} (w0 : (Lit.int .i64 k).wf = true) (w1 : (Lit.int .i64 n).wf = true) (w2 : s.size ≤ maxLen) :
    DataW.Trod enc Tryd.prog w base spare held 24 (.agg #[.int .i64 k, .int .i64 n, .string s]) (.agg [.lit (.int .i64 k), .lit (.int .i64 n), .lit (.string s.data.toList)]) [] := by
  have hc : Tryd.prog.cellsOf 24 = 3 := by kernel_rfl
  have hc9 : Tryd.prog.cellsOf 9 = 1 := by kernel_rfl
  have hc3 : Tryd.prog.cellsOf 3 = 1 := by kernel_rfl
  refine ⟨2, ?_⟩
  have := Go.Deep.trod_struct3_mk (enc := enc) (w := w) (base := base) (spare := spare) (held := held) (n := 1) (cs := [.int .i64 k, .int .i64 n, .string s]) (y0 := (.lit (.int .i64 k), [])) (y1 := (.lit (.int .i64 n), [])) (y2 := (.lit (.string s.data.toList), [])) Tryd.underlying24 (by rw [hc]; rfl)
    (by rw [hc3]; exact trod_int_mk 0 Tryd.underlying3 w0) (by rw [hc3]; exact trod_int_mk 0 Tryd.underlying3 w1) (by rw [hc9]; exact string_mk 0 w2)
  exact this
end Go.Proofs.YtejpfpklgkcagaaDoor
