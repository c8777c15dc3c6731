/- An argument that is a spot (text, number, number), opened and shut. -/
import Derived.Test.YtgminjlnnpaefaaGreatDoorRows
import Derived.Test.YtgminjlnnpaefaaGreatDoorChecked
import Derived.WalkKit
import Derived.ProofKit
import Derived.OpenShut
import Derived.ShutString
import Derived.ChangeOld
import Derived.Deep.DeepHandedRow
import Derived.Deep.Strs
namespace Go.Proofs.YtgminjlnnpaefaaGreatDoor
open Go.ChangeShapes Go.WideShapes Go.ChangeAt Go.RowKit
set_option maxRecDepth 100000 in
theorem open_spot {H : Type} {enc : TypeId × Value → H} {w : World} {base : Nat} {spare : Nat → Bool} {held : Bool} {r : Reach} {b0 : Nat} {v : Value} {d : DataW H} {p : List MemPlace}
    (hval : Value.okWide Tryz.prog w r b0 23 v) (h : DataW.Trod enc Tryz.prog w base spare held 23 v d p) :
    ∃ s n k, v = .agg #[.string s, .int .i64 n, .int .i64 k] ∧ d = .agg [.lit (.string s.data.toList), .lit (.int .i64 n), .lit (.int .i64 k)] ∧ p = [] ∧ s.size ≤ maxLen ∧ (Lit.int .i64 n).wf = true ∧ (Lit.int .i64 k).wf = true := by
  obtain ⟨cs, rfl, hcs⟩ := okWide_struct Tryz.underlying23 hval
  obtain ⟨fuel, hf⟩ := h
  obtain ⟨y0, y1, y2, n, hx, hl, h0, h1, h2⟩ := Go.Deep.trod_struct3 Tryz.underlying23 hf
  have hc : Tryz.prog.cellsOf 23 = 3 := by kernel_rfl
  have hc9 : Tryz.prog.cellsOf 9 = 1 := by kernel_rfl
  have hc3 : Tryz.prog.cellsOf 3 = 1 := by kernel_rfl
  rw [hc] at hcs
  obtain ⟨u0, u1, u2, rfl⟩ : ∃ u0 u1 u2, cs = #[u0, u1, u2] := by
    obtain ⟨l⟩ := cs
    match l, hcs with
    | [u0, u1, u2], _ => exact ⟨u0, u1, u2, rfl⟩
  simp only [hc9, hc3, Value.cells, List.drop_zero, List.drop_succ_cons, List.take_succ_cons, List.take_zero] at h0 h1 h2
  obtain ⟨s, e0, g0, w0⟩ := DataW.trod_string Tryz.underlying9 h0
  obtain ⟨m, e1, g1, w1⟩ := DataW.trod_int Tryz.underlying3 h1
  obtain ⟨k, e2, g2, w2⟩ := DataW.trod_int Tryz.underlying3 h2
  simp only [List.cons.injEq, and_true] at e0 e1 e2
  subst e0 e1 e2
  subst g0 g1 g2
  have hd : d = .agg [.lit (.string s.data.toList), .lit (.int .i64 m), .lit (.int .i64 k)] := congrArg Prod.fst hx
  have hp : p = [] := congrArg Prod.snd hx
  exact ⟨s, m, k, rfl, hd, hp, w0, w1, w2⟩
theorem string_mk {H : Type} {enc : TypeId × Value → H} {w : World} {base : Nat} {spare : Nat → Bool} {held : Bool} {s : ByteArray} (m : Nat) (hs : s.size ≤ maxLen) :
    DataW.trod enc Tryz.prog w base spare held (m + 1) 9 [.string s] = some (.lit (.string s.data.toList), []) := by
  simp [DataW.trod, Tryz.underlying9, hs]
set_option maxRecDepth 100000 in
theorem shut_spot {H : Type} {enc : TypeId × Value → H} {w : World} {base : Nat} {spare : Nat → Bool} {held : Bool} {n k : Int} {s : ByteArray} (w0 : s.size ≤ maxLen) (w1 : (Lit.int .i64 n).wf = true) (w2 : (Lit.int .i64 k).wf = true) :
    DataW.Trod enc Tryz.prog w base spare held 23 (.agg #[.string s, .int .i64 n, .int .i64 k]) (.agg [.lit (.string s.data.toList), .lit (.int .i64 n), .lit (.int .i64 k)]) [] := by
  have hc : Tryz.prog.cellsOf 23 = 3 := by kernel_rfl
  have hc9 : Tryz.prog.cellsOf 9 = 1 := by kernel_rfl
  have hc3 : Tryz.prog.cellsOf 3 = 1 := by kernel_rfl
  refine ⟨2, ?_⟩
  have := Go.Deep.trod_struct3_mk (enc := enc) (w := w) (base := base) (spare := spare) (held := held) (n := 1) (cs := [.string s, .int .i64 n, .int .i64 k]) (y0 := (.lit (.string s.data.toList), [])) (y1 := (.lit (.int .i64 n), [])) (y2 := (.lit (.int .i64 k), [])) Tryz.underlying23 (by rw [hc]; rfl)
    (by rw [hc9]; exact string_mk 0 w0) (by rw [hc3]; exact trod_int_mk 0 Tryz.underlying3 w1) (by rw [hc3]; exact trod_int_mk 0 Tryz.underlying3 w2)
  exact this
end Go.Proofs.YtgminjlnnpaefaaGreatDoor
